/- The reference: Tick. -/
import Derived.Test.YthdhodopmffdmaaZtQ
namespace Go.Proofs.Ythdhodopmffdmaa
open Go.RowKit

def RTk (base rb : Nat) (z : Zs) (l : Offs) (w w' : World) : Prop := RAt w' base rb z l ∧ Kept [rb] w w'
theorem RTk.set4 {base rb : Nat} {z : Zs} {l : Offs} {w w' : World} (h : RTk base rb z l w w') (hb : rb < base) (n : Int) : RTk base rb { z with taken := n } l w (w'.setCell ⟨rb, 4, none⟩ (.int .i64 n)) := by
  obtain ⟨⟨v, h1, h2⟩, h3⟩ := h
  exact ⟨⟨v, rset4 h1 n, owns_set h2 hb⟩, h3.setCell (.inl (by simp)) _⟩
theorem RTk.set5 {base rb : Nat} {z : Zs} {l : Offs} {w w' : World} (h : RTk base rb z l w w') (hb : rb < base) (n : Bool) : RTk base rb { z with held := n } l w (w'.setCell ⟨rb, 5, none⟩ (.bool n)) := by
  obtain ⟨⟨v, h1, h2⟩, h3⟩ := h
  exact ⟨⟨v, rset5 h1 n, owns_set h2 hb⟩, h3.setCell (.inl (by simp)) _⟩
theorem RTk.set6 {base rb : Nat} {z : Zs} {l : Offs} {w w' : World} (h : RTk base rb z l w w') (hb : rb < base) (n : Int) : RTk base rb { z with until_ := n } l w (w'.setCell ⟨rb, 6, none⟩ (.int .i64 n)) := by
  obtain ⟨⟨v, h1, h2⟩, h3⟩ := h
  exact ⟨⟨v, rset6 h1 n, owns_set h2 hb⟩, h3.setCell (.inl (by simp)) _⟩
theorem RTk.cells {base rb : Nat} {z : Zs} {l : Offs} {w w' : World} (h : RTk base rb z l w w') : (w'.cell? ⟨rb, 4, none⟩ = some (.int .i64 z.taken) ∧ w'.cell? ⟨rb, 5, none⟩ = some (.bool z.held) ∧ w'.cell? ⟨rb, 6, none⟩ = some (.int .i64 z.until_)) ∧ rb < w'.heap.size ∧ w'.frozen? ⟨rb, 4, none⟩ = false ∧ w'.frozen? ⟨rb, 5, none⟩ = false ∧ w'.frozen? ⟨rb, 6, none⟩ = false := by
  obtain ⟨⟨v, h1, h2⟩, h3⟩ := h
  have k1 := cells_all h1
  simp only [CellsAt, Nat.reduceAdd, and_true] at k1
  obtain ⟨-, -, -, -, c4, c5, c6⟩ := k1
  exact ⟨⟨c4, c5, c6⟩, size_of h1, frz h1 4, frz h1 5, frz h1 6⟩
def rtickPost (base rb : Nat) (z : Zs) (l : Offs) (now : Int) (w : World) (e : Ending) (w' : World) : Prop := e = .returned (.int .i64 (tickC now)) ∧ RTk base rb (tickS z l now).1 (tickS z l now).2 w w'
theorem rtick_fin {base rb : Nat} {z z' : Zs} {l : Offs} {now n : Int} {w w' : World} (hm : momB now = true) (hn : bestM (liveM l now) = n) (ht : RTk base rb z' (liveM l now) w w') (hz : tickZ z n now = z') : rtickPost base rb z l now w (.returned (.int .i64 0)) w' := by
  refine ⟨?_, ?_⟩
  · rw [tickC, if_pos hm]
  · rw [tickS, if_pos hm, hn, hz]; exact ht
theorem live_take {l : Offs} {i : Nat} {x : Int × (Int × Int)} {now : Int} (h : l[i]? = some x) : liveM (l.take (i + 1)) now = liveM (l.take i) now ++ (if now < x.2.2 then [x] else []) := by
  unfold liveM
  rw [List.take_add_one, h, List.filter_append]
  by_cases hk : now < x.2.2 <;> simp [hk]
theorem live_len (l : Offs) (i : Nat) (now : Int) : (liveM (l.take i) now).length ≤ l.length := by
  have := List.length_filter_le (fun p : Int × (Int × Int) => decide (now < p.2.2)) (l.take i)
  unfold liveM
  rw [List.length_take] at this
  omega

set_option maxRecDepth 100000 in
set_option maxHeartbeats 4000000 in
theorem rtick_calls (base rb : Nat) (z : Zs) (l : Offs) (w : World) (now : Int) (h : RAt w base rb z l) (hl : l.length ≤ 64) (hB : base ≤ w.heap.size) (hrb : rb < base) :
    Calls Try.prog 15 #[.pointer (some ⟨rb, 0, none⟩), .int .i64 now] w (rtickPost base rb z l now w) := by
  cases hm : momB now
  · have HM := Lib.hid hm
    clear hm
    go_enter Try.func15, Try.ntmps15
    go_wp2_with ((go_at_call 23; refine (rmoment_calls now _).mono ?_; rintro e w' ⟨rfl, rfl⟩; rw [HM.out]))
    go_ret
    exact ⟨ret_i (show (1 : Int) = tickC now by rw [tickC, if_neg (by rw [HM.out]; simp)]), by rw [tickS, if_neg (by rw [HM.out]; simp)]; exact ⟨h, Kept.refl _ _⟩⟩
  obtain ⟨a, c, hk, hr⟩ := rat_row h
  have e3 : IntKind.i64.wrap (now + 3) = now + 3 := by
    have hmle := momB_le hm
    exact IntWalk.i64_in _ (by omega)
  have HK := Lib.hid hk
  have HR := Lib.hid hr
  have HM := Lib.hid hm
  have hlt : rb < w.heap.size := size_of hk
  have k1 := cells_all hk
  simp only [CellsAt, Nat.reduceAdd, and_true] at k1
  obtain ⟨-, -, -, c3, -, -, -⟩ := k1
  obtain ⟨i0, hi, hz0, hz1, hz2⟩ := info_parts info54
  clear h hm hk hr
  go_enter Try.func15, Try.ntmps15
  go_wp2_with ((go_at_call 23; refine (rmoment_calls now _).mono ?_; rintro e w' ⟨rfl, rfl⟩; rw [HM.out]))
  go_loopg [6, 7] (l.length + 1) (fun g v k wr => ∃ i : Nat, i ≤ l.length ∧ g + i = l.length + 1 ∧ k = .int .i64 i ∧ Hid (FilInv w rb z (.slice a l.length c) (liveM (l.take i) now) v wr))
  case atStart => exact ⟨0, Nat.zero_le _, rfl, rfl, Below.refl _ _, HK.out, World.ownsRow_nil _ _ _ _⟩
  case round =>
    obtain ⟨i, hil, hg, rfl, HI⟩ := hrel
    obtain ⟨hBel, hs, hown⟩ := HI.out
    have HO := Lib.hid hown
    have HB := Lib.hid hBel
    have HS := Lib.hid hs
    have hsc := cells_all hs
    have hy := size_of hs
    have hsz := hBel.size
    simp only [CellsAt, Nat.reduceAdd, and_true] at hsc
    obtain ⟨-, -, -, s3, -, -, -⟩ := hsc
    clear hown hBel hs HI
    by_cases hlt2 : i < l.length
    · have e1 : IntKind.i64.wrap ((i : Int) + 1) = (i : Int) + 1 := IntWalk.i64_in _ (by omega)
      obtain ⟨b, off, cs, rfl, hc, hR⟩ := HR.out.get (List.getElem?_eq_getElem hlt2)
      have hgx : l[i]? = some l[i] := List.getElem?_eq_getElem hlt2
      generalize l[i] = x at hR hgx
      obtain ⟨⟨d0, d1, d2⟩, dl⟩ := off_cells (show CellsOff w b (off + i * 3) 0 cs from hc) hR HB.out
      have HD := Lib.hid (live_take (now := now) hgx)
      clear hc hR hgx
      by_cases hkk : now < x.2.2
      · have bk : decide (now < x.2.2) = true := decide_eq_true hkk
        rw [if_pos hkk] at HD
        go_wp2_with (at_builtin; refine wpList_append_own _ rfl _ _ 47 rfl w.heap.size 54 i0 _ 3 24 Try.underlying47 hi hz0 hz1 hz2 rfl (by decide) _ _ _ rfl (HO.out.alloc _) ⟨wr.heap.size, 0, Option.none⟩ 1 1 (ofCells x) rfl rfl ?c1 ?c2 ?c3 ?c4 ?c5 ?_)
        case c1 => exact new_cells wr (ofCells x) 54
        case c2 => intro u hu; simp only [ofCells, List.mem_cons, List.not_mem_nil, or_false] at hu; rcases hu with rfl | rfl | rfl <;> rfl
        case c3 => have := live_len l i now; unfold maxLen; omega
        case c4 => have := live_len l i now; omega
        case c5 => rw [World.size_alloc]; omega
        intro v' w3 hown3 hgrow3 _
        have hB3 : Below w.heap.size w w3 := (HB.out.alloc hsz _).grown hgrow3 (by rw [World.size_alloc]; omega) (fun k hk => (HO.out.lt k hk).1)
        have hS3 := blk_grown hgrow3 (blk_alloc HS.out _) (fun he => by have := (HO.out.lt _ he.symm).1; omega)
        have HO3 := Lib.hid hown3
        have HB3 := Lib.hid hB3
        have HS3 := Lib.hid hS3
        clear hown3 hgrow3 hB3 hS3
        go_wp2_with (fail)
        go_roundg (l.length - i)
        case measure => omega
        case rel => exact ⟨i + 1, by omega, by omega, by go_num, Lib.hid ⟨HB3.out, HS3.out, by rw [HD.out, List.length_append, List.flatMap_append]; simpa using HO3.out⟩⟩
      · have bk : decide (now < x.2.2) = false := decide_eq_false hkk
        rw [if_neg hkk, List.append_nil] at HD
        go_wp2_with (fail)
        go_roundg (l.length - i)
        case measure => omega
        case rel => exact ⟨i + 1, by omega, by omega, by go_num, Lib.hid ⟨HB.out, HS.out, by rw [HD.out]; exact HO.out⟩⟩
    · have hlt3 : ¬ (i : Int) < l.length := by omega
      have bl : decide ((i : Int) < l.length) = false := decide_eq_false hlt3
      have hfull : l.take i = l := List.take_of_length_le (by omega)
      rw [hfull] at HO
      clear hfull hlt2
      have f3 := frz HS.out 3
      obtain ⟨a', c', hv⟩ := owns_slice HO.out
      subst hv
      have hlen : (liveM l now).length ≤ 64 := by have := live_len l l.length now; rw [List.take_length] at this; omega
      have HF := Lib.hid (roff_fin HB.out HS.out HO.out hB hrb)
      generalize hbn : bestM (liveM l now) = n
      have HN := Lib.hid hbn
      clear HO HS
      have b3 : decide (now + 3 ≤ now) = false := decide_eq_false (by omega)
      cases hh : z.held <;> have HH := Lib.hid hh <;> clear hh
      · rcases Int.lt_trichotomy z.taken n with ht | ht | ht
        · have b1 : decide (z.taken < n) = true := decide_eq_true ht
          have HC := Lib.hid b1
          go_wp2_with ((go_at_call 19; refine (rbest_calls base rb z (liveM l now) _ HF.out.1 (by omega)).mono ?_; rintro e w' ⟨rfl, rfl⟩; rw [HN.out]; have HT : Hid (RTk base rb z (liveM l now) w (wr.setCell ⟨rb, 3, none⟩ (.slice a' (liveM l now).length c'))) := Lib.hid HF.out; obtain ⟨⟨c4, c5, c6⟩, y4, f4, f5, f6⟩ := HT.out.cells; rw [HH.out] at c5))
          go_ret
          exact rtick_fin HM.out HN.out (HT.out.set4 hrb n) (by simp [tickZ, HC.out, HH.out])
        · have b1 : decide (z.taken < n) = false := decide_eq_false (by omega)
          have b2 : decide (n < z.taken) = false := decide_eq_false (by omega)
          have HC := Lib.hid (And.intro b1 b2)
          clear ht
          go_wp2_with ((go_at_call 19; refine (rbest_calls base rb z (liveM l now) _ HF.out.1 (by omega)).mono ?_; rintro e w' ⟨rfl, rfl⟩; rw [HN.out]; have HT : Hid (RTk base rb z (liveM l now) w (wr.setCell ⟨rb, 3, none⟩ (.slice a' (liveM l now).length c'))) := Lib.hid HF.out; obtain ⟨⟨c4, c5, c6⟩, y4, f4, f5, f6⟩ := HT.out.cells; rw [HH.out] at c5))
          go_ret
          exact rtick_fin HM.out HN.out HT.out (by simp [tickZ, HC.out.1, HC.out.2, HH.out])
        · have b1 : decide (z.taken < n) = false := decide_eq_false (by omega)
          have b2 : decide (n < z.taken) = true := decide_eq_true ht
          have HC := Lib.hid (And.intro b1 b2)
          go_wp2_with ((go_at_call 19; refine (rbest_calls base rb z (liveM l now) _ HF.out.1 (by omega)).mono ?_; rintro e w' ⟨rfl, rfl⟩; rw [HN.out]; have HT : Hid (RTk base rb z (liveM l now) w (wr.setCell ⟨rb, 3, none⟩ (.slice a' (liveM l now).length c'))) := Lib.hid HF.out; obtain ⟨⟨c4, c5, c6⟩, y4, f4, f5, f6⟩ := HT.out.cells; rw [HH.out] at c5))
          go_ret
          exact rtick_fin HM.out HN.out (((HT.out.set4 hrb 0).set5 hrb true).set6 hrb (now + 3)) (by simp [tickZ, HC.out.1, HC.out.2]; omega)
      · rcases Int.lt_trichotomy z.taken n with ht | ht | ht
        · have b1 : decide (z.taken < n) = true := decide_eq_true ht
          have b2 : decide (n < z.taken) = false := decide_eq_false (by omega)
          by_cases hu : z.until_ ≤ now
          · have b4 : decide (z.until_ ≤ now) = true := decide_eq_true hu
            have HC := Lib.hid (And.intro b1 (And.intro b2 b4))
            go_wp2_with ((go_at_call 19; refine (rbest_calls base rb z (liveM l now) _ HF.out.1 (by omega)).mono ?_; rintro e w' ⟨rfl, rfl⟩; rw [HN.out]; have HT : Hid (RTk base rb z (liveM l now) w (wr.setCell ⟨rb, 3, none⟩ (.slice a' (liveM l now).length c'))) := Lib.hid HF.out; obtain ⟨⟨c4, c5, c6⟩, y4, f4, f5, f6⟩ := HT.out.cells; rw [HH.out] at c5))
            go_ret
            exact rtick_fin HM.out HN.out ((HT.out.set5 hrb false).set4 hrb n) (by simp [tickZ, HC.out.1, HC.out.2.1, HC.out.2.2, HH.out])
          · have b4 : decide (z.until_ ≤ now) = false := decide_eq_false hu
            have HC := Lib.hid (And.intro b1 (And.intro b2 b4))
            go_wp2_with ((go_at_call 19; refine (rbest_calls base rb z (liveM l now) _ HF.out.1 (by omega)).mono ?_; rintro e w' ⟨rfl, rfl⟩; rw [HN.out]; have HT : Hid (RTk base rb z (liveM l now) w (wr.setCell ⟨rb, 3, none⟩ (.slice a' (liveM l now).length c'))) := Lib.hid HF.out; obtain ⟨⟨c4, c5, c6⟩, y4, f4, f5, f6⟩ := HT.out.cells; rw [HH.out] at c5))
            go_ret
            exact rtick_fin HM.out HN.out HT.out (by simp [tickZ, HC.out.1, HC.out.2.1, HC.out.2.2, HH.out])
        · have b1 : decide (z.taken < n) = false := decide_eq_false (by omega)
          have b2 : decide (n < z.taken) = false := decide_eq_false (by omega)
          clear ht
          by_cases hu : z.until_ ≤ now
          · have b4 : decide (z.until_ ≤ now) = true := decide_eq_true hu
            have HC := Lib.hid (And.intro b1 (And.intro b2 b4))
            go_wp2_with ((go_at_call 19; refine (rbest_calls base rb z (liveM l now) _ HF.out.1 (by omega)).mono ?_; rintro e w' ⟨rfl, rfl⟩; rw [HN.out]; have HT : Hid (RTk base rb z (liveM l now) w (wr.setCell ⟨rb, 3, none⟩ (.slice a' (liveM l now).length c'))) := Lib.hid HF.out; obtain ⟨⟨c4, c5, c6⟩, y4, f4, f5, f6⟩ := HT.out.cells; rw [HH.out] at c5))
            go_ret
            exact rtick_fin HM.out HN.out ((HT.out.set5 hrb false).set4 hrb n) (by simp [tickZ, HC.out.1, HC.out.2.1, HC.out.2.2, HH.out])
          · have b4 : decide (z.until_ ≤ now) = false := decide_eq_false hu
            have HC := Lib.hid (And.intro b1 (And.intro b2 b4))
            go_wp2_with ((go_at_call 19; refine (rbest_calls base rb z (liveM l now) _ HF.out.1 (by omega)).mono ?_; rintro e w' ⟨rfl, rfl⟩; rw [HN.out]; have HT : Hid (RTk base rb z (liveM l now) w (wr.setCell ⟨rb, 3, none⟩ (.slice a' (liveM l now).length c'))) := Lib.hid HF.out; obtain ⟨⟨c4, c5, c6⟩, y4, f4, f5, f6⟩ := HT.out.cells; rw [HH.out] at c5))
            go_ret
            exact rtick_fin HM.out HN.out HT.out (by simp [tickZ, HC.out.1, HC.out.2.1, HC.out.2.2, HH.out])
        · have b1 : decide (z.taken < n) = false := decide_eq_false (by omega)
          have b2 : decide (n < z.taken) = true := decide_eq_true ht
          have HC := Lib.hid (And.intro b1 b2)
          go_wp2_with ((go_at_call 19; refine (rbest_calls base rb z (liveM l now) _ HF.out.1 (by omega)).mono ?_; rintro e w' ⟨rfl, rfl⟩; rw [HN.out]; have HT : Hid (RTk base rb z (liveM l now) w (wr.setCell ⟨rb, 3, none⟩ (.slice a' (liveM l now).length c'))) := Lib.hid HF.out; obtain ⟨⟨c4, c5, c6⟩, y4, f4, f5, f6⟩ := HT.out.cells; rw [HH.out] at c5))
          go_ret
          exact rtick_fin HM.out HN.out (((HT.out.set4 hrb 0).set5 hrb true).set6 hrb (now + 3)) (by simp [tickZ, HC.out.1, HC.out.2]; omega)
end Go.Proofs.Ythdhodopmffdmaa
