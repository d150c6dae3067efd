/- The reference: Offer. -/
import Derived.Test.YthdhodopmffdmaaZtP
namespace Go.Proofs.Ythdhodopmffdmaa
open Go.RowKit

theorem info54 : (Try.prog.info? 54).map (fun i => (i.zero, i.size, i.bytes)) = some (some (.agg #[(.int .i64 0), (.int .i64 0), (.int .i64 0)]), 3, 24) := by kernel_rfl
theorem owns_mono {w : World} {base base' e size n : Nat} {v : Value} {xs : List Value} (h : w.ownsRow base e size v n xs) (hb : base' ≤ base) : w.ownsRow base' e size v n xs := by
  obtain ⟨h1, h2⟩ := h
  refine ⟨h1, ?_⟩
  rcases h2 with h2 | ⟨g, cap, cur, h3, h4, h5⟩
  · exact .inl h2
  · exact .inr ⟨g, cap, cur, h3, Nat.le_trans hb h4, h5⟩
theorem owns_set {w : World} {base e size n rb o : Nat} {v u : Value} {xs : List Value} (h : w.ownsRow base e size v n xs) (hb : rb < base) : (w.setCell ⟨rb, o, none⟩ u).ownsRow base e size v n xs := by
  obtain ⟨h1, h2⟩ := h
  refine ⟨h1, ?_⟩
  rcases h2 with h2 | ⟨g, cap, cur, h3, h4, h5, h6⟩
  · exact .inl h2
  · exact .inr ⟨g, cap, cur, h3, h4, by rw [Below.heap_setCell _ _ _ _ (show g ≠ rb by omega)]; exact h5, h6⟩
theorem owns_kept {w w' : World} {l : List Nat} {base e size n : Nat} {v : Value} {xs : List Value} (h : w.ownsRow base e size v n xs) (hk : Kept l w w') (hl : ∀ k ∈ l, k < base) : w'.ownsRow base e size v n xs := by
  obtain ⟨h1, h2⟩ := h
  refine ⟨h1, ?_⟩
  rcases h2 with h2 | ⟨g, cap, cur, h3, h4, h5, h6⟩
  · exact .inl h2
  · exact .inr ⟨g, cap, cur, h3, h4, hk.blk h5 (fun hm => by have := hl g hm; omega), h6⟩
theorem owns_slice {w : World} {base e size n : Nat} {v : Value} {xs : List Value} (h : w.ownsRow base e size v n xs) : ∃ a c, v = .slice a n c := by
  rcases h.2 with ⟨rfl, rfl⟩ | ⟨g, cap, cur, rfl, _⟩
  · exact ⟨_, _, rfl⟩
  · exact ⟨_, _, rfl⟩
theorem rset3 {w : World} {rb : Nat} {z : Zs} {v : Value} (h : w.heap[rb]? = some (rBlk z v)) (u : Value) : (w.setCell ⟨rb, 3, none⟩ u).heap[rb]? = some (rBlk z u) := blk_set h 3 _
theorem rset4 {w : World} {rb : Nat} {z : Zs} {v : Value} (h : w.heap[rb]? = some (rBlk z v)) (n : Int) : (w.setCell ⟨rb, 4, none⟩ (.int .i64 n)).heap[rb]? = some (rBlk { z with taken := n } v) := blk_set h 4 _
theorem rset5 {w : World} {rb : Nat} {z : Zs} {v : Value} (h : w.heap[rb]? = some (rBlk z v)) (n : Bool) : (w.setCell ⟨rb, 5, none⟩ (.bool n)).heap[rb]? = some (rBlk { z with held := n } v) := blk_set h 5 _
theorem rset6 {w : World} {rb : Nat} {z : Zs} {v : Value} (h : w.heap[rb]? = some (rBlk z v)) (n : Int) : (w.setCell ⟨rb, 6, none⟩ (.int .i64 n)).heap[rb]? = some (rBlk { z with until_ := n } v) := blk_set h 6 _

def roffM (l : Offs) (link level : Int) (none : Bool) (now : Int) : Int × Offs :=
  if badO link level now then (1, l)
  else if decide (level < 1) || none then (0, delM l link)
  else if 64 ≤ (delM l link).length then (3, l)
  else (0, delM l link ++ [(link, (level, now + 4))])
def roffPost (base rb : Nat) (z : Zs) (w : World) (r : Int × Offs) (e : Ending) (w' : World) : Prop := e = .returned (.int .i64 r.1) ∧ RAt w' base rb z r.2 ∧ Kept [rb] w w'
theorem roffM_bad {l : Offs} {link level now : Int} {none : Bool} (h : badO link level now = true) : roffM l link level none now = (1, l) := by rw [roffM, if_pos h]

set_option maxHeartbeats 1000000 in
theorem roffer_bad (base rb : Nat) (z : Zs) (l : Offs) (w : World) (link level now : Int) (none : Bool) (hbad : badO link level now = true) (h : RAt w base rb z l) :
    Calls Try.prog 13 #[.pointer (some ⟨rb, 0, Option.none⟩), .int .i64 link, .int .i64 level, .bool none, .int .i64 now] w (roffPost base rb z w (roffM l link level none now)) := by
  rw [roffM_bad hbad]
  have HZ := Lib.hid h
  have HB := Lib.hid hbad
  clear h hbad
  by_cases h1 : link < 0
  · have b1 : decide (link < 0) = true := decide_eq_true h1
    go_enter Try.func13, Try.ntmps13
    go_wp2_with ((go_at_call 23; refine (rmoment_calls now _).mono ?_; rintro e w' ⟨rfl, rfl⟩))
    go_ret
    exact ⟨rfl, HZ.out, Kept.refl _ _⟩
  · have b1 : decide (link < 0) = false := decide_eq_false h1
    by_cases h2 : 65535 < link
    · have b2 : decide (65535 < link) = true := decide_eq_true h2
      go_enter Try.func13, Try.ntmps13
      go_wp2_with ((go_at_call 23; refine (rmoment_calls now _).mono ?_; rintro e w' ⟨rfl, rfl⟩))
      go_ret
      exact ⟨rfl, HZ.out, Kept.refl _ _⟩
    · have b2 : decide (65535 < link) = false := decide_eq_false h2
      by_cases h3 : level < -1
      · have b3 : decide (level < -1) = true := decide_eq_true h3
        go_enter Try.func13, Try.ntmps13
        go_wp2_with ((go_at_call 23; refine (rmoment_calls now _).mono ?_; rintro e w' ⟨rfl, rfl⟩))
        go_ret
        exact ⟨rfl, HZ.out, Kept.refl _ _⟩
      · have b3 : decide (level < -1) = false := decide_eq_false h3
        by_cases h4 : 24 < level
        · have b4 : decide (24 < level) = true := decide_eq_true h4
          go_enter Try.func13, Try.ntmps13
          go_wp2_with ((go_at_call 23; refine (rmoment_calls now _).mono ?_; rintro e w' ⟨rfl, rfl⟩))
          go_ret
          exact ⟨rfl, HZ.out, Kept.refl _ _⟩
        · have b4 : decide (24 < level) = false := decide_eq_false h4
          have HM : Hid (momB now = false) := by
            have := HB.out
            rw [badO, b1, b2, b3, b4] at this
            exact Lib.hid (by simpa using this)
          go_enter Try.func13, Try.ntmps13
          go_wp2_with ((go_at_call 23; refine (rmoment_calls now _).mono ?_; rintro e w' ⟨rfl, rfl⟩; rw [HM.out]))
          go_ret
          exact ⟨rfl, HZ.out, Kept.refl _ _⟩

def FilInv (w : World) (rb : Nat) (z : Zs) (r : Value) (l' : Offs) (v : Value) (wr : World) : Prop :=
  Below w.heap.size w wr ∧ wr.heap[rb]? = some (rBlk z r) ∧ wr.ownsRow w.heap.size 54 3 v l'.length (l'.flatMap ofCells)
theorem delM_take {l : Offs} {i : Nat} {x : Int × (Int × Int)} {k : Int} (h : l[i]? = some x) : delM (l.take (i + 1)) k = delM (l.take i) k ++ (if x.1 = k then [] else [x]) := by
  unfold delM
  rw [List.take_add_one, h, List.filter_append]
  by_cases hk : x.1 = k <;> simp [hk]
theorem delM_len (l : Offs) (i : Nat) (k : Int) : (delM (l.take i) k).length ≤ l.length := by
  have := List.length_filter_le (fun p : Int × (Int × Int) => p.1 != k) (l.take i)
  unfold delM
  rw [List.length_take] at this
  omega

theorem roff_fin {w wr : World} {base rb : Nat} {z : Zs} {r v : Value} {l : Offs} (hb : Below w.heap.size w wr) (hs : wr.heap[rb]? = some (rBlk z r)) (ho : wr.ownsRow w.heap.size 54 3 v l.length (l.flatMap ofCells)) (h1 : base ≤ w.heap.size) (h2 : rb < base) :
    RAt (wr.setCell ⟨rb, 3, none⟩ v) base rb z l ∧ Kept [rb] w (wr.setCell ⟨rb, 3, none⟩ v) :=
  ⟨⟨v, rset3 hs v, owns_set (owns_mono ho h1) h2⟩, ((Kept.of_below hb).more (by simp)).setCell (.inl (by simp)) _⟩

set_option maxRecDepth 100000 in
set_option maxHeartbeats 2000000 in
theorem roffer_calls (base rb : Nat) (z : Zs) (l : Offs) (w : World) (link level now : Int) (none : Bool) (h : RAt w base rb z l) (hl : l.length ≤ 64) (hB : base ≤ w.heap.size) (hrb : rb < base) :
    Calls Try.prog 13 #[.pointer (some ⟨rb, 0, Option.none⟩), .int .i64 link, .int .i64 level, .bool none, .int .i64 now] w (roffPost base rb z w (roffM l link level none now)) := by
  cases hbad : badO link level now
  case true => exact roffer_bad base rb z l w link level now none hbad h
  obtain ⟨⟨b1, b2, b3, b4⟩, hm⟩ := badO_not hbad
  have h1 : ¬ link < 0 := of_decide_eq_false b1
  have h2 : ¬ 65535 < link := of_decide_eq_false b2
  have h3 : ¬ level < -1 := of_decide_eq_false b3
  have h4 : ¬ 24 < level := of_decide_eq_false b4
  obtain ⟨a, c, hk, hr⟩ := rat_row h
  have hmle := momB_le hm
  have e4 : IntKind.i64.wrap (now + 4) = now + 4 := IntWalk.i64_in _ (by omega)
  clear hmle
  have HZ := Lib.hid h
  have HK := Lib.hid hk
  have HR := Lib.hid hr
  have HM := Lib.hid hm
  have HBAD := Lib.hid hbad
  have hlt : rb < w.heap.size := size_of hk
  have k1 := cells_all hk
  simp only [CellsAt, Nat.reduceAdd, and_true] at k1
  obtain ⟨-, -, -, c3, -, -, -⟩ := k1
  obtain ⟨i0, hi, hz0, hz1, hz2⟩ := info_parts info54
  clear h hm hbad hk hr
  go_enter Try.func13, Try.ntmps13
  go_wp2_with ((go_at_call 23; refine (rmoment_calls now _).mono ?_; rintro e w' ⟨rfl, rfl⟩; rw [HM.out]))
  go_loopg [12, 13] (l.length + 1) (fun g v k wr => ∃ i : Nat, i ≤ l.length ∧ g + i = l.length + 1 ∧ k = .int .i64 i ∧ Hid (FilInv w rb z (.slice a l.length c) (delM (l.take i) link) v wr))
  case atStart => exact ⟨0, Nat.zero_le _, rfl, rfl, Below.refl _ _, HK.out, World.ownsRow_nil _ _ _ _⟩
  case round =>
    obtain ⟨i, hil, hg, rfl, HI⟩ := hrel
    obtain ⟨hBel, hs, hown⟩ := HI.out
    have HO := Lib.hid hown
    have HB := Lib.hid hBel
    have HS := Lib.hid hs
    have hsc := cells_all hs
    have hy := size_of hs
    have hsz := hBel.size
    simp only [CellsAt, Nat.reduceAdd, and_true] at hsc
    obtain ⟨-, -, -, s3, -, -, -⟩ := hsc
    clear hown hBel hs HI
    by_cases hlt2 : i < l.length
    · have e1 : IntKind.i64.wrap ((i : Int) + 1) = (i : Int) + 1 := IntWalk.i64_in _ (by omega)
      obtain ⟨b, off, cs, rfl, hc, hR⟩ := HR.out.get (List.getElem?_eq_getElem hlt2)
      have hgx : l[i]? = some l[i] := List.getElem?_eq_getElem hlt2
      generalize l[i] = x at hR hgx
      obtain ⟨⟨d0, d1, d2⟩, dl⟩ := off_cells (show CellsOff w b (off + i * 3) 0 cs from hc) hR HB.out
      have HD := Lib.hid (delM_take (k := link) hgx)
      clear hc hR hgx
      by_cases hkk : x.1 = link
      · have bk : (x.1 == link) = true := by simpa using hkk
        rw [if_pos hkk, List.append_nil] at HD
        clear hkk
        go_wp2_with (fail)
        go_roundg (l.length - i)
        case measure => omega
        case rel => exact ⟨i + 1, by omega, by omega, by go_num, Lib.hid ⟨HB.out, HS.out, by rw [HD.out]; exact HO.out⟩⟩
      · have bk : (x.1 == link) = false := by simpa using hkk
        rw [if_neg hkk] at HD
        clear hkk
        go_wp2_with (at_builtin; refine wpList_append_own _ rfl _ _ 47 rfl w.heap.size 54 i0 _ 3 24 Try.underlying47 hi hz0 hz1 hz2 rfl (by decide) _ _ _ rfl (HO.out.alloc _) ⟨wr.heap.size, 0, Option.none⟩ 1 1 (ofCells x) rfl rfl ?c1 ?c2 ?c3 ?c4 ?c5 ?_)
        case c1 => exact new_cells wr (ofCells x) 54
        case c2 => intro u hu; simp only [ofCells, List.mem_cons, List.not_mem_nil, or_false] at hu; rcases hu with rfl | rfl | rfl <;> rfl
        case c3 => have := delM_len l i link; unfold maxLen; omega
        case c4 => have := delM_len l i link; omega
        case c5 => rw [World.size_alloc]; omega
        intro v' w3 hown3 hgrow3 _
        have hB3 : Below w.heap.size w w3 := (HB.out.alloc hsz _).grown hgrow3 (by rw [World.size_alloc]; omega) (fun k hk => (HO.out.lt k hk).1)
        have hS3 := blk_grown hgrow3 (blk_alloc HS.out _) (fun he => by have := (HO.out.lt _ he.symm).1; omega)
        have HO3 := Lib.hid hown3
        have HB3 := Lib.hid hB3
        have HS3 := Lib.hid hS3
        clear hown3 hgrow3 hB3 hS3
        go_wp2_with (fail)
        go_roundg (l.length - i)
        case measure => omega
        case rel => exact ⟨i + 1, by omega, by omega, by go_num, Lib.hid ⟨HB3.out, HS3.out, by rw [HD.out, List.length_append, List.flatMap_append]; simpa using HO3.out⟩⟩
    · have hlt3 : ¬ (i : Int) < l.length := by omega
      have bl : decide ((i : Int) < l.length) = false := decide_eq_false hlt3
      have hfull : l.take i = l := List.take_of_length_le (by omega)
      rw [hfull] at HO
      clear hfull hlt2
      have f3 := frz HS.out 3
      obtain ⟨a', c', hv, -⟩ := row_of_owns (A := rOff) ofCells HO.out (fun _ => rfl) (fun x _ => rfl)
      subst hv
      have hlen : (delM l link).length ≤ 64 := by have := delM_len l l.length link; rw [List.take_length] at this; omega
      by_cases h5 : level < 1
      · have b5 : decide (level < 1) = true := decide_eq_true h5
        have HE := Lib.hid (show roffM l link level none now = (0, delM l link) by rw [roffM, if_neg (by rw [HBAD.out]; simp), if_pos (by rw [b5]; rfl)])
        cases none <;>
        · go_wp2_with (fail)
          go_ret
          have hf := roff_fin HB.out HS.out HO.out hB hrb
          rw [HE.out]
          exact ⟨rfl, hf.1, hf.2⟩
      have b5 : decide (level < 1) = false := decide_eq_false h5
      cases none
      case true =>
        have HE := Lib.hid (show roffM l link level true now = (0, delM l link) by rw [roffM, if_neg (by rw [HBAD.out]; simp), if_pos (by simp)])
        go_wp2_with (fail)
        go_ret
        have hf := roff_fin HB.out HS.out HO.out hB hrb
        rw [HE.out]
        exact ⟨rfl, hf.1, hf.2⟩
      by_cases h6 : 64 ≤ ((delM l link).length : Int)
      · have b6 : decide (64 ≤ ((delM l link).length : Int)) = true := decide_eq_true h6
        have HE := Lib.hid (show roffM l link level false now = (3, l) by rw [roffM, if_neg (by rw [HBAD.out]; simp), if_neg (by rw [b5]; simp), if_pos (by omega)])
        have HRA : Hid (RAt wr base rb z l) := by
          obtain ⟨v, q1, q2⟩ := HZ.out
          exact ⟨v, blk_below' HB.out q1, owns_below q2 HB.out⟩
        go_wp2_with (fail)
        go_ret
        rw [HE.out]
        exact ⟨rfl, HRA.out, (Kept.of_below HB.out).more (by simp)⟩
      · have b6 : decide (64 ≤ ((delM l link).length : Int)) = false := decide_eq_false h6
        have HE := Lib.hid (show roffM l link level false now = (0, delM l link ++ [(link, (level, now + 4))]) by rw [roffM, if_neg (by rw [HBAD.out]; simp), if_neg (by rw [b5]; simp), if_neg (by omega)])
        go_wp2_with (at_builtin; refine wpList_append_own _ rfl _ _ 47 rfl w.heap.size 54 i0 _ 3 24 Try.underlying47 hi hz0 hz1 hz2 rfl (by decide) _ _ _ rfl (HO.out.alloc _) ⟨wr.heap.size, 0, Option.none⟩ 1 1 (ofCells (link, (level, now + 4))) rfl rfl ?c1 ?c2 ?c3 ?c4 ?c5 ?_)
        case c1 => exact fun _ _ h => h
        case c2 => intro u hu; simp only [ofCells, List.mem_cons, List.not_mem_nil, or_false] at hu; rcases hu with rfl | rfl | rfl <;> rfl
        case c3 => unfold maxLen; omega
        case c4 => omega
        case c5 => omega
        intro v' w3 hown3 hgrow3 _
        obtain ⟨a3, c3', hv3⟩ := owns_slice hown3
        subst hv3
        have hB3 : Below w.heap.size w w3 := (HB.out.alloc hsz _).grown hgrow3 (by rw [World.size_alloc]; omega) (fun k hk => (HO.out.lt k hk).1)
        have hS3 := blk_grown hgrow3 (blk_alloc HS.out _) (fun he => by have := (HO.out.lt _ he.symm).1; omega)
        have HO3 := Lib.hid hown3
        have HB3 := Lib.hid hB3
        have HS3 := Lib.hid hS3
        have hy3 := size_of hS3
        have hsc := cells_all hS3
        simp only [CellsAt, Nat.reduceAdd, and_true] at hsc
        obtain ⟨-, -, -, t3, -, -, -⟩ := hsc
        have f4 := frz HS3.out 3
        clear hown3 hgrow3 hB3 hS3
        go_wp2_with (fail)
        go_ret
        have hf := roff_fin (l := delM l link ++ [(link, (level, now + 4))]) HB3.out HS3.out (by rw [List.length_append, List.flatMap_append]; simpa using HO3.out) hB hrb
        rw [HE.out]
        exact ⟨rfl, hf.1, hf.2⟩
end Go.Proofs.Ythdhodopmffdmaa
