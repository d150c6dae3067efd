/- Tick: time passes. -/
import Derived.Test.YthdhodopmffdmaaZtC
namespace Go.Proofs.Ythdhodopmffdmaa
open Go.RowKit

theorem blk_set {w : World} {b : Nat} {cs : Array Value} {t : TypeId} {fr : Nat × Nat} (h : w.heap[b]? = some (.cells cs t fr)) (o : Nat) (v : Value) : (w.setCell ⟨b, o, none⟩ v).heap[b]? = some (.cells (cs.setIfInBounds o v) t fr) := by
  have hl := size_of h
  have h' := (Array.getElem?_eq_some_iff.1 h).2
  simp only [World.setCell]
  rw [Array.getElem?_eq_getElem (by simpa using hl), Array.getElem_modify_self]
  simp [h']
theorem frz {w : World} {b : Nat} {cs : Array Value} {t : TypeId} (h : w.heap[b]? = some (.cells cs t (0, 0))) (o : Nat) : w.frozen? ⟨b, o, none⟩ = false := by
  simp [World.frozen?, h]
theorem zset4 {w : World} {zb mb : Nat} {z : Zs} (h : w.heap[zb]? = some (zBlk z mb)) (n : Int) : (w.setCell ⟨zb, 4, none⟩ (.int .i64 n)).heap[zb]? = some (zBlk { z with taken := n } mb) := blk_set h 4 _
theorem zset5 {w : World} {zb mb : Nat} {z : Zs} (h : w.heap[zb]? = some (zBlk z mb)) (n : Bool) : (w.setCell ⟨zb, 5, none⟩ (.bool n)).heap[zb]? = some (zBlk { z with held := n } mb) := blk_set h 5 _
theorem zset6 {w : World} {zb mb : Nat} {z : Zs} (h : w.heap[zb]? = some (zBlk z mb)) (n : Int) : (w.setCell ⟨zb, 6, none⟩ (.int .i64 n)).heap[zb]? = some (zBlk { z with until_ := n } mb) := blk_set h 6 _
def liveM (m : Offs) (now : Int) : Offs := m.filter (fun p => decide (now < p.2.2))
def tickZ (z : Zs) (best now : Int) : Zs :=
  let z1 : Zs := if decide (z.taken < best) && !z.held then { z with taken := best } else if decide (best < z.taken) then { z with taken := 0, held := true, until_ := now + 3 } else z
  if z1.held && decide (z1.until_ ≤ now) then { z1 with held := false, taken := best } else z1
def tickPost (zb mb : Nat) (z : Zs) (m : Offs) (now : Int) (w : World) (e : Ending) (w' : World) : Prop :=
  (momB now = true ∧ e = .returned (.int .i64 0) ∧ ZAt w' zb mb (tickZ z (bestM (liveM m now)) now) (liveM m now) ∧ Kept [zb, mb] w w') ∨ (momB now = false ∧ e = .returned (.int .i64 1) ∧ w' = w)
def TickInv (w : World) (mb : Nat) (m : Offs) (now : Int) (g : Nat) (wr : World) : Prop :=
  ∃ mc done, Ranging wr w.heap.size mb offE mc done ∧ leftM mc done < g ∧ Kept [mb] w wr ∧ mc = m.filter (fun p => !done p.1 || decide (now < p.2.2))
theorem live_done {m : Offs} {now : Int} {done : Int → Bool} (h : ∀ p ∈ m.filter (fun p => !done p.1 || decide (now < p.2.2)), done p.1 = true) : m.filter (fun p => !done p.1 || decide (now < p.2.2)) = liveM m now := by
  refine List.filter_congr fun p hp => ?_
  cases hd : done p.1
  · have := h p (List.mem_filter.2 ⟨hp, by simp [hd]⟩)
    rw [hd] at this
    cases this
  · simp
theorem live_keep {m : Offs} (hn : (m.map (·.1)).Nodup) {now k : Int} {x : Int × Int} {done : Int → Bool} (hm : (k, x) ∈ m) (h : now < x.2) : m.filter (fun p => !done p.1 || decide (now < p.2.2)) = m.filter (fun p => !(done p.1 || p.1 == k) || decide (now < p.2.2)) := by
  refine List.filter_congr fun p hp => ?_
  by_cases e : p.1 = k
  · have := mem_key hn hm hp e
    subst this
    simp [h]
  · have hk : (p.1 == k) = false := by simpa using e
    simp [hk]
theorem live_drop {m : Offs} (hn : (m.map (·.1)).Nodup) {now k : Int} {x : Int × Int} {done : Int → Bool} (hm : (k, x) ∈ m) (h : x.2 ≤ now) : delM (m.filter (fun p => !done p.1 || decide (now < p.2.2))) k = m.filter (fun p => !(done p.1 || p.1 == k) || decide (now < p.2.2)) := by
  unfold delM
  rw [List.filter_filter]
  refine List.filter_congr fun p hp => ?_
  by_cases e : p.1 = k
  · have := mem_key hn hm hp e
    subst this
    simp; omega
  · have hk : (p.1 == k) = false := by simpa using e
    simp [hk, bne]
theorem TickInv.start {w w1 : World} {mb : Nat} {m : Offs} {now : Int} (hr : Ranging w1 w.heap.size mb offE m (fun _ => false)) (hb : Below w.heap.size w w1) : TickInv w mb m now (leftM m (fun _ => false) + 1) w1 :=
  ⟨_, _, hr, Nat.lt_succ_self _, (Kept.of_below hb).more (by simp), (List.filter_eq_self.2 (fun p _ => rfl)).symm⟩
theorem TickInv.keep {w w2 : World} {mb : Nat} {m mc : Offs} {now k : Int} {x : Int × Int} {done : Int → Bool} {o : Obj} (hn : (m.map (·.1)).Nodup) (hmc : mc = m.filter (fun p => !done p.1 || decide (now < p.2.2))) (hm : (k, x) ∈ mc) (hr : Ranging w2 w.heap.size mb offE mc (fun j => done j || j == k)) (hK : Kept [mb] w w2) (h : now < x.2) :
    TickInv w mb m now (leftM mc (fun j => done j || j == k) + 1) (w2.alloc o) := by
  subst hmc
  exact ⟨_, _, hr.of_blk (Below.heap_alloc _ _ _ hr.at.lt) (Below.heap_alloc _ _ _ hr.lt), Nat.lt_succ_self _, hK.alloc o, live_keep hn (List.mem_filter.1 hm).1 h⟩
theorem TickInv.drop {w w3 : World} {mb : Nat} {m mc : Offs} {now k : Int} {x : Int × Int} {done : Int → Bool} (hn : (m.map (·.1)).Nodup) (hmc : mc = m.filter (fun p => !done p.1 || decide (now < p.2.2))) (hm : (k, x) ∈ mc) (hr : Ranging w3 w.heap.size mb offE (delM mc k) (fun j => done j || j == k)) (hK : Kept [mb] w w3) (h : x.2 ≤ now) :
    TickInv w mb m now (leftM mc (fun j => done j || j == k) + 1) w3 := by
  subst hmc
  exact ⟨_, _, hr, Nat.lt_succ_of_le (leftM_del _), hK, live_drop hn (List.mem_filter.1 hm).1 h⟩

def Tk (zb mb : Nat) (z : Zs) (m : Offs) (w w' : World) : Prop := ZAt w' zb mb z m ∧ Kept [zb, mb] w w'
theorem ZAt.at_set {w : World} {zb mb : Nat} {z z' : Zs} {m : Offs} (h : ZAt w zb mb z m) {o : Nat} {v : Value} (h' : (w.setCell ⟨zb, o, none⟩ v).heap[zb]? = some (zBlk z' mb)) : ZAt (w.setCell ⟨zb, o, none⟩ v) zb mb z' m :=
  ⟨h', h.2.of_blk (Below.heap_setCell _ _ _ _ (fun e => h.ne e.symm))⟩
theorem Tk.set4 {zb mb : Nat} {z : Zs} {m : Offs} {w w' : World} (h : Tk zb mb z m w w') (n : Int) : Tk zb mb { z with taken := n } m w (w'.setCell ⟨zb, 4, none⟩ (.int .i64 n)) :=
  ⟨h.1.at_set (zset4 h.1.1 n), h.2.setCell (.inl (by simp)) _⟩
theorem Tk.set5 {zb mb : Nat} {z : Zs} {m : Offs} {w w' : World} (h : Tk zb mb z m w w') (n : Bool) : Tk zb mb { z with held := n } m w (w'.setCell ⟨zb, 5, none⟩ (.bool n)) :=
  ⟨h.1.at_set (zset5 h.1.1 n), h.2.setCell (.inl (by simp)) _⟩
theorem Tk.set6 {zb mb : Nat} {z : Zs} {m : Offs} {w w' : World} (h : Tk zb mb z m w w') (n : Int) : Tk zb mb { z with until_ := n } m w (w'.setCell ⟨zb, 6, none⟩ (.int .i64 n)) :=
  ⟨h.1.at_set (zset6 h.1.1 n), h.2.setCell (.inl (by simp)) _⟩
theorem tick_fin {zb mb : Nat} {z z' : Zs} {m : Offs} {now n : Int} {w w' : World} (hm : momB now = true) (hn : bestM (liveM m now) = n) (ht : Tk zb mb z' (liveM m now) w w') (hz : tickZ z n now = z') : tickPost zb mb z m now w (.returned (.int .i64 0)) w' :=
  .inl ⟨hm, rfl, by rw [hn, hz]; exact ht.1, ht.2⟩

set_option maxRecDepth 100000 in
set_option maxHeartbeats 1000000 in
theorem tick_calls (zb mb : Nat) (z : Zs) (m : Offs) (w : World) (now : Int) (h : ZAt w zb mb z m) : Calls Try.prog 14 #[.pointer (some ⟨zb, 0, none⟩), .int .i64 now] w (tickPost zb mb z m now w) := by
  have HZ := Lib.hid h
  have k1 := cells_all h.1
  simp only [CellsAt, Nat.reduceAdd, and_true] at k1
  obtain ⟨-, -, -, c3, -, -, -⟩ := k1
  have hlt : zb < w.heap.size := size_of h.1
  have hml : mb < w.heap.size := h.2.lt
  have hne : zb ∉ [mb] := by simp [h.ne]
  have HNE := Lib.hid hne
  clear h hne
  cases hm : momB now
  · have HM := Lib.hid hm
    clear hm
    go_enter Try.func14, Try.ntmps14
    go_wp2_with (refine (moment_calls now _).mono ?_; rintro e w' ⟨rfl, rfl⟩; rw [HM.out])
    go_ret
    exact .inr ⟨HM.out, rfl, rfl⟩
  · have e3 : IntKind.i64.wrap (now + 3) = now + 3 := by
      have hmle := momB_le hm
      exact IntWalk.i64_in _ (by omega)
    have HM := Lib.hid hm
    clear hm
    go_enter Try.func14, Try.ntmps14
    go_wp2_with (first | (refine (moment_calls now _).mono ?_; rintro e w' ⟨rfl, rfl⟩; rw [HM.out]) | (refine wpList_rangeM rfl (.tmp 14) 44 rfl 3 51 Try.underlying44 rfl HZ.out.2 ?_; intro w1 hr1 hb1 hz1; have HI : Hid (TickInv w mb m now (leftM m (fun _ => false) + 1) w1) := TickInv.start hr1 hb1; clear hr1 hb1 hz1))
    go_frame
    go_loopg [] (leftM m (fun _ => false) + 1) (fun g wr => Hid (TickInv w mb m now g wr))
    case atStart => exact HI
    case round =>
      clear HI
      obtain ⟨mc, done, hr, hg, hb, hmc⟩ := hrel.out
      have HR := Lib.hid hr
      have HG := Lib.hid hg
      have HB := Lib.hid hb
      have HN := Lib.hid hmc
      clear hr hg hb hmc
      go_wp2_with (first | (have q2 := (HR2.out.of_blk (w' := w2.alloc (.cells #[.int .i64 x.1, .int .i64 x.2] 51)) (Below.heap_alloc _ _ _ HR2.out.at.lt) (Below.heap_alloc _ _ _ HR2.out.lt)); refine wpList_delR rfl (.tmp 28) (.tmp 29) 44 3 rfl 51 Try.underlying44 rfl rfl k rfl q2 ?_; clear q2; intro w3 hr3 hg3 hz3; have h1 : x.2 ≤ now := (by assumption); have HI3 := Lib.hid (TickInv.drop HZ.out.2.nd HN.out HM2.out hr3 ((HB2.out.alloc _).trans (kept_grown hg3)) h1); clear hr3 hg3 hz3 h1) | (refine wpList_nextM rfl (.tmp 15) rfl rfl HR.out ?_ ?_; (intro hd; have HD := Lib.hid hd; clear hd); rotate_left; (intro k x w2 hm hdk hr2 hg2 hz2 hen; have hB2 : Kept [mb] w w2 := HB.out.grown hg2 (fun j hj => by cases hj; exact .inr (Nat.le_refl _)); have hc3 := hB2.cell c3 HNE.out; have hlt2 : zb < w2.heap.size := (by (have := HB.out.size; omega)); have HM2 := Lib.hid hm; have HK2 := Lib.hid hdk; have HR2 := Lib.hid hr2; have HB2 := Lib.hid hB2; clear hm hdk hr2 hg2 hz2 hB2; unfold offE at hen ⊢); rotate_left))
      · have e1 : mc = liveM m now := by rw [HN.out]; exact live_done (by rw [← HN.out]; exact HD.out)
        have HW := Lib.hid (show ZAt wr zb mb z (liveM m now) from ⟨HB.out.blk HZ.out.1 HNE.out, by rw [← e1]; exact HR.out.at⟩)
        clear e1 HR HN HD HG hrel
        generalize hbn : bestM (liveM m now) = n
        have HN := Lib.hid hbn
        have b3 : decide (now + 3 ≤ now) = false := decide_eq_false (by omega)
        cases hh : z.held <;> have HH := Lib.hid hh <;> clear hh
        · rcases Int.lt_trichotomy z.taken n with ht | ht | ht
          · have b1 : decide (z.taken < n) = true := decide_eq_true ht
            have HC := Lib.hid b1
            go_wp2_with (refine (best_calls zb mb z _ _ HW.out).mono ?_; rintro e w' ⟨rfl, hb⟩; rw [hbn]; have k1 := cells_all (blk_below' hb HW.out.1); simp only [CellsAt, Nat.reduceAdd, and_true] at k1; obtain ⟨-, -, -, -, c4, c5, c6⟩ := k1; have hlt3 : zb < w'.heap.size := size_of (blk_below' hb HW.out.1); have HT := Lib.hid (show Tk zb mb z (liveM m now) w w' from ⟨⟨blk_below' hb HW.out.1, HW.out.2.of_blk (hb.block _ HW.out.2.lt)⟩, (HB.out.below_trans hb).more (by simp)⟩); rw [HH.out] at c5; have f4 := frz (blk_below' hb HW.out.1) 4; have f5 := frz (blk_below' hb HW.out.1) 5; have f6 := frz (blk_below' hb HW.out.1) 6; clear hb)
            go_ret
            exact tick_fin HM.out HN.out (HT.out.set4 n) (by simp [tickZ, HC.out, HH.out])
          · have b1 : decide (z.taken < n) = false := decide_eq_false (by omega)
            have b2 : decide (n < z.taken) = false := decide_eq_false (by omega)
            have HC := Lib.hid (And.intro b1 b2)
            clear ht
            go_wp2_with (refine (best_calls zb mb z _ _ HW.out).mono ?_; rintro e w' ⟨rfl, hb⟩; rw [hbn]; have k1 := cells_all (blk_below' hb HW.out.1); simp only [CellsAt, Nat.reduceAdd, and_true] at k1; obtain ⟨-, -, -, -, c4, c5, c6⟩ := k1; have hlt3 : zb < w'.heap.size := size_of (blk_below' hb HW.out.1); have HT := Lib.hid (show Tk zb mb z (liveM m now) w w' from ⟨⟨blk_below' hb HW.out.1, HW.out.2.of_blk (hb.block _ HW.out.2.lt)⟩, (HB.out.below_trans hb).more (by simp)⟩); rw [HH.out] at c5; have f4 := frz (blk_below' hb HW.out.1) 4; have f5 := frz (blk_below' hb HW.out.1) 5; have f6 := frz (blk_below' hb HW.out.1) 6; clear hb)
            go_ret
            exact tick_fin HM.out HN.out HT.out (by simp [tickZ, HC.out.1, HC.out.2, HH.out])
          · have b1 : decide (z.taken < n) = false := decide_eq_false (by omega)
            have b2 : decide (n < z.taken) = true := decide_eq_true ht
            have HC := Lib.hid (And.intro b1 b2)
            go_wp2_with (refine (best_calls zb mb z _ _ HW.out).mono ?_; rintro e w' ⟨rfl, hb⟩; rw [hbn]; have k1 := cells_all (blk_below' hb HW.out.1); simp only [CellsAt, Nat.reduceAdd, and_true] at k1; obtain ⟨-, -, -, -, c4, c5, c6⟩ := k1; have hlt3 : zb < w'.heap.size := size_of (blk_below' hb HW.out.1); have HT := Lib.hid (show Tk zb mb z (liveM m now) w w' from ⟨⟨blk_below' hb HW.out.1, HW.out.2.of_blk (hb.block _ HW.out.2.lt)⟩, (HB.out.below_trans hb).more (by simp)⟩); rw [HH.out] at c5; have f4 := frz (blk_below' hb HW.out.1) 4; have f5 := frz (blk_below' hb HW.out.1) 5; have f6 := frz (blk_below' hb HW.out.1) 6; clear hb)
            go_ret
            exact tick_fin HM.out HN.out (((HT.out.set4 0).set5 true).set6 (now + 3)) (by simp [tickZ, HC.out.1, HC.out.2]; omega)
        · rcases Int.lt_trichotomy z.taken n with ht | ht | ht
          · have b1 : decide (z.taken < n) = true := decide_eq_true ht
            have b2 : decide (n < z.taken) = false := decide_eq_false (by omega)
            by_cases hu : z.until_ ≤ now
            · have b4 : decide (z.until_ ≤ now) = true := decide_eq_true hu
              have HC := Lib.hid (And.intro b1 (And.intro b2 b4))
              go_wp2_with (refine (best_calls zb mb z _ _ HW.out).mono ?_; rintro e w' ⟨rfl, hb⟩; rw [hbn]; have k1 := cells_all (blk_below' hb HW.out.1); simp only [CellsAt, Nat.reduceAdd, and_true] at k1; obtain ⟨-, -, -, -, c4, c5, c6⟩ := k1; have hlt3 : zb < w'.heap.size := size_of (blk_below' hb HW.out.1); have HT := Lib.hid (show Tk zb mb z (liveM m now) w w' from ⟨⟨blk_below' hb HW.out.1, HW.out.2.of_blk (hb.block _ HW.out.2.lt)⟩, (HB.out.below_trans hb).more (by simp)⟩); rw [HH.out] at c5; have f4 := frz (blk_below' hb HW.out.1) 4; have f5 := frz (blk_below' hb HW.out.1) 5; have f6 := frz (blk_below' hb HW.out.1) 6; clear hb)
              go_ret
              exact tick_fin HM.out HN.out ((HT.out.set5 false).set4 n) (by simp [tickZ, HC.out.1, HC.out.2.1, HC.out.2.2, HH.out])
            · have b4 : decide (z.until_ ≤ now) = false := decide_eq_false hu
              have HC := Lib.hid (And.intro b1 (And.intro b2 b4))
              go_wp2_with (refine (best_calls zb mb z _ _ HW.out).mono ?_; rintro e w' ⟨rfl, hb⟩; rw [hbn]; have k1 := cells_all (blk_below' hb HW.out.1); simp only [CellsAt, Nat.reduceAdd, and_true] at k1; obtain ⟨-, -, -, -, c4, c5, c6⟩ := k1; have hlt3 : zb < w'.heap.size := size_of (blk_below' hb HW.out.1); have HT := Lib.hid (show Tk zb mb z (liveM m now) w w' from ⟨⟨blk_below' hb HW.out.1, HW.out.2.of_blk (hb.block _ HW.out.2.lt)⟩, (HB.out.below_trans hb).more (by simp)⟩); rw [HH.out] at c5; have f4 := frz (blk_below' hb HW.out.1) 4; have f5 := frz (blk_below' hb HW.out.1) 5; have f6 := frz (blk_below' hb HW.out.1) 6; clear hb)
              go_ret
              exact tick_fin HM.out HN.out HT.out (by simp [tickZ, HC.out.1, HC.out.2.1, HC.out.2.2, HH.out])
          · have b1 : decide (z.taken < n) = false := decide_eq_false (by omega)
            have b2 : decide (n < z.taken) = false := decide_eq_false (by omega)
            clear ht
            by_cases hu : z.until_ ≤ now
            · have b4 : decide (z.until_ ≤ now) = true := decide_eq_true hu
              have HC := Lib.hid (And.intro b1 (And.intro b2 b4))
              go_wp2_with (refine (best_calls zb mb z _ _ HW.out).mono ?_; rintro e w' ⟨rfl, hb⟩; rw [hbn]; have k1 := cells_all (blk_below' hb HW.out.1); simp only [CellsAt, Nat.reduceAdd, and_true] at k1; obtain ⟨-, -, -, -, c4, c5, c6⟩ := k1; have hlt3 : zb < w'.heap.size := size_of (blk_below' hb HW.out.1); have HT := Lib.hid (show Tk zb mb z (liveM m now) w w' from ⟨⟨blk_below' hb HW.out.1, HW.out.2.of_blk (hb.block _ HW.out.2.lt)⟩, (HB.out.below_trans hb).more (by simp)⟩); rw [HH.out] at c5; have f4 := frz (blk_below' hb HW.out.1) 4; have f5 := frz (blk_below' hb HW.out.1) 5; have f6 := frz (blk_below' hb HW.out.1) 6; clear hb)
              go_ret
              exact tick_fin HM.out HN.out ((HT.out.set5 false).set4 n) (by simp [tickZ, HC.out.1, HC.out.2.1, HC.out.2.2, HH.out])
            · have b4 : decide (z.until_ ≤ now) = false := decide_eq_false hu
              have HC := Lib.hid (And.intro b1 (And.intro b2 b4))
              go_wp2_with (refine (best_calls zb mb z _ _ HW.out).mono ?_; rintro e w' ⟨rfl, hb⟩; rw [hbn]; have k1 := cells_all (blk_below' hb HW.out.1); simp only [CellsAt, Nat.reduceAdd, and_true] at k1; obtain ⟨-, -, -, -, c4, c5, c6⟩ := k1; have hlt3 : zb < w'.heap.size := size_of (blk_below' hb HW.out.1); have HT := Lib.hid (show Tk zb mb z (liveM m now) w w' from ⟨⟨blk_below' hb HW.out.1, HW.out.2.of_blk (hb.block _ HW.out.2.lt)⟩, (HB.out.below_trans hb).more (by simp)⟩); rw [HH.out] at c5; have f4 := frz (blk_below' hb HW.out.1) 4; have f5 := frz (blk_below' hb HW.out.1) 5; have f6 := frz (blk_below' hb HW.out.1) 6; clear hb)
              go_ret
              exact tick_fin HM.out HN.out HT.out (by simp [tickZ, HC.out.1, HC.out.2.1, HC.out.2.2, HH.out])
          · have b1 : decide (z.taken < n) = false := decide_eq_false (by omega)
            have b2 : decide (n < z.taken) = true := decide_eq_true ht
            have HC := Lib.hid (And.intro b1 b2)
            go_wp2_with (refine (best_calls zb mb z _ _ HW.out).mono ?_; rintro e w' ⟨rfl, hb⟩; rw [hbn]; have k1 := cells_all (blk_below' hb HW.out.1); simp only [CellsAt, Nat.reduceAdd, and_true] at k1; obtain ⟨-, -, -, -, c4, c5, c6⟩ := k1; have hlt3 : zb < w'.heap.size := size_of (blk_below' hb HW.out.1); have HT := Lib.hid (show Tk zb mb z (liveM m now) w w' from ⟨⟨blk_below' hb HW.out.1, HW.out.2.of_blk (hb.block _ HW.out.2.lt)⟩, (HB.out.below_trans hb).more (by simp)⟩); rw [HH.out] at c5; have f4 := frz (blk_below' hb HW.out.1) 4; have f5 := frz (blk_below' hb HW.out.1) 5; have f6 := frz (blk_below' hb HW.out.1) 6; clear hb)
            go_ret
            exact tick_fin HM.out HN.out (((HT.out.set4 0).set5 true).set6 (now + 3)) (by simp [tickZ, HC.out.1, HC.out.2]; omega)
      · have h1 : x.2 ≤ now := by assumption
        go_roundg (leftM mc (fun j => done j || j == k) + 1)
        case measure => have := leftM_next HM2.out HK2.out; have := HG.out; omega
        case rel => exact HI3
      · have h1 : now < x.2 := by assumption
        go_roundg (leftM mc (fun j => done j || j == k) + 1)
        case measure => have := leftM_next HM2.out HK2.out; have := HG.out; omega
        case rel => exact Lib.hid (TickInv.keep HZ.out.2.nd HN.out HM2.out HR2.out HB2.out h1)
end Go.Proofs.Ythdhodopmffdmaa
