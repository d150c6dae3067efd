/- ZtpScripts: the walk. -/
import Derived.Test.YthdhodopmffdmaaZtS
import Derived.Deep.RegionHeld3
namespace Go.Proofs.Ythdhodopmffdmaa
open Go.RowKit

theorem rnew_fx {w0 w : World} {zb mb : Nat} {fixed : Int} {leaf top : Bool} (h : ZS w0 zb mb ⟨fixed, leaf, top, 0, false, 0⟩ [] w) (hok : newOk fixed leaf top = true) : Calls Try.prog 11 #[.int .i64 fixed, .bool leaf, .bool top] w fun e w' => ∃ rb, e = .returned (.tuple #[.pointer (some ⟨rb, 0, none⟩), .int .i64 0]) ∧ Both w0 zb mb rb ⟨fixed, leaf, top, 0, false, 0⟩ [] [] w' :=
  (rnew_calls fixed leaf top w).mono fun e w' hp => by
    rcases hp with ⟨h1, h2, h3⟩ | ⟨h1, h2, h3⟩
    · refine ⟨_, h2, ?_⟩
      rw [h3]
      exact ⟨h.alloc _, ⟨_, blk_new _ _, World.ownsRow_nil _ _ _ _⟩, by rw [World.size_alloc]; omega, h.below.size, h.lt, h.at_.2.lt, List.Perm.refl _, by decide⟩
    · rw [hok] at h1; cases h1
theorem rnew_no (w : World) (fixed : Int) (leaf top : Bool) (hok : newOk fixed leaf top = false) : Calls Try.prog 11 #[.int .i64 fixed, .bool leaf, .bool top] w fun e w' => e = .returned (.tuple #[.pointer none, .int .i64 1]) ∧ w' = w :=
  (rnew_calls fixed leaf top w).mono fun e w' hp => by
    rcases hp with ⟨h1, h2, h3⟩ | ⟨h1, h2, h3⟩
    · rw [hok] at h1; cases h1
    · exact ⟨h2, h3⟩
def StpAt (sb : Nat) (s : Stp) (w : World) : Prop := w.heap[sb]? = some (stpBlk s)
theorem StpAt.cells {sb : Nat} {s : Stp} {w : World} (h : StpAt sb s w) :
    (w.cell? ⟨sb, 0, none⟩ = some (.int .i64 s.do_) ∧ w.cell? ⟨sb, 1, none⟩ = some (.int .i64 s.link) ∧ w.cell? ⟨sb, 2, none⟩ = some (.int .i64 s.level) ∧ w.cell? ⟨sb, 3, none⟩ = some (.int .i64 s.now) ∧ w.cell? ⟨sb, 4, none⟩ = some (.bool s.none_)) ∧ sb < w.heap.size := by
  have k1 := cells_all h
  simp only [CellsAt, Nat.reduceAdd, and_true] at k1
  exact ⟨k1, size_of h⟩
/-- The copy of the step lies above all. -/
theorem both_new {w0 w : World} {zb mb rb : Nat} {z : Zs} {m l : Offs} (h : Both w0 zb mb rb z m l w) (s : Stp) : Both w0 zb mb rb z m l (w.alloc (stpBlk s)) ∧ StpAt w.heap.size s (w.alloc (stpBlk s)) ∧ rb < w.heap.size :=
  ⟨h.on ((Below.refl _ _).alloc (Nat.le_refl _) _), blk_new _ _, h.lt⟩
theorem offer_half {w0 w : World} {zb mb rb sb : Nat} {s : Stp} {z : Zs} {m l : Offs} (h : Both w0 zb mb rb z m l w ∧ StpAt sb s w ∧ rb < sb) (link level now : Int) (none : Bool) :
    Calls Try.prog 12 #[.pointer (some ⟨zb, 0, Option.none⟩), .int .i64 link, .int .i64 level, .bool none, .int .i64 now] w fun e w' => e = .returned (.int .i64 (offM m link level none now).1) ∧ (Half w0 zb mb rb z z m (offM m link level none now).2 l w' ∧ StpAt sb s w') :=
  (offer_calls zb mb z m w link level now none h.1.zs.at_).mono fun _ _ hp => ⟨hp.1, h.1.half hp.2.1 (hp.2.2.more (by simp)), hp.2.2.blk h.2.1 (by have := h.1.nm; have := h.2.2; simp; omega)⟩
theorem roffer_both {w0 w : World} {zb mb rb sb : Nat} {s : Stp} {z : Zs} {m l : Offs} {link level now : Int} {none : Bool} (hn : (m.map (·.1)).Nodup) (hp : m.Perm l) (hl : m.length ≤ 64) (hs : rb < sb) (h : Half w0 zb mb rb z z m (offM m link level none now).2 l w ∧ StpAt sb s w) :
    Calls Try.prog 13 #[.pointer (some ⟨rb, 0, Option.none⟩), .int .i64 link, .int .i64 level, .bool none, .int .i64 now] w fun e w' => e = .returned (.int .i64 (offM m link level none now).1) ∧ (Both w0 zb mb rb z (offM m link level none now).2 (roffM l link level none now).2 w' ∧ StpAt sb s w') := by
  have hr := rel_off hn hp hl link level now none
  refine (roffer_calls (rb + 1) rb z l w link level now none h.1.rs (by rw [← hp.length_eq]; exact hl) (rat_lt h.1.rs) (Nat.lt_succ_self _)).mono fun _ _ hq => ?_
  exact ⟨by rw [hr.1]; exact hq.1, h.1.whole hq.2.1 hq.2.2 hr.2.1 hr.2.2, hq.2.2.blk h.2 (by simp; omega)⟩
theorem tick_half {w0 w : World} {zb mb rb sb : Nat} {s : Stp} {z : Zs} {m l : Offs} (h : Both w0 zb mb rb z m l w ∧ StpAt sb s w ∧ rb < sb) (now : Int) :
    Calls Try.prog 14 #[.pointer (some ⟨zb, 0, none⟩), .int .i64 now] w fun e w' => e = .returned (.int .i64 (tickC now)) ∧ (Half w0 zb mb rb z (tickS z m now).1 m (tickS z m now).2 l w' ∧ StpAt sb s w') :=
  (tick_calls zb mb z m w now h.1.zs.at_).mono fun e w' hp => by
    have h5 := h.1.nm
    have h6 := h.1.nz
    have h7 := h.2.2
    rcases hp with ⟨h1, h2, h3, h4⟩ | ⟨h1, h2, h3⟩
    · rw [tickC, tickS, if_pos h1, if_pos h1]; exact ⟨h2, h.1.half h3 h4, h4.blk h.2.1 (by simp; omega)⟩
    · rw [tickC, tickS, if_neg (by rw [h1]; simp), if_neg (by rw [h1]; simp)]; rw [h3]; exact ⟨h2, h.1.half h.1.zs.at_ (Kept.refl _ _), h.2.1⟩
theorem rtick_both {w0 w : World} {zb mb rb sb : Nat} {s : Stp} {z : Zs} {m l : Offs} {now : Int} (hp : m.Perm l) (hl : m.length ≤ 64) (hs : rb < sb) (h : Half w0 zb mb rb z (tickS z m now).1 m (tickS z m now).2 l w ∧ StpAt sb s w) :
    Calls Try.prog 15 #[.pointer (some ⟨rb, 0, none⟩), .int .i64 now] w fun e w' => e = .returned (.int .i64 (tickC now)) ∧ (Both w0 zb mb rb (tickS z m now).1 (tickS z m now).2 (tickS z l now).2 w' ∧ StpAt sb s w') := by
  have hr := rel_tick hp hl z now
  refine (rtick_calls (rb + 1) rb z l w now h.1.rs (by rw [← hp.length_eq]; exact hl) (rat_lt h.1.rs) (Nat.lt_succ_self _)).mono fun _ _ hq => ?_
  exact ⟨hq.1, h.1.whole (by rw [hr.1]; exact hq.2.1) hq.2.2 hr.2.1 hr.2.2, hq.2.2.blk h.2 (by simp; omega)⟩
section
variable {w0 w : World} {zb mb rb : Nat} {z : Zs} {m l : Offs} {Q : Prop}
theorem b_level (h : Hid (Both w0 zb mb rb z m l w) ∧ Q) {n : Int} (hn : levelI z = n) : Calls Try.prog 16 #[.pointer (some ⟨zb, 0, none⟩)] w fun e w' => e = .returned (.int .i64 n) ∧ Below w.heap.size w w' :=
  (level_calls zb mb z w h.1.out.zs.at_.1).mono fun _ _ hp => ⟨by rw [hp.1, hn], by rw [← hp.2]; exact Below.refl _ _⟩
theorem b_rlevel (h : Hid (Both w0 zb mb rb z m l w) ∧ Q) {n : Int} (hn : levelI z = n) : Calls Try.prog 17 #[.pointer (some ⟨rb, 0, none⟩)] w fun e w' => e = .returned (.int .i64 n) ∧ Below w.heap.size w w' := by
  obtain ⟨v, h1, h2⟩ := h.1.out.rs
  exact (rlevel_calls rb z v w h1).mono fun _ _ hp => ⟨by rw [hp.1, hn], by rw [← hp.2]; exact Below.refl _ _⟩
theorem b_best (h : Hid (Both w0 zb mb rb z m l w) ∧ Q) {n : Int} (hn : bestM m = n) : Calls Try.prog 18 #[.pointer (some ⟨zb, 0, none⟩)] w fun e w' => e = .returned (.int .i64 n) ∧ Below w.heap.size w w' :=
  (best_calls zb mb z m w h.1.out.zs.at_).mono fun _ _ hp => ⟨by rw [hp.1, hn], hp.2⟩
theorem b_rbest (h : Hid (Both w0 zb mb rb z m l w) ∧ Q) {n : Int} (hn : bestM m = n) : Calls Try.prog 19 #[.pointer (some ⟨rb, 0, none⟩)] w fun e w' => e = .returned (.int .i64 n) ∧ Below w.heap.size w w' :=
  (rbest_calls (rb + 1) rb z l w h.1.out.rs (by rw [← h.1.out.perm.length_eq]; have := h.1.out.len; omega)).mono fun _ _ hp => ⟨by rw [hp.1, ← best_perm h.1.out.perm, hn], by rw [← hp.2]; exact Below.refl _ _⟩
theorem b_quiet (h : Hid (Both w0 zb mb rb z m l w) ∧ Q) {link : Int} {b : Bool} (hn : quietB z m link = b) : Calls Try.prog 20 #[.pointer (some ⟨zb, 0, none⟩), .int .i64 link] w fun e w' => e = .returned (.bool b) ∧ Below w.heap.size w w' :=
  (quiet_calls zb mb z m w link h.1.out.zs.at_).mono fun _ _ hp => ⟨by rw [hp.1, hn], hp.2⟩
theorem b_rquiet (h : Hid (Both w0 zb mb rb z m l w) ∧ Q) {link : Int} {b : Bool} (hn : quietB z m link = b) : Calls Try.prog 21 #[.pointer (some ⟨rb, 0, none⟩), .int .i64 link] w fun e w' => e = .returned (.bool b) ∧ Below w.heap.size w w' :=
  (rquiet_calls (rb + 1) rb z l w link h.1.out.rs (by rw [← h.1.out.perm.length_eq]; have := h.1.out.len; omega)).mono fun _ _ hp => ⟨by rw [hp.1, ← quiet_perm h.1.out.zs.at_.2.nd h.1.out.perm, hn], hp.2⟩
end
theorem below_drew (w : World) : Below w.heap.size w w.drew := (Below.refl _ _).drew
theorem keepB {w0 wr w2 : World} {zb mb rb sb n : Nat} {z : Zs} {m l : Offs} {k : Int} (hb0 : Below n wr w2) (hn : wr.heap.size ≤ n) (h : Hid (Both w0 zb mb rb z m l wr) ∧ wr.cell? ⟨sb, 1, none⟩ = some (.int .i64 k) ∧ sb < wr.heap.size) :
    Hid (Both w0 zb mb rb z m l w2) ∧ w2.cell? ⟨sb, 1, none⟩ = some (.int .i64 k) ∧ sb < w2.heap.size := by
  have hb := hb0.mono hn
  exact ⟨Lib.hid (h.1.out.on hb), CK.of_below hb _ _ h.2.1, Nat.lt_of_lt_of_le h.2.2 hb.size⟩
def BothS (w0 : World) (zb mb rb : Nat) (w : World) : Prop := ∃ z m l, Both w0 zb mb rb z m l w

set_option maxRecDepth 100000 in
set_option maxHeartbeats 4000000 in
theorem scripts_no (fixed : Int) (f : Bool × Bool) (a : Option Addr) (c : Nat) (l : List Stp) (w : World) (hmax : l.length ≤ maxLen) (hok : newOk fixed f.1 f.2 = false) :
    Calls Try.prog 3 #[.int .i64 fixed, .agg #[.bool f.1, .bool f.2], .slice a l.length c] w fun e w' => e = .returned (.bool true) ∧ Below w.heap.size w w' := by
  obtain ⟨f0, f1⟩ := f
  have HK := Lib.hid hok
  clear hok
  unfold maxLen at hmax
  go_enter Try.func3, Try.ntmps3
  go_wp2_with (first
    | (go_at_call 9; refine (awake_calls _).mono ?_; rintro e wa ⟨rfl, ha⟩; obtain ⟨kb, kf⟩ := below_box ha; have kc := cells_all kf; simp only [CellsAt, Nat.reduceAdd, and_true] at kc; obtain ⟨g0, g1⟩ := kc; have fl := size_of kf; have HA := Lib.hid kb; clear ha kb kf)
    | (go_at_call 10; refine (new_no _ _ _ _ HK.out).mono ?_; rintro e w1 ⟨rfl, rfl⟩)
    | (go_at_call 11; refine (rnew_no _ _ _ _ HK.out).mono ?_; rintro e w1 ⟨rfl, rfl⟩))
  go_loopg [12] 1 (fun g k wr => g = 1 ∧ k = .int .i64 0 ∧ Hid (Below w.heap.size w wr))
  case atStart => exact ⟨rfl, rfl, HA⟩
  case round =>
    obtain ⟨-, rfl, HI⟩ := hrel
    by_cases hl : (0 : Int) < l.length
    · have bl : decide ((0 : Int) < l.length) = true := decide_eq_true hl
      go_wp2_with (fail)
      go_ret
      exact ⟨rfl, HI.out⟩
    · have bl : decide ((0 : Int) < l.length) = false := decide_eq_false hl
      go_wp2_with (fail)
      go_ret
      exact ⟨rfl, HI.out⟩

set_option maxRecDepth 100000 in
set_option maxHeartbeats 8000000 in
theorem scripts_law (fixed : Int) (f : Bool × Bool) (a : Option Addr) (c : Nat) (l : List Stp) (w : World) (hr : RowAt rStp w a l) (hmax : l.length ≤ maxLen) :
    Calls Try.prog 3 #[.int .i64 fixed, .agg #[.bool f.1, .bool f.2], .slice a l.length c] w fun e w' => e = .returned (.bool true) ∧ Below w.heap.size w w' := by
  cases hok : newOk fixed f.1 f.2
  · exact scripts_no fixed f a c l w hmax hok
  obtain ⟨f0, f1⟩ := f
  have HK := Lib.hid hok
  have HR := Lib.hid hr
  clear hok hr
  unfold maxLen at hmax
  go_enter Try.func3, Try.ntmps3
  go_wp2_with (first
    | (go_at_call 9; refine (awake_calls _).mono ?_; rintro e wa ⟨rfl, ha⟩; obtain ⟨kb, kf⟩ := below_box ha; have kc := cells_all kf; simp only [CellsAt, Nat.reduceAdd, and_true] at kc; obtain ⟨g0, g1⟩ := kc; have fl := size_of kf; have HA := Lib.hid kb; have HF := Lib.hid kf; clear ha kb kf)
    | (go_at_call 10; refine (new_fx w _ HA.out _ _ _ HK.out).mono ?_; rintro e w1 ⟨zb, mb, rfl, h1, h2⟩; have kf := blk_below' h2 HF.out; have kc := cells_all kf; simp only [CellsAt, Nat.reduceAdd, and_true] at kc; obtain ⟨g0, g1⟩ := kc; have fl := size_of kf; have H1 := Lib.hid h1; clear h1 h2 kf)
    | (go_at_call 11; refine (rnew_fx H1.out HK.out).mono ?_; rintro e w1 ⟨rb, rfl, h1⟩; have H2 : Hid (BothS w zb mb rb w1) := ⟨_, _, _, h1⟩; clear h1))
  go_loopg [12] (l.length + 1) (fun g k wr => ∃ i : Nat, i ≤ l.length ∧ g + i = l.length + 1 ∧ k = .int .i64 i ∧ Hid (BothS w zb mb rb wr))
  case atStart => exact ⟨0, Nat.zero_le _, rfl, rfl, H2⟩
  case round =>
    clear H2
    obtain ⟨i, hil, hg, rfl, HI⟩ := hrel
    obtain ⟨z, m, lr, hz⟩ := HI.out
    have HZ := Lib.hid hz
    clear hz HI
    by_cases hlt : i < l.length
    · have e1 : IntKind.i64.wrap ((i : Int) + 1) = (i : Int) + 1 := IntWalk.i64_in _ (by omega)
      obtain ⟨b, off, cs, rfl, hc, hR⟩ := HR.out.get (List.getElem?_eq_getElem hlt)
      generalize l[i] = t at hR
      obtain rfl := rStp_out hR
      change CellsOff w b (off + i * 5) 0 t.cells at hc
      obtain ⟨c0, c1, c2, c3, c4⟩ := row_cells hc HZ.out.zs.below
      clear hR hc
      by_cases h150 : (i : Int) < 300
      · have b150 : decide ((i : Int) < 300) = true := decide_eq_true h150
        have HS := Lib.hid (both_new HZ.out t)
        have HN := Lib.hid HZ.out.zs.at_.2.nd
        have HP := Lib.hid (And.intro HZ.out.perm HZ.out.len)
        by_cases hd : t.do_ = 0
        · have bd : (t.do_ == 0) = true := by simpa using hd
          clear hd
          go_wp2_with (first
            | (go_at_call 12; refine (offer_half HS.out _ _ _ _).mono ?_; rintro e w2 ⟨rfl, h2⟩; obtain ⟨⟨s0, s1, s2, s3, s4⟩, sl⟩ := h2.2.cells; have HV := Lib.hid h2; clear h2)
            | (go_at_call 13; refine (roffer_both HN.out HP.out.1 HP.out.2 HS.out.2.2 HV.out).mono ?_; rintro e w3 ⟨rfl, h2⟩; obtain ⟨⟨s0, s1, s2, s3, s4⟩, sl⟩ := h2.2.cells; have HB := Lib.hid h2.1; clear h2))
          generalize (offM m t.link t.level t.none_ t.now).2 = M at HB
          generalize (offM m t.link t.level t.none_ t.now).1 = code
          clear HV
          obtain ⟨lv, hlv⟩ : ∃ n, levelI z = n := ⟨_, rfl⟩
          obtain ⟨bv, hbv⟩ : ∃ n, bestM M = n := ⟨_, rfl⟩
          obtain ⟨qb, hqb⟩ : ∃ n, quietB z M t.link = n := ⟨_, rfl⟩
          have HLV := Lib.hid hlv
          have HBV := Lib.hid hbv
          have HQV := Lib.hid hqb
          clear hlv hbv hqb
          have hL : ∀ w', Hid (Both w zb mb rb z M (roffM lr t.link t.level t.none_ t.now).2 w') ∧ w'.cell? ⟨wr.heap.size, 1, none⟩ = some (.int .i64 t.link) ∧ wr.heap.size < w'.heap.size → Calls Try.prog 16 #[.pointer (some ⟨zb, 0, none⟩)] w' fun e w2 => e = .returned (.int .i64 lv) ∧ Below w'.heap.size w' w2 := fun w' h => b_level h HLV.out
          have hRL : ∀ w', Hid (Both w zb mb rb z M (roffM lr t.link t.level t.none_ t.now).2 w') ∧ w'.cell? ⟨wr.heap.size, 1, none⟩ = some (.int .i64 t.link) ∧ wr.heap.size < w'.heap.size → Calls Try.prog 17 #[.pointer (some ⟨rb, 0, none⟩)] w' fun e w2 => e = .returned (.int .i64 lv) ∧ Below w'.heap.size w' w2 := fun w' h => b_rlevel h HLV.out
          have hB : ∀ w', Hid (Both w zb mb rb z M (roffM lr t.link t.level t.none_ t.now).2 w') ∧ w'.cell? ⟨wr.heap.size, 1, none⟩ = some (.int .i64 t.link) ∧ wr.heap.size < w'.heap.size → Calls Try.prog 18 #[.pointer (some ⟨zb, 0, none⟩)] w' fun e w2 => e = .returned (.int .i64 bv) ∧ Below w'.heap.size w' w2 := fun w' h => b_best h HBV.out
          have hRB : ∀ w', Hid (Both w zb mb rb z M (roffM lr t.link t.level t.none_ t.now).2 w') ∧ w'.cell? ⟨wr.heap.size, 1, none⟩ = some (.int .i64 t.link) ∧ wr.heap.size < w'.heap.size → Calls Try.prog 19 #[.pointer (some ⟨rb, 0, none⟩)] w' fun e w2 => e = .returned (.int .i64 bv) ∧ Below w'.heap.size w' w2 := fun w' h => b_rbest h HBV.out
          have hQ : ∀ w', Hid (Both w zb mb rb z M (roffM lr t.link t.level t.none_ t.now).2 w') ∧ w'.cell? ⟨wr.heap.size, 1, none⟩ = some (.int .i64 t.link) ∧ wr.heap.size < w'.heap.size → Calls Try.prog 20 #[.pointer (some ⟨zb, 0, none⟩), .int .i64 t.link] w' fun e w2 => e = .returned (.bool qb) ∧ Below w'.heap.size w' w2 := fun w' h => b_quiet h HQV.out
          have hRQ : ∀ w', Hid (Both w zb mb rb z M (roffM lr t.link t.level t.none_ t.now).2 w') ∧ w'.cell? ⟨wr.heap.size, 1, none⟩ = some (.int .i64 t.link) ∧ wr.heap.size < w'.heap.size → Calls Try.prog 21 #[.pointer (some ⟨rb, 0, none⟩), .int .i64 t.link] w' fun e w2 => e = .returned (.bool qb) ∧ Below w'.heap.size w' w2 := fun w' h => b_rquiet h HQV.out
          have HHL := Lib.hid hL
          have HHRL := Lib.hid hRL
          have HHB := Lib.hid hB
          have HHRB := Lib.hid hRB
          have HHQ := Lib.hid hQ
          have HHRQ := Lib.hid hRQ
          clear hL hRL hB hRB hQ hRQ
          go_region_held3 (fun w' => Hid (Both w zb mb rb z M (roffM lr t.link t.level t.none_ t.now).2 w') ∧ w'.cell? ⟨wr.heap.size, 1, none⟩ = some (.int .i64 t.link) ∧ wr.heap.size < w'.heap.size)
            (first | exact keepB (below_drew w3) (Nat.le_refl _) ⟨HB, s1, sl⟩ | (refine keepB hb (Nat.le_refl _) ?_; assumption))
            (first
              | (go_at_call 16; refine (HHL.out _ ?_).mono ?_; (assumption); rintro e w' ⟨rfl, hb⟩)
              | (go_at_call 17; refine (HHRL.out _ ?_).mono ?_; (assumption); rintro e w' ⟨rfl, hb⟩)
              | (go_at_call 18; refine (HHB.out _ ?_).mono ?_; (assumption); rintro e w' ⟨rfl, hb⟩)
              | (go_at_call 19; refine (HHRB.out _ ?_).mono ?_; (assumption); rintro e w' ⟨rfl, hb⟩)
              | (go_at_call 20; refine (HHQ.out _ ?_).mono ?_; (assumption); rintro e w' ⟨rfl, hb⟩)
              | (go_at_call 21; refine (HHRQ.out _ ?_).mono ?_; (assumption); rintro e w' ⟨rfl, hb⟩))
          rename_i hHeld
          have HI2 : Hid (BothS w zb mb rb _) := ⟨_, _, _, hHeld.1.out⟩
          clear hHeld s1
          go_wp2_with (fail)
          go_roundg (l.length - i)
          case measure => omega
          case rel => exact ⟨i + 1, by omega, by omega, by go_num, HI2⟩
        · have bd : (t.do_ == 0) = false := by simpa using hd
          clear hd
          go_wp2_with (first
            | (go_at_call 14; refine (tick_half HS.out _).mono ?_; rintro e w2 ⟨rfl, h2⟩; obtain ⟨⟨s0, s1, s2, s3, s4⟩, sl⟩ := h2.2.cells; have HV := Lib.hid h2; clear h2)
            | (go_at_call 15; refine (rtick_both HP.out.1 HP.out.2 HS.out.2.2 HV.out).mono ?_; rintro e w3 ⟨rfl, h2⟩; obtain ⟨⟨s0, s1, s2, s3, s4⟩, sl⟩ := h2.2.cells; have HB := Lib.hid h2.1; clear h2))
          generalize (tickS z m t.now).2 = M at HB
          generalize (tickS z m t.now).1 = Z at HB
          generalize tickC t.now = code
          clear HV
          obtain ⟨lv, hlv⟩ : ∃ n, levelI Z = n := ⟨_, rfl⟩
          obtain ⟨bv, hbv⟩ : ∃ n, bestM M = n := ⟨_, rfl⟩
          obtain ⟨qb, hqb⟩ : ∃ n, quietB Z M t.link = n := ⟨_, rfl⟩
          have HLV := Lib.hid hlv
          have HBV := Lib.hid hbv
          have HQV := Lib.hid hqb
          clear hlv hbv hqb
          have hL : ∀ w', Hid (Both w zb mb rb Z M (tickS z lr t.now).2 w') ∧ w'.cell? ⟨wr.heap.size, 1, none⟩ = some (.int .i64 t.link) ∧ wr.heap.size < w'.heap.size → Calls Try.prog 16 #[.pointer (some ⟨zb, 0, none⟩)] w' fun e w2 => e = .returned (.int .i64 lv) ∧ Below w'.heap.size w' w2 := fun w' h => b_level h HLV.out
          have hRL : ∀ w', Hid (Both w zb mb rb Z M (tickS z lr t.now).2 w') ∧ w'.cell? ⟨wr.heap.size, 1, none⟩ = some (.int .i64 t.link) ∧ wr.heap.size < w'.heap.size → Calls Try.prog 17 #[.pointer (some ⟨rb, 0, none⟩)] w' fun e w2 => e = .returned (.int .i64 lv) ∧ Below w'.heap.size w' w2 := fun w' h => b_rlevel h HLV.out
          have hB : ∀ w', Hid (Both w zb mb rb Z M (tickS z lr t.now).2 w') ∧ w'.cell? ⟨wr.heap.size, 1, none⟩ = some (.int .i64 t.link) ∧ wr.heap.size < w'.heap.size → Calls Try.prog 18 #[.pointer (some ⟨zb, 0, none⟩)] w' fun e w2 => e = .returned (.int .i64 bv) ∧ Below w'.heap.size w' w2 := fun w' h => b_best h HBV.out
          have hRB : ∀ w', Hid (Both w zb mb rb Z M (tickS z lr t.now).2 w') ∧ w'.cell? ⟨wr.heap.size, 1, none⟩ = some (.int .i64 t.link) ∧ wr.heap.size < w'.heap.size → Calls Try.prog 19 #[.pointer (some ⟨rb, 0, none⟩)] w' fun e w2 => e = .returned (.int .i64 bv) ∧ Below w'.heap.size w' w2 := fun w' h => b_rbest h HBV.out
          have hQ : ∀ w', Hid (Both w zb mb rb Z M (tickS z lr t.now).2 w') ∧ w'.cell? ⟨wr.heap.size, 1, none⟩ = some (.int .i64 t.link) ∧ wr.heap.size < w'.heap.size → Calls Try.prog 20 #[.pointer (some ⟨zb, 0, none⟩), .int .i64 t.link] w' fun e w2 => e = .returned (.bool qb) ∧ Below w'.heap.size w' w2 := fun w' h => b_quiet h HQV.out
          have hRQ : ∀ w', Hid (Both w zb mb rb Z M (tickS z lr t.now).2 w') ∧ w'.cell? ⟨wr.heap.size, 1, none⟩ = some (.int .i64 t.link) ∧ wr.heap.size < w'.heap.size → Calls Try.prog 21 #[.pointer (some ⟨rb, 0, none⟩), .int .i64 t.link] w' fun e w2 => e = .returned (.bool qb) ∧ Below w'.heap.size w' w2 := fun w' h => b_rquiet h HQV.out
          have HHL := Lib.hid hL
          have HHRL := Lib.hid hRL
          have HHB := Lib.hid hB
          have HHRB := Lib.hid hRB
          have HHQ := Lib.hid hQ
          have HHRQ := Lib.hid hRQ
          clear hL hRL hB hRB hQ hRQ
          go_region_held3 (fun w' => Hid (Both w zb mb rb Z M (tickS z lr t.now).2 w') ∧ w'.cell? ⟨wr.heap.size, 1, none⟩ = some (.int .i64 t.link) ∧ wr.heap.size < w'.heap.size)
            (first | exact keepB (below_drew w3) (Nat.le_refl _) ⟨HB, s1, sl⟩ | (refine keepB hb (Nat.le_refl _) ?_; assumption))
            (first
              | (go_at_call 16; refine (HHL.out _ ?_).mono ?_; (assumption); rintro e w' ⟨rfl, hb⟩)
              | (go_at_call 17; refine (HHRL.out _ ?_).mono ?_; (assumption); rintro e w' ⟨rfl, hb⟩)
              | (go_at_call 18; refine (HHB.out _ ?_).mono ?_; (assumption); rintro e w' ⟨rfl, hb⟩)
              | (go_at_call 19; refine (HHRB.out _ ?_).mono ?_; (assumption); rintro e w' ⟨rfl, hb⟩)
              | (go_at_call 20; refine (HHQ.out _ ?_).mono ?_; (assumption); rintro e w' ⟨rfl, hb⟩)
              | (go_at_call 21; refine (HHRQ.out _ ?_).mono ?_; (assumption); rintro e w' ⟨rfl, hb⟩))
          rename_i hHeld
          have HI2 : Hid (BothS w zb mb rb _) := ⟨_, _, _, hHeld.1.out⟩
          clear hHeld s1
          go_wp2_with (fail)
          go_roundg (l.length - i)
          case measure => omega
          case rel => exact ⟨i + 1, by omega, by omega, by go_num, HI2⟩
      · have b150 : decide ((i : Int) < 300) = false := decide_eq_false h150
        go_wp2_with (fail)
        go_ret
        exact ⟨rfl, HZ.out.zs.below⟩
    · have hlt' : ¬ (i : Int) < l.length := by omega
      have bl : decide ((i : Int) < l.length) = false := decide_eq_false hlt'
      go_wp2_with (fail)
      go_ret
      exact ⟨rfl, HZ.out.zs.below⟩
end Go.Proofs.Ythdhodopmffdmaa
