/- ZtpSettles: the walk. -/
import Derived.Test.YthdhodopmffdmaaZtN
import Derived.Test.YthdhodopmffdmaaZtK
namespace Go.Proofs.Ythdhodopmffdmaa
open Go.RowKit

theorem land31 (x : Int) : 0 ≤ bits BinOp.and IntKind.i64 x 31 ∧ bits BinOp.and IntKind.i64 x 31 ≤ 31 := by
  have h : (BitVec.ofInt 64 x &&& BitVec.ofInt 64 31).toNat ≤ 31 := by
    rw [BitVec.toNat_and]
    exact Nat.le_trans Nat.and_le_right (by decide)
  have e : bits BinOp.and IntKind.i64 x 31 = IntKind.i64.wrap ((BitVec.ofInt 64 x &&& BitVec.ofInt 64 31).toNat : Int) := rfl
  rw [e, IntWalk.i64_in _ (by omega)]
  omega
theorem bestV_take {l : List Int} {i : Nat} {x : Int} (h : l[i]? = some x) : bestV (l.take (i + 1)) = if okL x then max (bestV (l.take i)) x else bestV (l.take i) := by
  rw [List.take_add_one, h]
  exact bestV_snoc _ _
theorem int_cell {w w' : World} {b off : Nat} {x : Int} {cs : List Value} {i : Nat} (hc : CellsOff w b (off + i * 1) 0 cs) (hR : cs = [.int .i64 x]) (hb : Below w.heap.size w w') : w'.cell? ⟨b, off + i, none⟩ = some (.int .i64 x) ∧ b < w'.heap.size := by
  subst hR
  have h := (hc.mono (CK.of_below hb)).1
  change w'.cell? ⟨b, off + i * 1 + 0, none⟩ = _ at h
  simp only [Nat.mul_one, Nat.add_zero] at h
  exact ⟨h, cell_size h⟩
def RndS (w0 : World) (zb mb : Nat) (now : Int) (l : List Int) (k : Nat) (w : World) : Prop := ∃ z m, ZS w0 zb mb z m w ∧ RndB now l k z m
def RndI (w0 : World) (zb mb : Nat) (now : Int) (l : List Int) (k i : Nat) (w : World) : Prop := ∃ z m, ZS w0 zb mb z m w ∧ Rnd now l k i m ∧ Rz now (bestV l) k z
def Ph1S (w0 : World) (zb mb : Nat) (now : Int) (w : World) : Prop := ∃ z m, ZS w0 zb mb z m w ∧ Ph1 now z m
theorem ph1s_off {w0 w w' : World} {zb mb sb : Nat} {s : Stp} {now link level t : Int} {none : Bool} {z : Zs} {m : Offs} (hz : ZT w0 zb mb z (offM m link level none t).2 sb s w') (hn : (m.map (·.1)).Nodup) (h : Ph1 now z m) (h0 : 0 ≤ link ∧ link ≤ 31) (ht : t ≤ now) : Ph1S w0 zb mb now w' :=
  ⟨_, _, hz.zs, ph1_off hn h h0.1 h0.2 ht⟩
theorem ph1s_tick {w0 w' : World} {zb mb sb : Nat} {s : Stp} {now t : Int} {z : Zs} {m : Offs} (hz : ZT w0 zb mb (tickS z m t).1 (tickS z m t).2 sb s w') (h : Ph1 now z m) (ht : t ≤ now) : Ph1S w0 zb mb now w' :=
  ⟨_, _, hz.zs, ph1_tick h ht⟩

set_option maxRecDepth 100000 in
set_option maxHeartbeats 4000000 in
theorem settles_law (a : Option Addr) (c : Nat) (l : List Stp) (a2 : Option Addr) (c2 : Nat) (lv : List Int) (now : Int) (w : World) (hr : RowAt rStp w a l) (hmax : l.length ≤ maxLen) (hr2 : RowAt (Rd.int .i64) w a2 lv) (hmax2 : lv.length ≤ maxLen) :
    Calls Try.prog 4 #[.slice a l.length c, .slice a2 lv.length c2, .int .i64 now] w fun e w' => e = .returned (.bool true) ∧ Below w.heap.size w w' := by
  have HR := Lib.hid hr
  have HR2 := Lib.hid hr2
  clear hr hr2
  unfold maxLen at hmax hmax2
  by_cases h1 : (30 : Int) < lv.length
  · have b1 : decide ((30 : Int) < lv.length) = true := decide_eq_true h1
    go_enter Try.func4, Try.ntmps4
    go_wp2_with (first | (go_at_call 9; refine (awake_calls w).mono ?_; rintro e wa ⟨rfl, ha⟩; have HA := Lib.hid ha; clear ha) | (go_at_call 10; refine (new_zs w _ HA.out).mono ?_; rintro e w1 ⟨zb, mb, rfl, h1⟩; have H1 := Lib.hid h1; clear h1))
    go_ret
    exact ⟨rfl, H1.out.below⟩
  have b1 : decide ((30 : Int) < lv.length) = false := decide_eq_false h1
  by_cases h2 : now < 0
  · have b2 : decide (now < 0) = true := decide_eq_true h2
    go_enter Try.func4, Try.ntmps4
    go_wp2_with (first | (go_at_call 9; refine (awake_calls w).mono ?_; rintro e wa ⟨rfl, ha⟩; have HA := Lib.hid ha; clear ha) | (go_at_call 10; refine (new_zs w _ HA.out).mono ?_; rintro e w1 ⟨zb, mb, rfl, h1⟩; have H1 := Lib.hid h1; clear h1))
    go_ret
    exact ⟨rfl, H1.out.below⟩
  have b2 : decide (now < 0) = false := decide_eq_false h2
  by_cases h3 : 549755813888 < now
  · have b3 : decide (549755813888 < now) = true := decide_eq_true h3
    go_enter Try.func4, Try.ntmps4
    go_wp2_with (first | (go_at_call 9; refine (awake_calls w).mono ?_; rintro e wa ⟨rfl, ha⟩; have HA := Lib.hid ha; clear ha) | (go_at_call 10; refine (new_zs w _ HA.out).mono ?_; rintro e w1 ⟨zb, mb, rfl, h1⟩; have H1 := Lib.hid h1; clear h1))
    go_ret
    exact ⟨rfl, H1.out.below⟩
  have b3 : decide (549755813888 < now) = false := decide_eq_false h3
  have hl30 : lv.length ≤ 30 := by omega
  have hn0 : 0 ≤ now := by omega
  have hn1 : now ≤ 549755813888 := by omega
  have HLE := Lib.hid (And.intro hl30 (And.intro hn0 hn1))
  go_enter Try.func4, Try.ntmps4
  go_wp2_with (first
    | (go_at_call 9; refine (awake_calls w).mono ?_; rintro e wa ⟨rfl, ha⟩; have HA := Lib.hid ha; clear ha)
    | (go_at_call 10; refine (new_zs w _ HA.out).mono ?_; rintro e w1 ⟨zb, mb, rfl, h1⟩; have H1 : Hid (Ph1S w zb mb now w1) := ⟨_, _, h1, ph1_start HLE.out.2.1⟩; clear h1))
  go_loopg [10] (l.length + 1) (fun g k wr => ∃ i : Nat, i ≤ l.length ∧ g + i = l.length + 1 ∧ k = .int .i64 i ∧ Hid (Ph1S w zb mb now wr))
  case atStart => exact ⟨0, Nat.zero_le _, rfl, rfl, H1⟩
  case round =>
    clear H1
    obtain ⟨i, hil, hg, rfl, HI⟩ := hrel
    by_cases hlt : i < l.length ∧ (i : Int) < 100
    · obtain ⟨hlt, h100⟩ := hlt
      have b100 : decide ((i : Int) < 100) = true := decide_eq_true h100
      have e1 : IntKind.i64.wrap ((i : Int) + 1) = (i : Int) + 1 := IntWalk.i64_in _ (by omega)
      obtain ⟨z, m, hz, hp⟩ := HI.out
      have HZ := Lib.hid hz
      have HP := Lib.hid hp
      clear hz hp
      obtain ⟨b, off, cs, rfl, hc, hR⟩ := HR.out.get (List.getElem?_eq_getElem hlt)
      generalize l[i] = t at hR
      obtain rfl := rStp_out hR
      change CellsOff w b (off + i * 5) 0 t.cells at hc
      obtain ⟨c0, c1, c2, c3, c4⟩ := row_cells hc HZ.out.below
      clear hR hc
      have HS := Lib.hid (ZT.new HZ.out t)
      have HN := Lib.hid (Lib.hid HZ.out.at_.2.nd)
      by_cases g1 : now < t.now
      · have d1 : decide (now < t.now) = true := decide_eq_true g1
        go_wp2_with (fail)
        go_roundg (l.length - i)
        case measure => omega
        case rel => exact ⟨i + 1, by omega, by omega, by go_num, Lib.hid ⟨_, _, HS.out.zs, HP.out⟩⟩
      have d1 : decide (now < t.now) = false := decide_eq_false g1
      by_cases g2 : 0 ≤ t.link
      case neg =>
        have d2 : decide (0 ≤ t.link) = false := decide_eq_false g2
        go_wp2_with (first
          | (go_at_call 12; refine (offer_zt HS.out _ _ _ _).mono ?_; rintro e w2 ⟨rfl, h2⟩; have h3 := ph1_off HN.out.out HP.out (none := t.none_) (level := t.level) (land31 t.link).1 (land31 t.link).2 g1; have HV : Hid (Ph1S w zb mb now w2) := ⟨_, _, h2.zs, h3⟩; clear h2 h3)
          | (go_at_call 14; refine (tick_zt HS.out _).mono ?_; rintro e w2 ⟨rfl, h2⟩; have HV : Hid (Ph1S w zb mb now w2) := (ph1s_tick h2 HP.out (by omega)); clear h2))
        all_goals
          go_roundg (l.length - i)
          case measure => omega
          case rel => exact ⟨i + 1, by omega, by omega, by go_num, HV⟩
      have d2 : decide (0 ≤ t.link) = true := decide_eq_true g2
      by_cases g3 : t.link < 100
      case neg =>
        have d3 : decide (t.link < 100) = false := decide_eq_false g3
        go_wp2_with (first
          | (go_at_call 12; refine (offer_zt HS.out _ _ _ _).mono ?_; rintro e w2 ⟨rfl, h2⟩; have h3 := ph1_off HN.out.out HP.out (none := t.none_) (level := t.level) (land31 t.link).1 (land31 t.link).2 g1; have HV : Hid (Ph1S w zb mb now w2) := ⟨_, _, h2.zs, h3⟩; clear h2 h3)
          | (go_at_call 14; refine (tick_zt HS.out _).mono ?_; rintro e w2 ⟨rfl, h2⟩; have HV : Hid (Ph1S w zb mb now w2) := (ph1s_tick h2 HP.out (by omega)); clear h2))
        all_goals
          go_roundg (l.length - i)
          case measure => omega
          case rel => exact ⟨i + 1, by omega, by omega, by go_num, HV⟩
      have d3 : decide (t.link < 100) = true := decide_eq_true g3
      by_cases g4 : t.do_ = 0
      case neg =>
        have d4 : (t.do_ == 0) = false := by simpa using g4
        go_wp2_with (first
          | (go_at_call 12; refine (offer_zt HS.out _ _ _ _).mono ?_; rintro e w2 ⟨rfl, h2⟩; have h3 := ph1_off HN.out.out HP.out (none := t.none_) (level := t.level) (land31 t.link).1 (land31 t.link).2 g1; have HV : Hid (Ph1S w zb mb now w2) := ⟨_, _, h2.zs, h3⟩; clear h2 h3)
          | (go_at_call 14; refine (tick_zt HS.out _).mono ?_; rintro e w2 ⟨rfl, h2⟩; have HV : Hid (Ph1S w zb mb now w2) := (ph1s_tick h2 HP.out (by omega)); clear h2))
        all_goals
          go_roundg (l.length - i)
          case measure => omega
          case rel => exact ⟨i + 1, by omega, by omega, by go_num, HV⟩
      have d4 : (t.do_ == 0) = true := by simpa using g4
      clear g4
      by_cases g5 : 30 ≤ t.link
      · have d5 : decide (30 ≤ t.link) = true := decide_eq_true g5
        go_wp2_with (fail)
        go_roundg (l.length - i)
        case measure => omega
        case rel => exact ⟨i + 1, by omega, by omega, by go_num, Lib.hid ⟨_, _, HS.out.zs, HP.out⟩⟩
      have d5 : decide (30 ≤ t.link) = false := decide_eq_false g5
      go_wp2_with (first
        | (go_at_call 12; refine (offer_zt HS.out _ _ _ _).mono ?_; rintro e w2 ⟨rfl, h2⟩; have h3 := ph1_off HN.out.out HP.out (none := t.none_) (level := t.level) (land31 t.link).1 (land31 t.link).2 g1; have HV : Hid (Ph1S w zb mb now w2) := ⟨_, _, h2.zs, h3⟩; clear h2 h3)
        | (go_at_call 14; refine (tick_zt HS.out _).mono ?_; rintro e w2 ⟨rfl, h2⟩; have HV : Hid (Ph1S w zb mb now w2) := (ph1s_tick h2 HP.out (by omega)); clear h2))
      all_goals
        go_roundg (l.length - i)
        case measure => omega
        case rel => exact ⟨i + 1, by omega, by omega, by go_num, HV⟩
    · have hor : (i : Int) < l.length ∧ decide ((i : Int) < 100) = false ∨ (¬ (i : Int) < l.length ∧ decide ((i : Int) < l.length) = false) := by
        by_cases hq : (i : Int) < l.length
        · exact .inl ⟨hq, decide_eq_false (by omega)⟩
        · exact .inr ⟨hq, decide_eq_false hq⟩
      rcases hor with ⟨hb1, hb2⟩ | ⟨hb1, hb2⟩
      · clear hlt
        go_wp2_with (fail)
        go_loopg [12, 13] (lv.length + 1) (fun g v k wr => ∃ i : Nat, i ≤ lv.length ∧ g + i = lv.length + 1 ∧ v = .int .i64 (bestV (lv.take i)) ∧ k = .int .i64 i ∧ Hid (Ph1S w zb mb now wr))
        case atStart => exact ⟨0, Nat.zero_le _, rfl, rfl, rfl, HI⟩
        case round =>
          clear HI
          obtain ⟨i2, hil2, hg2, rfl, rfl, HI⟩ := hrel
          by_cases hlt : i2 < lv.length
          · have e1 : IntKind.i64.wrap ((i2 : Int) + 1) = (i2 : Int) + 1 := IntWalk.i64_in _ (by omega)
            obtain ⟨z, m, hz, hp⟩ := HI.out
            obtain ⟨b, off, cs, rfl, hc, hR⟩ := HR2.out.get (List.getElem?_eq_getElem hlt)
            have hgx : lv[i2]? = some lv[i2] := List.getElem?_eq_getElem hlt
            generalize lv[i2] = x at hR hgx
            obtain ⟨c0, y0⟩ := int_cell hc hR.1 hz.below
            have HT := Lib.hid (bestV_take hgx)
            clear hz hp hc hR hgx
            generalize bestV (lv.take i2) = bv at HT
            by_cases p1 : 1 ≤ x
            case neg =>
              have d1 : decide (1 ≤ x) = false := decide_eq_false p1
              go_wp2_with (fail)
              go_roundg (lv.length - i2)
              case measure => omega
              case rel => exact ⟨i2 + 1, by omega, by omega, by rw [HT.out, if_neg (by unfold okL; omega)], by go_num, HI⟩
            have d1 : decide (1 ≤ x) = true := decide_eq_true p1
            by_cases p2 : x ≤ 24
            case neg =>
              have d2 : decide (x ≤ 24) = false := decide_eq_false p2
              go_wp2_with (fail)
              go_roundg (lv.length - i2)
              case measure => omega
              case rel => exact ⟨i2 + 1, by omega, by omega, by rw [HT.out, if_neg (by unfold okL; omega)], by go_num, HI⟩
            have d2 : decide (x ≤ 24) = true := decide_eq_true p2
            have HO := Lib.hid (show okL x from ⟨p1, p2⟩)
            go_wp2_with (fail)
            all_goals
              go_roundg (lv.length - i2)
              case measure => omega
              case rel => exact ⟨i2 + 1, by omega, by omega, by rw [HT.out, if_pos HO.out]; first | rw [Int.max_eq_left (by omega)] | rw [Int.max_eq_right (by omega)], by go_num, HI⟩
          · have hlt2 : ¬ (i2 : Int) < lv.length := by omega
            have bl : decide ((i2 : Int) < lv.length) = false := decide_eq_false hlt2
            have hfull : lv.take i2 = lv := List.take_of_length_le (by omega)
            rw [hfull]
            clear hfull
            have HJ : Hid (RndS w zb mb now lv 0 wr) := by
              obtain ⟨z, m, hz, hp⟩ := HI.out
              exact ⟨z, m, hz, rnd_start hp, rz_start hp, fun h => by omega⟩
            have HB := Lib.hid (bestV_le lv 0 (by decide) (by decide))
            generalize hbv : bestV lv = bv
            have HBV := Lib.hid hbv
            clear hbv HI hlt
            go_wp2_with (fail)
            go_loopg [14] 13 (fun g k wr => ∃ i : Nat, i ≤ 12 ∧ g + i = 13 ∧ k = .int .i64 i ∧ Hid (RndS w zb mb now lv i wr))
            case atStart => exact ⟨0, by decide, rfl, rfl, HJ⟩
            case round =>
              clear HJ
              obtain ⟨k, hk, hgk, rfl, HI⟩ := hrel
              by_cases hk12 : (k : Int) < 12
              · have bk : decide ((k : Int) < 12) = true := decide_eq_true hk12
                have e1 : IntKind.i64.wrap ((k : Int) + 1) = (k : Int) + 1 := IntWalk.i64_in _ (by omega)
                have e2 : IntKind.i64.wrap (now + (k : Int)) = now + (k : Int) := IntWalk.i64_in _ (by omega)
                have HJ : Hid (RndI w zb mb now lv k 0 wr) := by
                  obtain ⟨z, m, hz, hp⟩ := HI.out
                  exact ⟨z, m, hz, hp.1, hp.2.1⟩
                clear HI
                go_wp2_with (fail)
                go_loopg [15] (lv.length + 1) (fun g j wr => ∃ i : Nat, i ≤ lv.length ∧ g + i = lv.length + 1 ∧ j = .int .i64 i ∧ Hid (RndI w zb mb now lv k i wr))
                case atStart => exact ⟨0, Nat.zero_le _, rfl, rfl, HJ⟩
                case round =>
                  clear HJ
                  obtain ⟨j, hj, hgj, rfl, HI⟩ := hrel
                  obtain ⟨z, m, hz, hp, hq⟩ := HI.out
                  have HZ := Lib.hid hz
                  have HP := Lib.hid hp
                  have HQ := Lib.hid hq
                  clear hz hp hq HI
                  by_cases hlt : j < lv.length
                  · have e3 : IntKind.i64.wrap ((j : Int) + 1) = (j : Int) + 1 := IntWalk.i64_in _ (by omega)
                    obtain ⟨b, off, cs, rfl, hc, hR⟩ := HR2.out.get (List.getElem?_eq_getElem hlt)
                    have hgx : lv[j]? = some lv[j] := List.getElem?_eq_getElem hlt
                    generalize lv[j] = x at hR hgx
                    obtain ⟨c0, y0⟩ := int_cell hc hR.1 HZ.out.below
                    have HX := Lib.hid (rnd_off HZ.out.at_.2.nd HP.out hgx HLE.out.1 HLE.out.2.1 HLE.out.2.2 (by omega))
                    clear hc hR hgx
                    go_wp2_with ((go_at_call 12; refine (offer_zs HZ.out _ _ _ _).mono ?_; rintro e w2 ⟨rfl, h2⟩; have HV : Hid (RndI w zb mb now lv k (j + 1) w2) := ⟨_, _, h2, HX.out, HQ.out⟩; clear h2))
                    go_roundg (lv.length - j)
                    case measure => omega
                    case rel => exact ⟨j + 1, by omega, by omega, by go_num, HV⟩
                  · have hlt2 : ¬ (j : Int) < lv.length := by omega
                    have bl : decide ((j : Int) < lv.length) = false := decide_eq_false hlt2
                    obtain rfl : j = lv.length := by omega
                    have HX := Lib.hid (rnd_tick HP.out HQ.out HLE.out.2.1 HLE.out.2.2 (by omega))
                    go_wp2_with ((go_at_call 14; refine (tick_zs HZ.out _).mono ?_; rintro e w2 ⟨rfl, h2⟩; have HV : Hid (RndS w zb mb now lv (k + 1) w2) := ⟨_, _, h2, HX.out⟩; clear h2))
                    go_roundg (12 - k)
                    case measure => omega
                    case rel => exact ⟨k + 1, by omega, by omega, by go_num, HV⟩
              · have bk : decide ((k : Int) < 12) = false := decide_eq_false hk12
                obtain rfl : k = 12 := by omega
                obtain ⟨z, m, hz, hp⟩ := HI.out
                have HZ := Lib.hid hz
                have E1 := Lib.hid ((hp.2.2 (by decide)).trans HBV.out)
                have E2 := Lib.hid (show levelI z = bv - 1 by rw [own_lev hp.2.1.own, rz_fin hp.2.1, HBV.out])
                have e4 : IntKind.i64.wrap (bv - 1) = bv - 1 := by
                  have hb : 0 ≤ bestV lv ∧ bestV lv ≤ 24 := HB.out
                  rw [HBV.out] at hb
                  exact IntWalk.i64_in _ (by omega)
                clear hz hp HI
                go_wp2_with (first
                  | (go_at_call 18; refine (best_zs HZ.out).mono ?_; rintro e w5 ⟨rfl, h5⟩; have H5 := Lib.hid h5; clear h5; rw [E1.out])
                  | (go_at_call 16; refine (level_zs H5.out).mono ?_; rintro e w5 ⟨rfl, h5⟩; have H6 := Lib.hid h5; clear h5; rw [E2.out]))
                go_ret
                exact ⟨rfl, H6.out.below⟩
      · clear hlt
        go_wp2_with (fail)
        go_loopg [12, 13] (lv.length + 1) (fun g v k wr => ∃ i : Nat, i ≤ lv.length ∧ g + i = lv.length + 1 ∧ v = .int .i64 (bestV (lv.take i)) ∧ k = .int .i64 i ∧ Hid (Ph1S w zb mb now wr))
        case atStart => exact ⟨0, Nat.zero_le _, rfl, rfl, rfl, HI⟩
        case round =>
          clear HI
          obtain ⟨i2, hil2, hg2, rfl, rfl, HI⟩ := hrel
          by_cases hlt : i2 < lv.length
          · have e1 : IntKind.i64.wrap ((i2 : Int) + 1) = (i2 : Int) + 1 := IntWalk.i64_in _ (by omega)
            obtain ⟨z, m, hz, hp⟩ := HI.out
            obtain ⟨b, off, cs, rfl, hc, hR⟩ := HR2.out.get (List.getElem?_eq_getElem hlt)
            have hgx : lv[i2]? = some lv[i2] := List.getElem?_eq_getElem hlt
            generalize lv[i2] = x at hR hgx
            obtain ⟨c0, y0⟩ := int_cell hc hR.1 hz.below
            have HT := Lib.hid (bestV_take hgx)
            clear hz hp hc hR hgx
            generalize bestV (lv.take i2) = bv at HT
            by_cases p1 : 1 ≤ x
            case neg =>
              have d1 : decide (1 ≤ x) = false := decide_eq_false p1
              go_wp2_with (fail)
              go_roundg (lv.length - i2)
              case measure => omega
              case rel => exact ⟨i2 + 1, by omega, by omega, by rw [HT.out, if_neg (by unfold okL; omega)], by go_num, HI⟩
            have d1 : decide (1 ≤ x) = true := decide_eq_true p1
            by_cases p2 : x ≤ 24
            case neg =>
              have d2 : decide (x ≤ 24) = false := decide_eq_false p2
              go_wp2_with (fail)
              go_roundg (lv.length - i2)
              case measure => omega
              case rel => exact ⟨i2 + 1, by omega, by omega, by rw [HT.out, if_neg (by unfold okL; omega)], by go_num, HI⟩
            have d2 : decide (x ≤ 24) = true := decide_eq_true p2
            have HO := Lib.hid (show okL x from ⟨p1, p2⟩)
            go_wp2_with (fail)
            all_goals
              go_roundg (lv.length - i2)
              case measure => omega
              case rel => exact ⟨i2 + 1, by omega, by omega, by rw [HT.out, if_pos HO.out]; first | rw [Int.max_eq_left (by omega)] | rw [Int.max_eq_right (by omega)], by go_num, HI⟩
          · have hlt2 : ¬ (i2 : Int) < lv.length := by omega
            have bl : decide ((i2 : Int) < lv.length) = false := decide_eq_false hlt2
            have hfull : lv.take i2 = lv := List.take_of_length_le (by omega)
            rw [hfull]
            clear hfull
            have HJ : Hid (RndS w zb mb now lv 0 wr) := by
              obtain ⟨z, m, hz, hp⟩ := HI.out
              exact ⟨z, m, hz, rnd_start hp, rz_start hp, fun h => by omega⟩
            have HB := Lib.hid (bestV_le lv 0 (by decide) (by decide))
            generalize hbv : bestV lv = bv
            have HBV := Lib.hid hbv
            clear hbv HI hlt
            go_wp2_with (fail)
            go_loopg [14] 13 (fun g k wr => ∃ i : Nat, i ≤ 12 ∧ g + i = 13 ∧ k = .int .i64 i ∧ Hid (RndS w zb mb now lv i wr))
            case atStart => exact ⟨0, by decide, rfl, rfl, HJ⟩
            case round =>
              clear HJ
              obtain ⟨k, hk, hgk, rfl, HI⟩ := hrel
              by_cases hk12 : (k : Int) < 12
              · have bk : decide ((k : Int) < 12) = true := decide_eq_true hk12
                have e1 : IntKind.i64.wrap ((k : Int) + 1) = (k : Int) + 1 := IntWalk.i64_in _ (by omega)
                have e2 : IntKind.i64.wrap (now + (k : Int)) = now + (k : Int) := IntWalk.i64_in _ (by omega)
                have HJ : Hid (RndI w zb mb now lv k 0 wr) := by
                  obtain ⟨z, m, hz, hp⟩ := HI.out
                  exact ⟨z, m, hz, hp.1, hp.2.1⟩
                clear HI
                go_wp2_with (fail)
                go_loopg [15] (lv.length + 1) (fun g j wr => ∃ i : Nat, i ≤ lv.length ∧ g + i = lv.length + 1 ∧ j = .int .i64 i ∧ Hid (RndI w zb mb now lv k i wr))
                case atStart => exact ⟨0, Nat.zero_le _, rfl, rfl, HJ⟩
                case round =>
                  clear HJ
                  obtain ⟨j, hj, hgj, rfl, HI⟩ := hrel
                  obtain ⟨z, m, hz, hp, hq⟩ := HI.out
                  have HZ := Lib.hid hz
                  have HP := Lib.hid hp
                  have HQ := Lib.hid hq
                  clear hz hp hq HI
                  by_cases hlt : j < lv.length
                  · have e3 : IntKind.i64.wrap ((j : Int) + 1) = (j : Int) + 1 := IntWalk.i64_in _ (by omega)
                    obtain ⟨b, off, cs, rfl, hc, hR⟩ := HR2.out.get (List.getElem?_eq_getElem hlt)
                    have hgx : lv[j]? = some lv[j] := List.getElem?_eq_getElem hlt
                    generalize lv[j] = x at hR hgx
                    obtain ⟨c0, y0⟩ := int_cell hc hR.1 HZ.out.below
                    have HX := Lib.hid (rnd_off HZ.out.at_.2.nd HP.out hgx HLE.out.1 HLE.out.2.1 HLE.out.2.2 (by omega))
                    clear hc hR hgx
                    go_wp2_with ((go_at_call 12; refine (offer_zs HZ.out _ _ _ _).mono ?_; rintro e w2 ⟨rfl, h2⟩; have HV : Hid (RndI w zb mb now lv k (j + 1) w2) := ⟨_, _, h2, HX.out, HQ.out⟩; clear h2))
                    go_roundg (lv.length - j)
                    case measure => omega
                    case rel => exact ⟨j + 1, by omega, by omega, by go_num, HV⟩
                  · have hlt2 : ¬ (j : Int) < lv.length := by omega
                    have bl : decide ((j : Int) < lv.length) = false := decide_eq_false hlt2
                    obtain rfl : j = lv.length := by omega
                    have HX := Lib.hid (rnd_tick HP.out HQ.out HLE.out.2.1 HLE.out.2.2 (by omega))
                    go_wp2_with ((go_at_call 14; refine (tick_zs HZ.out _).mono ?_; rintro e w2 ⟨rfl, h2⟩; have HV : Hid (RndS w zb mb now lv (k + 1) w2) := ⟨_, _, h2, HX.out⟩; clear h2))
                    go_roundg (12 - k)
                    case measure => omega
                    case rel => exact ⟨k + 1, by omega, by omega, by go_num, HV⟩
              · have bk : decide ((k : Int) < 12) = false := decide_eq_false hk12
                obtain rfl : k = 12 := by omega
                obtain ⟨z, m, hz, hp⟩ := HI.out
                have HZ := Lib.hid hz
                have E1 := Lib.hid ((hp.2.2 (by decide)).trans HBV.out)
                have E2 := Lib.hid (show levelI z = bv - 1 by rw [own_lev hp.2.1.own, rz_fin hp.2.1, HBV.out])
                have e4 : IntKind.i64.wrap (bv - 1) = bv - 1 := by
                  have hb : 0 ≤ bestV lv ∧ bestV lv ≤ 24 := HB.out
                  rw [HBV.out] at hb
                  exact IntWalk.i64_in _ (by omega)
                clear hz hp HI
                go_wp2_with (first
                  | (go_at_call 18; refine (best_zs HZ.out).mono ?_; rintro e w5 ⟨rfl, h5⟩; have H5 := Lib.hid h5; clear h5; rw [E1.out])
                  | (go_at_call 16; refine (level_zs H5.out).mono ?_; rintro e w5 ⟨rfl, h5⟩; have H6 := Lib.hid h5; clear h5; rw [E2.out]))
                go_ret
                exact ⟨rfl, H6.out.below⟩
end Go.Proofs.Ythdhodopmffdmaa
