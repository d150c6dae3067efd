/- flood.Goes tells of each piece just what its five rules say. -/
import Derived.Test.YtnibdmbkefldfaaFlA
namespace Go.Proofs.Ytnibdmbkefldfaa
open Go.RowKit

def rDir (i : Nat) : Int := if i < 2 then 2 else 1
def rWh (i : Nat) : Int := if i = 0 then 1 else if i = 1 then 0 else if i = 2 then -1 else if i = 3 then 0 else 1
def rFit (i : Nat) (o k lv self : Int) (top : Bool) (on olv : Int) : Bool :=
  if i = 0 then true else if i = 1 then top else if i = 2 then o == self else if i = 3 then (k == 1 && o == self) else (k == 1 && (lv == olv && o != on))
def rHit (i : Nat) (d wh o k lv self : Int) (top : Bool) (on olv : Int) : Bool := (rDir i == d && rWh i == wh) && rFit i o k lv self top on olv
def rAny (d wh o k lv self : Int) (top : Bool) (on olv : Int) : Bool :=
  rHit 0 d wh o k lv self top on olv || rHit 1 d wh o k lv self top on olv || rHit 2 d wh o k lv self top on olv || rHit 3 d wh o k lv self top on olv || rHit 4 d wh o k lv self top on olv

section
variable (d o k nr seq life lv : Int) (ov : Bool) (ea : Option Addr) (el ec : Nat) (ra : Option Addr) (rl rc : Nat) (self slv : Int) (top : Bool) (on ol olv onc : Int) (w : World)

/-- What the loop of Goes keeps of its world. -/
def GoesInv (w wr : World) : Prop := Below w.heap.size w wr ∧
  wr.heap[w.heap.size]? = some (.cells #[.int .i64 d, .int .i64 o, .int .i64 k, .int .i64 nr, .int .i64 seq, .int .i64 life, .int .i64 lv, .bool ov, .slice ea el ec, .slice ra rl rc] 35 (0, 0)) ∧
  wr.heap[w.heap.size + 1]? = some (.cells #[.int .i64 self, .int .i64 slv, .bool top, .int .i64 on, .int .i64 ol, .int .i64 olv, .int .i64 onc] 26 (0, 0)) ∧
  wr.heap[w.heap.size + 2]? = some (.cells #[.func (.func 17) #[] #[]] 50 (0, 0)) ∧
  wr.heap[w.heap.size + 3]? = some (rulesBlk (w.heap.size + 2))

theorem GoesInv.next {w wr w2 : World} {x : Obj} (h : GoesInv d o k nr seq life lv ov ea el ec ra rl rc self slv top on ol olv onc w wr) (hb : Below (wr.heap.size + 1) (wr.alloc x) w2) :
    GoesInv d o k nr seq life lv ov ea el ec ra rl rc self slv top on ol olv onc w w2 := by
  obtain ⟨h0, h1, h2, h3, h4⟩ := h
  have := h0.size
  have s1 := size_of h1
  have s2 := size_of h2
  have s3 := size_of h3
  have s4 := size_of h4
  exact ⟨(h0.alloc h0.size _).trans (hb.mono (by omega)), blk_below hb (blk_alloc h1 _) (by omega), blk_below hb (blk_alloc h2 _) (by omega), blk_below hb (blk_alloc h3 _) (by omega), blk_below hb (blk_alloc h4 _) (by omega)⟩

def Rel (i : Nat) (d wh : Int) : Prop := ∀ j, j < i → rHit j d wh o k lv self top on olv = false

theorem Rel.next {i : Nat} {d wh : Int} (h : Rel o k lv self top on olv i d wh) (h1 : rHit i d wh o k lv self top on olv = false) : Rel o k lv self top on olv (i + 1) d wh := by
  intro j hj
  rcases Nat.lt_or_ge j i with h2 | h2
  · exact h j h2
  · obtain rfl : j = i := by omega
    exact h1
theorem Rel.out {d wh : Int} (h : Rel o k lv self top on olv 5 d wh) : rAny d wh o k lv self top on olv = false := by
  unfold rAny
  rw [h 0 (by omega), h 1 (by omega), h 2 (by omega), h 3 (by omega), h 4 (by omega)]; rfl
theorem rAny_hit {d wh : Int} {i : Nat} (hi : i < 5) (h : rHit i d wh o k lv self top on olv = true) : rAny d wh o k lv self top on olv = true := by
  unfold rAny
  obtain rfl | rfl | rfl | rfl | rfl : i = 0 ∨ i = 1 ∨ i = 2 ∨ i = 3 ∨ i = 4 := by omega
  all_goals simp [h]

set_option maxHeartbeats 2000000 in
theorem goes_any : Calls Try.prog 8 #[.agg #[.int .i64 d, .int .i64 o, .int .i64 k, .int .i64 nr, .int .i64 seq, .int .i64 life, .int .i64 lv, .bool ov, .slice ea el ec, .slice ra rl rc], .agg #[.int .i64 self, .int .i64 slv, .bool top, .int .i64 on, .int .i64 ol, .int .i64 olv, .int .i64 onc]] w
    fun e w' => e = .returned (.bool (rAny d (cmpI olv slv) o k lv self top on olv)) ∧ Below w.heap.size w w' := by
  generalize hwh : cmpI olv slv = wh
  have Hwh := Lib.hid hwh
  clear hwh
  go_enter Try.func8, Try.ntmps8
  go_wp2_with fail
  refine (cmp_any _ _ _).mono ?_
  rintro e w1 ⟨rfl, rfl⟩
  rw [Hwh.out]
  go_wp2_with fail
  refine (rules_any _).mono ?_
  rintro e w1 ⟨rfl, hw1⟩
  have H0 : GoesInv d o k nr seq life lv ov ea el ec ra rl rc self slv top on ol olv onc w w1 := by
    subst hw1
    refine ⟨?_, ?_, ?_, ?_, ?_⟩
    · exact ((((Below.refl _ _).alloc (Nat.le_refl _) _).alloc (by simp) _).alloc (by simp only [World.size_alloc]; omega) _).alloc (by simp only [World.size_alloc]; omega) _
    · exact blk_alloc (blk_alloc (blk_alloc (blk_new _ _) _) _) _
    · refine blk_alloc (blk_alloc (blk_new' _ _ _ ?_) _) _
      simp only [World.size_alloc]
    · refine blk_alloc (blk_new' _ _ _ ?_) _
      simp only [World.size_alloc]
    · simp only [World.size_alloc]
      refine blk_new' _ _ _ ?_
      simp only [World.size_alloc]
  clear hw1
  have HH := Lib.hid H0
  clear H0
  go_wp2_with fail
  go_loopg [16] 6 (fun g v wr => ∃ i : Nat, i ≤ 5 ∧ g + i = 6 ∧ v = .int .i64 i ∧ Hid (Rel o k lv self top on olv i d wh) ∧ Hid (GoesInv d o k nr seq life lv ov ea el ec ra rl rc self slv top on ol olv onc w wr))
  case atStart => exact ⟨0, by omega, by omega, rfl, fun j hj => by omega, HH⟩
  case round =>
    obtain ⟨i, hi, hg, rfl, HR, HI⟩ := hrel
    obtain ⟨hBel, h1, h2, h3, h4⟩ := HI.out
    have hc := cells_all h1
    have hs := cells_all h2
    have hn := cells_all h3
    have hq := cells_all h4
    simp only [CellsAt, Nat.reduceAdd, and_true] at hc hs hn hq
    obtain ⟨c0, c1, c2, c3, c4, c5, c6, c7, c8, c9⟩ := hc
    obtain ⟨s0, s1, s2, s3, s4, s5, s6⟩ := hs
    have y3 := size_of h4
    have y0 : w.heap.size < wr.heap.size := by omega
    have y1 : w.heap.size + 1 < wr.heap.size := by omega
    have y2 : w.heap.size + 2 < wr.heap.size := by omega
    have hsz := hBel.size
    obtain ⟨q0, q1, q2, q3, q4, q5, q6, q7, q8, q9, q10, q11, q12, q13, q14⟩ := hq
    obtain rfl | rfl | rfl | rfl | rfl | rfl : i = 0 ∨ i = 1 ∨ i = 2 ∨ i = 3 ∨ i = 4 ∨ i = 5 := by omega
    · clear h1 h2 h3 h4
      by_cases hd : (2 : Int) = d
      · by_cases hw : (1 : Int) = wh
        · have hd1 : ((2 : Int) == d) = true := beq_iff_eq.2 hd
          have hw1 : ((1 : Int) == wh) = true := beq_iff_eq.2 hw
          have HD := Lib.hid hd
          have HW := Lib.hid hw
          clear hd hw
          go_wp2_with fail
          refine (r2_any _ _ _ _ _ _ _ _ _ _ _ _ _ _ _ _ _ _ _ _ _ _ ).mono ?_
          rintro e w2 ⟨he, hb2⟩
          simp only [World.size_alloc] at hb2
          have hfin : Below w.heap.size w w2 := (hBel.alloc hsz _).trans (hb2.mono (by omega))
          have HN := Lib.hid (HI.out.next _ _ _ _ _ _ _ _ _ _ _ _ _ _ _ _ _ _ _ _ _ hb2)
          have HB2 := Lib.hid hfin
          clear hb2 hBel hfin
          obtain ⟨ft, hf⟩ : ∃ ft, ft = true := ⟨_, rfl⟩
          rw [← hf] at he
          subst he
          have HF := Lib.hid hf
          clear hf
          cases ft
          · go_wp2_with fail
            go_roundg 5
            case measure => omega
            case rel => exact ⟨1, by omega, by omega, by go_num, HR.out.next _ _ _ _ _ _ _ (by have h1 := HD.out; have h2 := HW.out; have h3 := HF.out; simp only [rHit, rDir, rWh, rFit]; simp_all), HN⟩
          · go_wp2_with fail
            go_ret
            exact ⟨by rw [rAny_hit o k lv self top on olv (i := 0) (by omega) (by have h1 := HD.out; have h2 := HW.out; have h3 := HF.out; simp only [rHit, rDir, rWh, rFit]; simp_all)]; rfl, HB2⟩
        · have hd1 : ((2 : Int) == d) = true := beq_iff_eq.2 hd
          have hw1 : ((1 : Int) == wh) = false := beq_eq_false_iff_ne.2 hw
          have HW := Lib.hid hw
          clear hd hw
          go_wp2_with fail
          go_roundg 5
          case measure => omega
          case rel => exact ⟨1, by omega, by omega, by go_num, HR.out.next _ _ _ _ _ _ _ (by have h2 := HW.out; simp only [rHit, rDir, rWh, rFit]; simp_all), HI.out.next _ _ _ _ _ _ _ _ _ _ _ _ _ _ _ _ _ _ _ _ _ (Below.refl _ _)⟩
      · have hd1 : ((2 : Int) == d) = false := beq_eq_false_iff_ne.2 hd
        have HD := Lib.hid hd
        clear hd
        go_wp2_with fail
        go_roundg 5
        case measure => omega
        case rel => exact ⟨1, by omega, by omega, by go_num, HR.out.next _ _ _ _ _ _ _ (by have h2 := HD.out; simp only [rHit, rDir, rWh, rFit]; simp_all), HI.out.next _ _ _ _ _ _ _ _ _ _ _ _ _ _ _ _ _ _ _ _ _ (Below.refl _ _)⟩
    · clear h1 h2 h3 h4
      by_cases hd : (2 : Int) = d
      · by_cases hw : (0 : Int) = wh
        · have hd1 : ((2 : Int) == d) = true := beq_iff_eq.2 hd
          have hw1 : ((0 : Int) == wh) = true := beq_iff_eq.2 hw
          have HD := Lib.hid hd
          have HW := Lib.hid hw
          clear hd hw
          go_wp2_with fail
          refine (r3_any _ _ _ _ _ _ _ _ _ _ _ _ _ _ _ _ _ _ _ _ _ _ ).mono ?_
          rintro e w2 ⟨he, hb2⟩
          simp only [World.size_alloc] at hb2
          have hfin : Below w.heap.size w w2 := (hBel.alloc hsz _).trans (hb2.mono (by omega))
          have HN := Lib.hid (HI.out.next _ _ _ _ _ _ _ _ _ _ _ _ _ _ _ _ _ _ _ _ _ hb2)
          have HB2 := Lib.hid hfin
          clear hb2 hBel hfin
          obtain ⟨ft, hf⟩ : ∃ ft, ft = top := ⟨_, rfl⟩
          rw [← hf] at he
          subst he
          have HF := Lib.hid hf
          clear hf
          cases ft
          · go_wp2_with fail
            go_roundg 4
            case measure => omega
            case rel => exact ⟨2, by omega, by omega, by go_num, HR.out.next _ _ _ _ _ _ _ (by have h1 := HD.out; have h2 := HW.out; have h3 := HF.out; simp only [rHit, rDir, rWh, rFit]; simp_all), HN⟩
          · go_wp2_with fail
            go_ret
            exact ⟨by rw [rAny_hit o k lv self top on olv (i := 1) (by omega) (by have h1 := HD.out; have h2 := HW.out; have h3 := HF.out; simp only [rHit, rDir, rWh, rFit]; simp_all)]; rfl, HB2⟩
        · have hd1 : ((2 : Int) == d) = true := beq_iff_eq.2 hd
          have hw1 : ((0 : Int) == wh) = false := beq_eq_false_iff_ne.2 hw
          have HW := Lib.hid hw
          clear hd hw
          go_wp2_with fail
          go_roundg 4
          case measure => omega
          case rel => exact ⟨2, by omega, by omega, by go_num, HR.out.next _ _ _ _ _ _ _ (by have h2 := HW.out; simp only [rHit, rDir, rWh, rFit]; simp_all), HI.out.next _ _ _ _ _ _ _ _ _ _ _ _ _ _ _ _ _ _ _ _ _ (Below.refl _ _)⟩
      · have hd1 : ((2 : Int) == d) = false := beq_eq_false_iff_ne.2 hd
        have HD := Lib.hid hd
        clear hd
        go_wp2_with fail
        go_roundg 4
        case measure => omega
        case rel => exact ⟨2, by omega, by omega, by go_num, HR.out.next _ _ _ _ _ _ _ (by have h2 := HD.out; simp only [rHit, rDir, rWh, rFit]; simp_all), HI.out.next _ _ _ _ _ _ _ _ _ _ _ _ _ _ _ _ _ _ _ _ _ (Below.refl _ _)⟩
    · clear h1 h2 h3 h4
      by_cases hd : (1 : Int) = d
      · by_cases hw : (-1 : Int) = wh
        · have hd1 : ((1 : Int) == d) = true := beq_iff_eq.2 hd
          have hw1 : ((-1 : Int) == wh) = true := beq_iff_eq.2 hw
          have HD := Lib.hid hd
          have HW := Lib.hid hw
          clear hd hw
          go_wp2_with fail
          refine (own_any _ _ _ _ _ _ _ _ _ _ _ _ _ _ _ _ _ _ _ _ _ _ ).mono ?_
          rintro e w2 ⟨he, hb2⟩
          simp only [World.size_alloc] at hb2
          have hfin : Below w.heap.size w w2 := (hBel.alloc hsz _).trans (hb2.mono (by omega))
          have HN := Lib.hid (HI.out.next _ _ _ _ _ _ _ _ _ _ _ _ _ _ _ _ _ _ _ _ _ hb2)
          have HB2 := Lib.hid hfin
          clear hb2 hBel hfin
          obtain ⟨ft, hf⟩ : ∃ ft, ft = (o == self) := ⟨_, rfl⟩
          rw [← hf] at he
          subst he
          have HF := Lib.hid hf
          clear hf
          cases ft
          · go_wp2_with fail
            go_roundg 3
            case measure => omega
            case rel => exact ⟨3, by omega, by omega, by go_num, HR.out.next _ _ _ _ _ _ _ (by have h1 := HD.out; have h2 := HW.out; have h3 := HF.out; simp only [rHit, rDir, rWh, rFit]; simp_all), HN⟩
          · go_wp2_with fail
            go_ret
            exact ⟨by rw [rAny_hit o k lv self top on olv (i := 2) (by omega) (by have h1 := HD.out; have h2 := HW.out; have h3 := HF.out; simp only [rHit, rDir, rWh, rFit]; simp_all)]; rfl, HB2⟩
        · have hd1 : ((1 : Int) == d) = true := beq_iff_eq.2 hd
          have hw1 : ((-1 : Int) == wh) = false := beq_eq_false_iff_ne.2 hw
          have HW := Lib.hid hw
          clear hd hw
          go_wp2_with fail
          go_roundg 3
          case measure => omega
          case rel => exact ⟨3, by omega, by omega, by go_num, HR.out.next _ _ _ _ _ _ _ (by have h2 := HW.out; simp only [rHit, rDir, rWh, rFit]; simp_all), HI.out.next _ _ _ _ _ _ _ _ _ _ _ _ _ _ _ _ _ _ _ _ _ (Below.refl _ _)⟩
      · have hd1 : ((1 : Int) == d) = false := beq_eq_false_iff_ne.2 hd
        have HD := Lib.hid hd
        clear hd
        go_wp2_with fail
        go_roundg 3
        case measure => omega
        case rel => exact ⟨3, by omega, by omega, by go_num, HR.out.next _ _ _ _ _ _ _ (by have h2 := HD.out; simp only [rHit, rDir, rWh, rFit]; simp_all), HI.out.next _ _ _ _ _ _ _ _ _ _ _ _ _ _ _ _ _ _ _ _ _ (Below.refl _ _)⟩
    · clear h1 h2 h3 h4
      by_cases hd : (1 : Int) = d
      · by_cases hw : (0 : Int) = wh
        · have hd1 : ((1 : Int) == d) = true := beq_iff_eq.2 hd
          have hw1 : ((0 : Int) == wh) = true := beq_iff_eq.2 hw
          have HD := Lib.hid hd
          have HW := Lib.hid hw
          clear hd hw
          go_wp2_with fail
          refine (r4_any _ _ _ _ _ _ _ _ _ _ _ _ _ _ _ _ _ _ _ _ _ _  _ (by go_simp) (by simp; omega)).mono ?_
          rintro e w2 ⟨he, hb2⟩
          simp only [World.size_alloc] at hb2
          have hfin : Below w.heap.size w w2 := (hBel.alloc hsz _).trans (hb2.mono (by omega))
          have HN := Lib.hid (HI.out.next _ _ _ _ _ _ _ _ _ _ _ _ _ _ _ _ _ _ _ _ _ hb2)
          have HB2 := Lib.hid hfin
          clear hb2 hBel hfin
          obtain ⟨ft, hf⟩ : ∃ ft, ft = ((k == 1) && (o == self)) := ⟨_, rfl⟩
          rw [← hf] at he
          subst he
          have HF := Lib.hid hf
          clear hf
          cases ft
          · go_wp2_with fail
            go_roundg 2
            case measure => omega
            case rel => exact ⟨4, by omega, by omega, by go_num, HR.out.next _ _ _ _ _ _ _ (by have h1 := HD.out; have h2 := HW.out; have h3 := HF.out; simp only [rHit, rDir, rWh, rFit]; simp_all), HN⟩
          · go_wp2_with fail
            go_ret
            exact ⟨by rw [rAny_hit o k lv self top on olv (i := 3) (by omega) (by have h1 := HD.out; have h2 := HW.out; have h3 := HF.out; simp only [rHit, rDir, rWh, rFit]; simp_all)]; rfl, HB2⟩
        · have hd1 : ((1 : Int) == d) = true := beq_iff_eq.2 hd
          have hw1 : ((0 : Int) == wh) = false := beq_eq_false_iff_ne.2 hw
          have HW := Lib.hid hw
          clear hd hw
          go_wp2_with fail
          go_roundg 2
          case measure => omega
          case rel => exact ⟨4, by omega, by omega, by go_num, HR.out.next _ _ _ _ _ _ _ (by have h2 := HW.out; simp only [rHit, rDir, rWh, rFit]; simp_all), HI.out.next _ _ _ _ _ _ _ _ _ _ _ _ _ _ _ _ _ _ _ _ _ (Below.refl _ _)⟩
      · have hd1 : ((1 : Int) == d) = false := beq_eq_false_iff_ne.2 hd
        have HD := Lib.hid hd
        clear hd
        go_wp2_with fail
        go_roundg 2
        case measure => omega
        case rel => exact ⟨4, by omega, by omega, by go_num, HR.out.next _ _ _ _ _ _ _ (by have h2 := HD.out; simp only [rHit, rDir, rWh, rFit]; simp_all), HI.out.next _ _ _ _ _ _ _ _ _ _ _ _ _ _ _ _ _ _ _ _ _ (Below.refl _ _)⟩
    · clear h1 h2 h3 h4
      by_cases hd : (1 : Int) = d
      · by_cases hw : (1 : Int) = wh
        · have hd1 : ((1 : Int) == d) = true := beq_iff_eq.2 hd
          have hw1 : ((1 : Int) == wh) = true := beq_iff_eq.2 hw
          have HD := Lib.hid hd
          have HW := Lib.hid hw
          clear hd hw
          go_wp2_with fail
          refine (r5_any _ _ _ _ _ _ _ _ _ _ _ _ _ _ _ _ _ _ _ _ _ _  _ (by go_simp) (by simp; omega)).mono ?_
          rintro e w2 ⟨he, hb2⟩
          simp only [World.size_alloc] at hb2
          have hfin : Below w.heap.size w w2 := (hBel.alloc hsz _).trans (hb2.mono (by omega))
          have HN := Lib.hid (HI.out.next _ _ _ _ _ _ _ _ _ _ _ _ _ _ _ _ _ _ _ _ _ hb2)
          have HB2 := Lib.hid hfin
          clear hb2 hBel hfin
          obtain ⟨ft, hf⟩ : ∃ ft, ft = ((k == 1) && (lv == olv && o != on)) := ⟨_, rfl⟩
          rw [← hf] at he
          subst he
          have HF := Lib.hid hf
          clear hf
          cases ft
          · go_wp2_with fail
            go_roundg 1
            case measure => omega
            case rel => exact ⟨5, by omega, by omega, by go_num, HR.out.next _ _ _ _ _ _ _ (by have h1 := HD.out; have h2 := HW.out; have h3 := HF.out; simp only [rHit, rDir, rWh, rFit]; simp_all), HN⟩
          · go_wp2_with fail
            go_ret
            exact ⟨by rw [rAny_hit o k lv self top on olv (i := 4) (by omega) (by have h1 := HD.out; have h2 := HW.out; have h3 := HF.out; simp only [rHit, rDir, rWh, rFit]; simp_all)]; rfl, HB2⟩
        · have hd1 : ((1 : Int) == d) = true := beq_iff_eq.2 hd
          have hw1 : ((1 : Int) == wh) = false := beq_eq_false_iff_ne.2 hw
          have HW := Lib.hid hw
          clear hd hw
          go_wp2_with fail
          go_roundg 1
          case measure => omega
          case rel => exact ⟨5, by omega, by omega, by go_num, HR.out.next _ _ _ _ _ _ _ (by have h2 := HW.out; simp only [rHit, rDir, rWh, rFit]; simp_all), HI.out.next _ _ _ _ _ _ _ _ _ _ _ _ _ _ _ _ _ _ _ _ _ (Below.refl _ _)⟩
      · have hd1 : ((1 : Int) == d) = false := beq_eq_false_iff_ne.2 hd
        have HD := Lib.hid hd
        clear hd
        go_wp2_with fail
        go_roundg 1
        case measure => omega
        case rel => exact ⟨5, by omega, by omega, by go_num, HR.out.next _ _ _ _ _ _ _ (by have h2 := HD.out; simp only [rHit, rDir, rWh, rFit]; simp_all), HI.out.next _ _ _ _ _ _ _ _ _ _ _ _ _ _ _ _ _ _ _ _ _ (Below.refl _ _)⟩
    · have HB2 := Lib.hid hBel
      clear hBel
      go_wp2_with fail
      go_ret
      exact ⟨by rw [HR.out.out]; rfl, HB2⟩
end
end Go.Proofs.Ytnibdmbkefldfaa
