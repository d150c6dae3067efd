/- What the functions of package flood do that Goes is made of: each rule, and the rules' list. -/
import Derived.Test.YtnibdmbkefldfaaProg
import Derived.Test.YtnibdmbkefldfaaBase
namespace Go.Proofs.Ytnibdmbkefldfaa
open Go.RowKit

theorem isNaN_any (n : Int) (w : World) : Calls Try.prog 16 #[.int .i64 n] w fun e w' => e = .returned (.bool false) ∧ w = w' := by
  go_enter Try.func16, Try.ntmps16
  go_wp2
  go_ret
  exact ⟨by simp, rfl⟩

def cmpI (a b : Int) : Int := if a < b then -1 else if b < a then 1 else 0

theorem cmp_any (a b : Int) (w : World) : Calls Try.prog 13 #[.int .i64 a, .int .i64 b] w fun e w' => e = .returned (.int .i64 (cmpI a b)) ∧ w = w' := by
  go_enter Try.func13, Try.ntmps13
  go_wp2_with (go_at_call 16; refine (isNaN_any _ _).mono ?_; rintro e w' ⟨rfl, rfl⟩)
  all_goals go_ret
  all_goals (refine ⟨?_, rfl⟩; unfold cmpI)
  · rw [if_pos (by assumption)]; rfl
  · rw [if_neg (by omega), if_pos (by assumption)]; rfl
  · rw [if_neg (by omega), if_neg (by omega)]; rfl

section
variable (d o k nr seq life lv : Int) (ov : Bool) (ea : Option Addr) (el ec : Nat) (ra : Option Addr) (rl rc : Nat) (self slv : Int) (top : Bool) (on ol olv onc : Int) (w : World)
theorem node_any : Calls Try.prog 17 #[.agg #[.int .i64 d, .int .i64 o, .int .i64 k, .int .i64 nr, .int .i64 seq, .int .i64 life, .int .i64 lv, .bool ov, .slice ea el ec, .slice ra rl rc]] w
    fun e w' => e = .returned (.bool (k == 1)) ∧ Below w.heap.size w w' := by
  go_enter Try.func17, Try.ntmps17
  go_wp2
  go_ret
  exact ⟨rfl, (Below.refl _ _).alloc (Nat.le_refl _) _⟩
theorem r2_any : Calls Try.prog 18 #[.agg #[.int .i64 d, .int .i64 o, .int .i64 k, .int .i64 nr, .int .i64 seq, .int .i64 life, .int .i64 lv, .bool ov, .slice ea el ec, .slice ra rl rc], .agg #[.int .i64 self, .int .i64 slv, .bool top, .int .i64 on, .int .i64 ol, .int .i64 olv, .int .i64 onc]] w
    fun e w' => e = .returned (.bool true) ∧ Below w.heap.size w w' := by
  go_enter Try.func18, Try.ntmps18
  go_wp2
  go_ret
  exact ⟨rfl, ((Below.refl _ _).alloc (Nat.le_refl _) _).alloc (by simp) _⟩
theorem r3_any : Calls Try.prog 19 #[.agg #[.int .i64 d, .int .i64 o, .int .i64 k, .int .i64 nr, .int .i64 seq, .int .i64 life, .int .i64 lv, .bool ov, .slice ea el ec, .slice ra rl rc], .agg #[.int .i64 self, .int .i64 slv, .bool top, .int .i64 on, .int .i64 ol, .int .i64 olv, .int .i64 onc]] w
    fun e w' => e = .returned (.bool top) ∧ Below w.heap.size w w' := by
  go_enter Try.func19, Try.ntmps19
  go_wp2
  go_ret
  exact ⟨rfl, ((Below.refl _ _).alloc (Nat.le_refl _) _).alloc (by simp) _⟩
theorem own_any : Calls Try.prog 20 #[.agg #[.int .i64 d, .int .i64 o, .int .i64 k, .int .i64 nr, .int .i64 seq, .int .i64 life, .int .i64 lv, .bool ov, .slice ea el ec, .slice ra rl rc], .agg #[.int .i64 self, .int .i64 slv, .bool top, .int .i64 on, .int .i64 ol, .int .i64 olv, .int .i64 onc]] w
    fun e w' => e = .returned (.bool (o == self)) ∧ Below w.heap.size w w' := by
  go_enter Try.func20, Try.ntmps20
  go_wp2
  go_ret
  exact ⟨rfl, ((Below.refl _ _).alloc (Nat.le_refl _) _).alloc (by simp) _⟩
theorem r4_any (b : Nat) (hb : w.cell? ⟨b, 0, none⟩ = some (.func (.func 17) #[] #[])) (hbs : b < w.heap.size) : Calls Try.prog 21 #[.agg #[.int .i64 d, .int .i64 o, .int .i64 k, .int .i64 nr, .int .i64 seq, .int .i64 life, .int .i64 lv, .bool ov, .slice ea el ec, .slice ra rl rc], .agg #[.int .i64 self, .int .i64 slv, .bool top, .int .i64 on, .int .i64 ol, .int .i64 olv, .int .i64 onc], .pointer (some ⟨b, 0, none⟩)] w
    fun e w' => e = .returned (.bool ((k == 1) && (o == self))) ∧ Below w.heap.size w w' := by
  go_enter Try.func21, Try.ntmps21
  go_wp2_with fail
  refine (node_any _ _ _ _ _ _ _ _ _ _ _ _ _ _ _).mono ?_
  rintro e w1 ⟨rfl, hb1⟩
  obtain ⟨hc1, hf1⟩ := bcell hb1
  have hz := hb1.size
  simp only [World.size_alloc] at hz
  by_cases hk : k = 1
  · subst hk
    go_wp2_with fail
    refine (own_any _ _ _ _ _ _ _ _ _ _ _ _ _ _ _ _ _ _ _ _ _ _).mono ?_
    rintro e w2 ⟨rfl, hb2⟩
    go_wp2
    go_ret
    refine ⟨rfl, ?_⟩
    exact ((((Below.refl _ _).alloc (Nat.le_refl _) _).alloc (by simp) _).trans (hb1.mono (by simp; omega))).trans (hb2.mono (by omega))
  · have hkb : (k == 1) = false := by simpa using hk
    go_wp2
    go_ret
    refine ⟨by simp [hk], ?_⟩
    exact (((Below.refl _ _).alloc (Nat.le_refl _) _).alloc (by simp) _).trans (hb1.mono (by simp; omega))
theorem r5_any (b : Nat) (hb : w.cell? ⟨b, 0, none⟩ = some (.func (.func 17) #[] #[])) (hbs : b < w.heap.size) : Calls Try.prog 22 #[.agg #[.int .i64 d, .int .i64 o, .int .i64 k, .int .i64 nr, .int .i64 seq, .int .i64 life, .int .i64 lv, .bool ov, .slice ea el ec, .slice ra rl rc], .agg #[.int .i64 self, .int .i64 slv, .bool top, .int .i64 on, .int .i64 ol, .int .i64 olv, .int .i64 onc], .pointer (some ⟨b, 0, none⟩)] w
    fun e w' => e = .returned (.bool ((k == 1) && (lv == olv && o != on))) ∧ Below w.heap.size w w' := by
  go_enter Try.func22, Try.ntmps22
  go_wp2_with fail
  refine (node_any _ _ _ _ _ _ _ _ _ _ _ _ _ _ _).mono ?_
  rintro e w1 ⟨rfl, hb1⟩
  obtain ⟨hc1, hf1⟩ := bcell hb1
  have hz := hb1.size
  simp only [World.size_alloc] at hz
  have hfin : Below w.heap.size w w1 := (((Below.refl _ _).alloc (Nat.le_refl _) _).alloc (by simp) _).trans (hb1.mono (by simp; omega))
  by_cases hk : k = 1
  · subst hk
    by_cases hl : lv = olv
    · subst hl
      go_wp2
      go_ret
      exact ⟨by simp, hfin⟩
    · have hlb : (lv == olv) = false := by simpa using hl
      go_wp2
      go_ret
      exact ⟨by simp [hl], hfin⟩
  · have hkb : (k == 1) = false := by simpa using hk
    go_wp2
    go_ret
    exact ⟨by simp [hk], hfin⟩
end

/-- The rules' block. -/
def rulesBlk (b : Nat) : Obj := .cells #[.int .i64 2, .int .i64 1, .func (.func 18) #[] #[], .int .i64 2, .int .i64 0, .func (.func 19) #[] #[], .int .i64 1, .int .i64 (-1), .func (.func 20) #[] #[],
  .int .i64 1, .int .i64 0, .func (.func 21) #[] #[.pointer (some ⟨b, 0, none⟩)], .int .i64 1, .int .i64 1, .func (.func 22) #[] #[.pointer (some ⟨b, 0, none⟩)]] 47 (0, 0)

theorem rules_any (w : World) : Calls Try.prog 14 #[] w
    fun e w' => e = .returned (.slice (some ⟨w.heap.size + 1, 0, none⟩) 5 5) ∧ w' = (w.alloc (.cells #[.func (.func 17) #[] #[]] 50 (0, 0))).alloc (rulesBlk w.heap.size) := by
  go_enter Try.func14, Try.ntmps14
  go_wp2
  go_ret
  exact ⟨rfl, rfl⟩
end Go.Proofs.Ytnibdmbkefldfaa
