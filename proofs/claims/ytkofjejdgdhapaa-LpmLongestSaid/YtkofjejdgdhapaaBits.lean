/- and, and-not with a mask of leading bits; the last bit. -/
import Derived.Test.YtkofjejdgdhapaaBase
import Derived.Laws.BitsLemmas
namespace Go.Proofs.Ytkofjejdgdhapaa
open Go.RowKit

theorem and_lead {j a : Nat} (hj : j ≤ 32) (ha : a < 2 ^ 32) : a &&& (2 ^ 32 - 2 ^ j) = a / 2 ^ j * 2 ^ j := by
  have hp : 0 < 2 ^ j := Nat.two_pow_pos j
  have hle : 2 ^ j ≤ 2 ^ 32 := Nat.pow_le_pow_right (by decide) hj
  have e : 2 ^ 32 - 2 ^ j = 2 ^ 32 - ((2 ^ j - 1) + 1) := by omega
  refine Nat.eq_of_testBit_eq fun i => ?_
  rw [Nat.testBit_and, e, Nat.testBit_two_pow_sub_succ (by omega), Nat.testBit_two_pow_sub_one, ← Nat.shiftRight_eq_div_pow, ← Nat.shiftLeft_eq, Nat.testBit_shiftLeft]
  by_cases hi : i < 32
  · by_cases hij : j ≤ i
    · have h1 : ¬ i < j := by omega
      simp [hi, hij, h1]
    · have h1 : i < j := by omega
      simp [h1]
      omega
  · have h1 : a.testBit i = false := Nat.testBit_lt_two_pow (Nat.lt_of_lt_of_le ha (Nat.pow_le_pow_right (by decide) (by omega)))
    by_cases hij : j ≤ i
    · simp [h1, hij]
    · simp [h1, hij]
def leadI (k : Nat) : Int := 4294967296 - 2 ^ (32 - k)
theorem leadI_nat {k : Nat} (hk : k ≤ 32) : leadI k = ((2 ^ 32 - 2 ^ (32 - k) : Nat) : Int) := by
  have hle : 2 ^ (32 - k) ≤ 2 ^ 32 := Nat.pow_le_pow_right (by decide) (by omega)
  unfold leadI
  rw [Int.ofNat_sub hle]
  simp
theorem u32_in (n : Int) (h : 0 ≤ n ∧ n ≤ 4294967295) : IntKind.u32.wrap n = n := by rw [IntKind.wrap_u32]; omega
theorem toNat_u32 {a : Nat} (ha : a < 2 ^ 32) : (BitVec.ofInt 32 (a : Int)).toNat = a := by
  rw [BitVec.ofInt_natCast, BitVec.toNat_ofNat, Nat.mod_eq_of_lt ha]
theorem bits_and_nat {a b : Nat} (ha : a < 2 ^ 32) (hb : b < 2 ^ 32) : bits .and .u32 a b = ((a &&& b : Nat) : Int) := by
  have e : bits .and .u32 (a : Int) (b : Int) = IntKind.u32.wrap ((BitVec.ofInt 32 (a : Int) &&& BitVec.ofInt 32 (b : Int)).toNat : Int) := rfl
  rw [e, BitVec.toNat_and, toNat_u32 ha, toNat_u32 hb]
  have : a &&& b ≤ a := Nat.and_le_left
  exact u32_in _ (by omega)
theorem bits_andNot_nat {a b : Nat} (ha : a < 2 ^ 32) (hb : b < 2 ^ 32) : bits .andNot .u32 a b = ((a &&& (2 ^ 32 - 1 - b) : Nat) : Int) := by
  have e : bits .andNot .u32 (a : Int) (b : Int) = IntKind.u32.wrap ((BitVec.ofInt 32 (a : Int) &&& ~~~ BitVec.ofInt 32 (b : Int)).toNat : Int) := rfl
  rw [e, BitVec.toNat_and, BitVec.toNat_not, toNat_u32 ha, toNat_u32 hb]
  have : a &&& (2 ^ 32 - 1 - b) ≤ a := Nat.and_le_left
  exact u32_in _ (by omega)
theorem bits_lead {k a : Nat} (hk : k ≤ 32) (ha : a < 2 ^ 32) : bits .and .u32 a (leadI k) = ((a / 2 ^ (32 - k) * 2 ^ (32 - k) : Nat) : Int) := by
  have hp : 0 < 2 ^ (32 - k) := Nat.two_pow_pos _
  rw [leadI_nat hk, bits_and_nat ha (by omega), and_lead (by omega) ha]
theorem bits_tail {k a : Nat} (hk : k ≤ 32) (ha : a < 2 ^ 32) : bits .andNot .u32 a (leadI k) = ((a % 2 ^ (32 - k) : Nat) : Int) := by
  have hp : 0 < 2 ^ (32 - k) := Nat.two_pow_pos _
  have hle : 2 ^ (32 - k) ≤ 2 ^ 32 := Nat.pow_le_pow_right (by decide) (by omega)
  rw [leadI_nat hk, bits_andNot_nat ha (by omega), show 2 ^ 32 - 1 - (2 ^ 32 - 2 ^ (32 - k)) = 2 ^ (32 - k) - 1 by omega, Nat.and_two_pow_sub_one_eq_mod]
theorem bits_one {a : Nat} (ha : a < 2 ^ 32) : bits .and .u32 a 1 = ((a % 2 : Nat) : Int) := by
  have := bits_and_nat ha (show 1 < 2 ^ 32 by decide)
  rw [Nat.and_one_is_mod] at this
  exact this
end Go.Proofs.Ytkofjejdgdhapaa
