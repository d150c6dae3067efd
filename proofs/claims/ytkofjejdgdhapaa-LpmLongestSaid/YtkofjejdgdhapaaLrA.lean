/- lpm: nets: the iterator. -/
import Derived.Test.YtkofjejdgdhapaaLqN
import Derived.Test.YtkofjejdgdhapaaRgLaw
namespace Go.Proofs.Ytkofjejdgdhapaa
open Go.RowKit Go.Shelf
attribute [local go_sem] Oper.semAt_some

/-- What is known under a node, rising. -/
def underN (l : Nets) : Nat → Nat → Nat → List (Nat × Nat)
  | 0, _, _ => []
  | f + 1, k, v => (if (getM l (keyK k v)).isSome then [(v * 2 ^ (32 - k), k)] else []) ++ underN l f (k + 1) (2 * v) ++ underN l f (k + 1) (2 * v + 1)
theorem under_none {w : World} {tb : Nat} {nd : Nd} {l : Nets} {room many : Int} (h : TreeAt w tb nd l room many) : ∀ (f k v : Nat), k + f = 33 → nd k v = none → underN l f k v = []
  | 0, _, _, _, _ => rfl
  | f + 1, k, v, hk, hn => by
    rw [underN, h.no_key (by omega) hn, under_none h f (k + 1) (2 * v) (by omega) (h.up _ _ (by rw [show 2 * v / 2 = v by omega]; exact hn)), under_none h f (k + 1) (2 * v + 1) (by omega) (h.up _ _ (by rw [show (2 * v + 1) / 2 = v by omega]; exact hn))]
    rfl
def encP (x : Nat × Nat) : Array Value := #[.agg #[.int .u32 x.1, .int .i64 x.2]]
theorem ptrV_form (a : Option Nat) : ∃ q, ptrV a = .pointer q := by
  cases a with
  | none => exact ⟨_, rfl⟩
  | some b => exact ⟨_, rfl⟩
theorem nets_calls (q : Option Addr) (p : Value × Value) (w : World) :
    Calls Try.prog 32 #[.pointer q, .agg #[p.1, p.2]] w fun e w' => e = .returned (.func (.func 40) #[] #[.pointer (some ⟨w.heap.size, 0, none⟩), .pointer (some ⟨w.heap.size + 1, 0, none⟩)]) ∧ w' = (w.alloc (.cells #[.pointer q] 56 (0, 0))).alloc (.cells #[p.1, p.2] 30 (0, 0)) := by
  go_enter Try.func32, Try.ntmps32
  go_wp2_with (fail)
  go_ret
  exact ⟨rfl, rfl⟩
theorem bits_or_nat {a b : Nat} (ha : a < 2 ^ 32) (hb : b < 2 ^ 32) : bits .or .u32 a b = ((a ||| b : Nat) : Int) := by
  have e : bits .or .u32 (a : Int) (b : Int) = IntKind.u32.wrap ((BitVec.ofInt 32 (a : Int) ||| BitVec.ofInt 32 (b : Int)).toNat : Int) := rfl
  rw [e, BitVec.toNat_or, toNat_u32 ha, toNat_u32 hb]
  have : a ||| b < 2 ^ 32 := Nat.or_lt_two_pow ha hb
  exact u32_in _ (by omega)
theorem or_bit {v k net : Nat} (hk : k < 32) (hv : v < 2 ^ k) (hn : v * 2 ^ (32 - k) = net) : bits .or .u32 net (2 ^ (31 - k) % 4294967296) = (((2 * v + 1) * 2 ^ (32 - (k + 1)) : Nat) : Int) := by
  have hp : 2 ^ (31 - k) < 2 ^ 32 := Nat.pow_lt_pow_right (by decide) (by omega)
  have hq : 2 ^ (31 - k) < 2 ^ (32 - k) := Nat.pow_lt_pow_right (by decide) (by omega)
  have e2 : ((2 : Int) ^ (31 - k) % 4294967296) = ((2 ^ (31 - k) : Nat) : Int) := by
    rw [show ((2 : Int) ^ (31 - k)) = ((2 ^ (31 - k) : Nat) : Int) by simp]
    generalize 2 ^ (31 - k) = M at hp ⊢
    omega
  have hlt : net < 2 ^ 32 := by
    rw [← hn]
    calc v * 2 ^ (32 - k) < 2 ^ k * 2 ^ (32 - k) := Nat.mul_lt_mul_of_pos_right hv (Nat.two_pow_pos _)
      _ = 2 ^ 32 := by rw [← Nat.pow_add, show k + (32 - k) = 32 by omega]
  rw [e2, bits_or_nat hlt hp, ← hn, ← Nat.shiftLeft_eq, ← Nat.shiftLeft_add_eq_or_of_lt hq, Nat.shiftLeft_eq]
  have e3 : 32 - k = (31 - k) + 1 := by omega
  have e4 : 32 - (k + 1) = 31 - k := by omega
  rw [e3, e4, Nat.pow_succ, Nat.add_mul, Nat.one_mul]
  have : v * (2 ^ (31 - k) * 2) = 2 * v * 2 ^ (31 - k) := by rw [Nat.mul_comm (2 ^ (31 - k)) 2, ← Nat.mul_assoc, Nat.mul_comm v 2]
  rw [this]
end Go.Proofs.Ytkofjejdgdhapaa
