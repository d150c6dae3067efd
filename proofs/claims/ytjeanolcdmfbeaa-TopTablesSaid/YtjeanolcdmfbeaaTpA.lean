/- TopTables: the paths; the plain law. -/
import Derived.Test.YtjeanolcdmfbeaaLpG
namespace Go.Proofs.Ytjeanolcdmfbeaa
open Go.RowKit

structure Pth where
  net : Nat
  bits : Int
  dir : Int
  dist : Int
  via : Sl Int
def Pth.cells (p : Pth) : List Value := [.int .u32 p.net, .int .i64 p.bits, .int .i64 p.dir, .int .i64 p.dist, .slice p.via.a p.via.l.length p.via.cap]
def rPfx : Rd (Int × Int) := (Rd.int .u32).pair (Rd.int .i64)
def rPth : Rd Pth := (rPfx.pair ((Rd.int .i64).pair ((Rd.int .i64).pair (Rd.slice (Rd.int .i64))))).iso fun x => ⟨x.1.1.toNat, x.1.2, x.2.1, x.2.2.1, x.2.2.2⟩
theorem wf_u32 {x : Int} (h : (Lit.int .u32 x).wf = true) : 0 ≤ x ∧ x < 4294967296 := by
  simp [Lit.wf, IntKind.min, IntKind.max, IntKind.signed, IntKind.bits] at h
  omega
theorem rPth_out {w : World} {cs : List Value} {p : Pth} (h : rPth.R w cs p) : cs = p.cells ∧ p.net < 2 ^ 32 ∧ (Rd.slice (Rd.int .i64)).R w [.slice p.via.a p.via.l.length p.via.cap] p.via := by
  obtain ⟨x, ⟨_, _, rfl, ⟨_, _, rfl, ⟨rfl, hw⟩, ⟨rfl, _⟩⟩, ⟨_, _, rfl, ⟨rfl, _⟩, ⟨_, _, rfl, ⟨rfl, _⟩, hs⟩⟩⟩, rfl⟩ := h
  have hx := wf_u32 hw
  have hv := hs.1
  subst hv
  refine ⟨?_, ?_, hs⟩
  · have e : ((x.1.1.toNat : Nat) : Int) = x.1.1 := Int.toNat_of_nonneg hx.1
    simp [Pth.cells, e]
  · show x.1.1.toNat < 2 ^ 32
    omega
theorem opens_i64 : Opens Try.prog 3 (Rd.int .i64) := opens_int Try.underlying3
theorem opens_pth : Opens Try.prog 32 rPth := opens_iso (opens_struct Try.underlying32 (by kernel_rfl) (.cons rfl (by kernel_rfl) (opens_struct Try.underlying29 (by kernel_rfl) (.cons rfl (by kernel_rfl) (opens_int Try.underlying23) (.one rfl (by kernel_rfl) opens_i64))) (.cons rfl (by kernel_rfl) opens_i64 (.cons rfl (by kernel_rfl) opens_i64 (.one rfl (by kernel_rfl) (opens_slice Try.underlying30 (by kernel_rfl) (by decide) opens_i64)))))) _
theorem opens_pths : Opens Try.prog 22 (Rd.slice rPth) := opens_slice Try.underlying22 (by kernel_rfl) (by decide) opens_pth

/-- What the table knows once the first i paths are put. -/
def putsTo (ps : List Pth) : Nat → Nets
  | 0 => []
  | i + 1 => match ps[i]? with
    | some p => if rightB p.net p.bits then putM (putsTo ps i) (keyP p.net p.bits) i else putsTo ps i
    | none => putsTo ps i
theorem puts_right {ps : List Pth} {i : Nat} {p : Pth} (h : ps[i]? = some p) (hr : rightB p.net p.bits = true) : putsTo ps (i + 1) = putM (putsTo ps i) (keyP p.net p.bits) i := by simp [putsTo, h, hr]
theorem puts_wrong {ps : List Pth} {i : Nat} {p : Pth} (h : ps[i]? = some p) (hr : rightB p.net p.bits = false) : putsTo ps (i + 1) = putsTo ps i := by simp [putsTo, h, hr]
theorem puts_len (ps : List Pth) : ∀ i, (putsTo ps i).length ≤ i
  | 0 => Nat.le_refl _
  | i + 1 => by
    have ih := puts_len ps i
    unfold putsTo
    split
    · split
      · rw [put_len]; split <;> omega
      · omega
    · omega
/-- What is known is a path's place. -/
theorem puts_get (ps : List Pth) : ∀ (i : Nat) (k n : Int), getM (putsTo ps i) k = some n → ∃ (j : Nat) (p : Pth), j < i ∧ n = j ∧ ps[j]? = some p ∧ rightB p.net p.bits = true ∧ keyP p.net p.bits = k
  | 0, k, n, h => by simp [putsTo, getM] at h
  | i + 1, k, n, h => by
    cases hp : ps[i]? with
    | none =>
      have e : putsTo ps (i + 1) = putsTo ps i := by simp [putsTo, hp]
      rw [e] at h
      obtain ⟨j, p, h1, h2⟩ := puts_get ps i k n h
      exact ⟨j, p, by omega, h2⟩
    | some p =>
      cases hr : rightB p.net p.bits
      · rw [puts_wrong hp hr] at h
        obtain ⟨j, q, h1, h2⟩ := puts_get ps i k n h
        exact ⟨j, q, by omega, h2⟩
      · rw [puts_right hp hr] at h
        by_cases hk : k = keyP p.net p.bits
        · subst hk
          rw [getM_put_self] at h
          exact ⟨i, p, Nat.lt_succ_self _, (Option.some.inj h).symm, hp, hr, rfl⟩
        · rw [getM_put_other hk] at h
          obtain ⟨j, q, h1, h2⟩ := puts_get ps i k n h
          exact ⟨j, q, by omega, h2⟩
theorem bestTo_is {l : Nets} {a : Nat} : ∀ {i : Nat} {k : Nat} {n : Int}, bestTo l a i = some (k, n) → k < i ∧ getM l (keyK k (headN a k)) = some n
  | 0, k, n, h => by simp [bestTo] at h
  | i + 1, k, n, h => by
    cases hg : getM l (keyK i (headN a i)) with
    | none =>
      rw [bestTo_none hg] at h
      have := bestTo_is h
      exact ⟨by omega, this.2⟩
    | some m =>
      rw [bestTo_some hg] at h
      obtain ⟨rfl, rfl⟩ := Prod.mk.inj (Option.some.inj h)
      exact ⟨Nat.lt_succ_self _, hg⟩
/-- The net that is found is that of the path. -/
theorem found_is {ps : List Pth} {a m k : Nat} {n : Int} (h : bestTo (putsTo ps m) a 33 = some (k, n)) : ∃ (j : Nat) (p : Pth), j < m ∧ n = j ∧ ps[j]? = some p ∧ p.net = cutN a k ∧ p.bits = k := by
  obtain ⟨hk, hg⟩ := bestTo_is h
  obtain ⟨j, p, h1, h2, h3, h4, h5⟩ := puts_get _ _ _ _ hg
  refine ⟨j, p, h1, h2, h3, ?_⟩
  obtain ⟨b0, b1⟩ := rightB_lt h4
  obtain ⟨b, hb⟩ := Int.eq_ofNat_of_zero_le b0
  simp only [rightB, Bool.and_eq_true, decide_eq_true_eq] at h4
  have h6 := h4.2.2
  unfold keyP at h5
  rw [hb] at h5 h6 b1
  rw [Int.toNat_natCast] at h5 h6
  obtain ⟨rfl, h8⟩ := keyK_inj (by omega) (by omega) h5
  refine ⟨?_, hb⟩
  unfold headN at h8
  unfold cutN
  rw [← h8]
  have := Nat.div_add_mod p.net (2 ^ (32 - b))
  rw [h6, Nat.add_zero, Nat.mul_comm] at this
  exact this.symm
end Go.Proofs.Ytjeanolcdmfbeaa
