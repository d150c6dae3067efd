/- lpm: nets: the closure's contract: where there is no node. -/
import Derived.Test.YtkofjejdgdhapaaLrA
namespace Go.Proofs.Ytkofjejdgdhapaa
open Go.RowKit Go.Shelf
attribute [local go_sem] Oper.semAt_some

abbrev Pf := Nat × Nat
/-- A block of cells that is neither the box nor its row. -/
def Own1 (Bo : Nat) (W : World) (b : Nat) (cs : List Value) (t : TypeId) : Prop := W.heap[b]? = some (.cells cs.toArray t (0, 0)) ∧ NMine Bo W b
theorem Own1.kp {Bo : Nat} {W W' : World} {b : Nat} {cs : List Value} {t : TypeId} (h : Own1 Bo W b cs t) (hk : KpO Bo W W') : Own1 Bo W' b cs t := hk.same _ _ h.1 h.2
theorem Own1.new {Bo : Nat} {W : World} (ho : OutOk Bo W) (cs : List Value) (t : TypeId) : Own1 Bo (W.alloc (.cells cs.toArray t (0, 0))) W.heap.size cs t := ⟨blk_new _ _, nm_new ho _⟩
def YieldTo (Bo lr N : Nat) (J : List Pf → World → Prop) : Prop := ∀ m pre x W, J pre W → pre.length < N → YieldAt Fence.wide m Try.prog lr (encP x) W fun e W' => e = .returned (.bool true) ∧ J (pre ++ [x]) W' ∧ KpO Bo W W'
def ItPost (Bo : Nat) (J : List Pf → World → Prop) (xs : List Pf) (W : World) (e : Ending) (W' : World) : Prop := (∃ v, e = .returned v) ∧ J xs W' ∧ KpO Bo W W'

set_option maxRecDepth 100000 in
set_option maxHeartbeats 1000000 in
theorem it_nil (m lr Bo Bx Bp : Nat) (p : Value × Value) (J : List Pf → World → Prop) (pre : List Pf) (W : World) (hO : OutOk Bo W) (hJo : OwnN Bo W.heap.size J) (hJ : J pre W)
    (hx : Own1 Bo W Bx [.pointer none] 56) (hp : Own1 Bo W Bp [p.1, p.2] 30) :
    CallsIn Fence.wide m Try.prog 40 #[.func (.yield lr) #[] #[], .pointer (some ⟨Bx, 0, none⟩), .pointer (some ⟨Bp, 0, none⟩)] W (ItPost Bo J pre W) := by
  obtain ⟨k1, -⟩ := cells_all hx.1
  have z1 := size_of hx.1
  have HO := Lib.hid hO
  have HK := Lib.hid ((KpO.refl Bo W).alloc hO (.cells #[.func (.yield lr) #[] #[]] 38 (0, 0)))
  have HJ := Lib.hid (hJo.alloc (.cells #[.func (.yield lr) #[] #[]] 38 (0, 0)) hJ)
  clear hO hJo hJ hx hp
  refine callsIn_wide.2 ?_
  go_enter Try.func40, Try.ntmps40
  go_wp2_with (fail)
  refine bodyPost_ret (results_none rfl _ _ _) rfl ?_
  exact ⟨⟨_, rfl⟩, HJ.out, HK.out⟩
theorem ix0 (q0 q1 : Option Addr) (w : World) : (Instr.index 57 (.agg #[.pointer q0, .pointer q1]) (.int .i64 0)).run Try.prog w = .ok (.pointer q0) w := by kernel_rfl
theorem ix1 (q0 q1 : Option Addr) (w : World) : (Instr.index 57 (.agg #[.pointer q0, .pointer q1]) (.int .i64 1)).run Try.prog w = .ok (.pointer q1) w := by kernel_rfl
end Go.Proofs.Ytkofjejdgdhapaa
