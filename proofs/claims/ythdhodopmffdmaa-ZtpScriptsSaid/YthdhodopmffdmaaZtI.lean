/- A step of a script; the contracts beside a step's copy. -/
import Derived.Test.YthdhodopmffdmaaZtG
namespace Go.Proofs.Ythdhodopmffdmaa
open Go.RowKit

structure Stp where
  do_ : Int
  link : Int
  level : Int
  now : Int
  none_ : Bool
def Stp.cells (s : Stp) : List Value := [.int .i64 s.do_, .int .i64 s.link, .int .i64 s.level, .int .i64 s.now, .bool s.none_]
def stpBlk (s : Stp) : Obj := .cells #[.int .i64 s.do_, .int .i64 s.link, .int .i64 s.level, .int .i64 s.now, .bool s.none_] 33 (0, 0)
def rStp : Rd Stp := ((Rd.int .i64).pair ((Rd.int .i64).pair ((Rd.int .i64).pair ((Rd.int .i64).pair Rd.bool)))).iso fun x => ⟨x.1, x.2.1, x.2.2.1, x.2.2.2.1, x.2.2.2.2⟩
theorem rStp_out {w : World} {cs : List Value} {s : Stp} (h : rStp.R w cs s) : cs = s.cells := by
  obtain ⟨x, ⟨_, _, rfl, ⟨rfl, _⟩, ⟨_, _, rfl, ⟨rfl, _⟩, ⟨_, _, rfl, ⟨rfl, _⟩, ⟨_, _, rfl, ⟨rfl, _⟩, rfl⟩⟩⟩⟩, rfl⟩ := h
  rfl
theorem opens_i64 : Opens Try.prog 3 (Rd.int .i64) := opens_int Try.underlying3
theorem opens_stp : Opens Try.prog 33 rStp := opens_iso (opens_struct Try.underlying33 (by kernel_rfl) (.cons rfl (by kernel_rfl) opens_i64 (.cons rfl (by kernel_rfl) opens_i64 (.cons rfl (by kernel_rfl) opens_i64 (.cons rfl (by kernel_rfl) opens_i64 (.one rfl (by kernel_rfl) (opens_bool Try.underlying4))))))) _
theorem opens_stps : Opens Try.prog 23 (Rd.slice rStp) := opens_slice Try.underlying23 (by kernel_rfl) (by decide) opens_stp

/-- The node beside the copy of a step. -/
structure ZT (w0 : World) (zb mb : Nat) (z : Zs) (m : Offs) (sb : Nat) (s : Stp) (w : World) : Prop where
  zs : ZS w0 zb mb z m w
  blk : w.heap[sb]? = some (stpBlk s)
  nz : sb ≠ zb
  nm : sb ≠ mb
theorem ZT.kept {w0 w w' : World} {zb mb sb : Nat} {s : Stp} {z z' : Zs} {m m' : Offs} (h : ZT w0 zb mb z m sb s w) (ha : ZAt w' zb mb z' m') (hk : Kept [zb, mb] w w') : ZT w0 zb mb z' m' sb s w' :=
  ⟨h.zs.kept ha hk, hk.blk h.blk (by simp [h.nz, h.nm]), h.nz, h.nm⟩
theorem ZT.on {w0 w w' : World} {zb mb sb : Nat} {s : Stp} {z : Zs} {m : Offs} (h : ZT w0 zb mb z m sb s w) (hb : Below w.heap.size w w') : ZT w0 zb mb z m sb s w' :=
  ⟨h.zs.on hb, blk_below' hb h.blk, h.nz, h.nm⟩
theorem ZT.new {w0 w : World} {zb mb : Nat} {z : Zs} {m : Offs} (h : ZS w0 zb mb z m w) (s : Stp) : ZT w0 zb mb z m w.heap.size s (w.alloc (stpBlk s)) :=
  ⟨h.alloc _, blk_new _ _, fun e => by have := h.lt; omega, fun e => by have := h.at_.2.lt; omega⟩
theorem offer_zt {w0 w : World} {zb mb sb : Nat} {s : Stp} {z : Zs} {m : Offs} (h : ZT w0 zb mb z m sb s w) (link level now : Int) (none : Bool) :
    Calls Try.prog 12 #[.pointer (some ⟨zb, 0, Option.none⟩), .int .i64 link, .int .i64 level, .bool none, .int .i64 now] w fun e w' => e = .returned (.int .i64 (offM m link level none now).1) ∧ ZT w0 zb mb z (offM m link level none now).2 sb s w' :=
  (offer_calls zb mb z m w link level now none h.zs.at_).mono fun _ _ hp => ⟨hp.1, h.kept hp.2.1 (hp.2.2.more (by simp))⟩
theorem tick_zt {w0 w : World} {zb mb sb : Nat} {s : Stp} {z : Zs} {m : Offs} (h : ZT w0 zb mb z m sb s w) (now : Int) :
    Calls Try.prog 14 #[.pointer (some ⟨zb, 0, none⟩), .int .i64 now] w fun e w' => e = .returned (.int .i64 (tickC now)) ∧ ZT w0 zb mb (tickS z m now).1 (tickS z m now).2 sb s w' :=
  (tick_calls zb mb z m w now h.zs.at_).mono fun e w' hp => by
    rcases hp with ⟨h1, h2, h3, h4⟩ | ⟨h1, h2, h3⟩
    · rw [tickC, tickS, if_pos h1, if_pos h1]; exact ⟨h2, h.kept h3 h4⟩
    · rw [tickC, tickS, if_neg (by rw [h1]; simp), if_neg (by rw [h1]; simp)]; exact ⟨h2, by rw [h3]; exact h⟩
theorem level_zt {w0 w : World} {zb mb sb : Nat} {s : Stp} {z : Zs} {m : Offs} (h : ZT w0 zb mb z m sb s w) :
    Calls Try.prog 16 #[.pointer (some ⟨zb, 0, none⟩)] w fun e w' => e = .returned (.int .i64 (levelI z)) ∧ ZT w0 zb mb z m sb s w' :=
  (level_calls zb mb z w h.zs.at_.1).mono fun _ _ hp => ⟨hp.1, hp.2 ▸ h⟩
theorem best_zt {w0 w : World} {zb mb sb : Nat} {s : Stp} {z : Zs} {m : Offs} (h : ZT w0 zb mb z m sb s w) :
    Calls Try.prog 18 #[.pointer (some ⟨zb, 0, none⟩)] w fun e w' => e = .returned (.int .i64 (bestM m)) ∧ ZT w0 zb mb z m sb s w' :=
  (best_calls zb mb z m w h.zs.at_).mono fun _ _ hp => ⟨hp.1, h.on hp.2⟩
theorem quiet_zt {w0 w : World} {zb mb sb : Nat} {s : Stp} {z : Zs} {m : Offs} (h : ZT w0 zb mb z m sb s w) (link : Int) :
    Calls Try.prog 20 #[.pointer (some ⟨zb, 0, none⟩), .int .i64 link] w fun e w' => e = .returned (.bool (quietB z m link)) ∧ ZT w0 zb mb z m sb s w' :=
  (quiet_calls zb mb z m w link h.zs.at_).mono fun _ _ hp => ⟨hp.1, h.on hp.2⟩
theorem ZT.cells {w0 w : World} {zb mb sb : Nat} {s : Stp} {z : Zs} {m : Offs} (h : ZT w0 zb mb z m sb s w) :
    (w.cell? ⟨sb, 0, none⟩ = some (.int .i64 s.do_) ∧ w.cell? ⟨sb, 1, none⟩ = some (.int .i64 s.link) ∧ w.cell? ⟨sb, 2, none⟩ = some (.int .i64 s.level) ∧ w.cell? ⟨sb, 3, none⟩ = some (.int .i64 s.now) ∧ w.cell? ⟨sb, 4, none⟩ = some (.bool s.none_)) ∧ sb < w.heap.size := by
  have k1 := cells_all h.blk
  simp only [CellsAt, Nat.reduceAdd, and_true] at k1
  exact ⟨k1, size_of h.blk⟩
end Go.Proofs.Ythdhodopmffdmaa
