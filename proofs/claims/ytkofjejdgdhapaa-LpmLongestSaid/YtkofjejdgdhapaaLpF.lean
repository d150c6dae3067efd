/- lpm: Put, whole; New. -/
import Derived.Test.YtkofjejdgdhapaaLpE
namespace Go.Proofs.Ytkofjejdgdhapaa
open Go.RowKit

theorem put_calls (tb : Nat) (nd : Nd) (l : Nets) (room : Int) (net : Nat) (b n : Int) (w : World) (h : TreeAt w tb nd l room l.length) (hn : net < 2 ^ 32) (hl : l.length ≤ 100000) :
    Calls Try.prog 13 #[.pointer (some ⟨tb, 0, none⟩), .agg #[.int .u32 net, .int .i64 b], .int .i64 n] w (putPost tb nd l room net b n w) := by
  cases hb : rightB net b
  case false => exact put_bad tb nd l room net b n w hn hb
  obtain ⟨hb0, hb1⟩ := rightB_lt hb
  obtain ⟨k, rfl⟩ := Int.eq_ofNat_of_zero_le hb0
  have hk : k ≤ 32 := by omega
  cases hx : nd k (headN net k) with
  | none => exact put_none tb nd l room net k n w h hn hl hk hb (by rw [hx]; rfl) (h.no_key hk hx)
  | some x =>
    cases hg : getM l (keyP net k) with
    | none => exact put_new tb nd l room net k n w h hn hl hk hb x hx (by rw [hx]; rfl) hg
    | some y => exact put_known tb nd l room net k n w h hn hl hk hb x y hx (by rw [hx]; rfl) hg
def nd0 (tb : Nat) : Nd := fun k v => if k = 0 ∧ v = 0 then some tb else none
def newTable (room : Int) : Obj := .cells #[.bool false, .int .i64 0, .pointer none, .pointer none, .int .i64 room, .int .i64 0] 61 (0, 0)
theorem tree_new (w : World) (room : Int) : TreeAt (w.alloc (newTable room)) w.heap.size (nd0 w.heap.size) [] room 0 := by
  refine ⟨if_pos ⟨rfl, rfl⟩, fun k v b h => ?_, fun k v k' v' b h h' => ?_, fun k v h => if_neg (by omega), fun k v b h hb => ?_, blk_new _ _, List.nodup_nil, fun p hp => by cases hp⟩
  · unfold nd0 at h
    split at h
    · rename_i e; obtain ⟨rfl, rfl⟩ := e; exact ⟨by decide, by decide⟩
    · cases h
  · unfold nd0 at h h'
    split at h
    · split at h'
      · omega
      · cases h'
    · cases h
  · unfold nd0 at h
    split at h
    · exact absurd (Option.some.inj h).symm hb
    · cases h
theorem new_calls (room : Int) (w : World) (h1 : 1 ≤ room) (h2 : room ≤ 4096) : Calls Try.prog 25 #[.int .i64 room] w fun e w' => e = .returned (.tuple #[.pointer (some ⟨w.heap.size, 0, none⟩), .int .i64 0]) ∧ w' = w.alloc (newTable room) := by
  have b1 : decide (room < 1) = false := decide_eq_false (by omega)
  have b2 : decide (4096 < room) = false := decide_eq_false (by omega)
  go_enter Try.func25, Try.ntmps25
  go_wp2
  go_ret2
  exact ⟨rfl, rfl⟩
theorem new_bad (room : Int) (w : World) (h : room < 1 ∨ 4096 < room) : Calls Try.prog 25 #[.int .i64 room] w fun e w' => e = .returned (.tuple #[.pointer none, .int .i64 1]) ∧ w' = w := by
  by_cases h1 : room < 1
  · have b1 : decide (room < 1) = true := decide_eq_true h1
    go_enter Try.func25, Try.ntmps25
    go_wp2
    go_ret2
    exact ⟨rfl, rfl⟩
  · have b1 : decide (room < 1) = false := decide_eq_false h1
    have b2 : decide (4096 < room) = true := decide_eq_true (by omega)
    go_enter Try.func25, Try.ntmps25
    go_wp2
    go_ret2
    exact ⟨rfl, rfl⟩
end Go.Proofs.Ytkofjejdgdhapaa
