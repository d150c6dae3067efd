/- The contracts in one form: all that was there at the law's entry stands. awake. -/
import Derived.Test.YthdhodopmffdmaaZtE
namespace Go.Proofs.Ythdhodopmffdmaa
open Go.RowKit

structure ZS (w0 : World) (zb mb : Nat) (z : Zs) (m : Offs) (w : World) : Prop where
  at_ : ZAt w zb mb z m
  below : Below w0.heap.size w0 w
  zle : w0.heap.size ≤ zb
  mle : w0.heap.size ≤ mb
theorem ZS.kept {w0 w w' : World} {zb mb : Nat} {z z' : Zs} {m m' : Offs} (h : ZS w0 zb mb z m w) (ha : ZAt w' zb mb z' m') (hk : Kept [zb, mb] w w') : ZS w0 zb mb z' m' w' :=
  ⟨ha, h.below.trans (hk.below h.below.size (fun k hk => by simp at hk; rcases hk with rfl | rfl; exact h.zle; exact h.mle)), h.zle, h.mle⟩
theorem ZS.on {w0 w w' : World} {zb mb : Nat} {z : Zs} {m : Offs} (h : ZS w0 zb mb z m w) (hb : Below w.heap.size w w') : ZS w0 zb mb z m w' :=
  ⟨⟨blk_below' hb h.at_.1, h.at_.2.of_blk (hb.block _ h.at_.2.lt)⟩, h.below.trans ((Kept.of_below hb).below h.below.size (by simp)), h.zle, h.mle⟩
theorem ZS.alloc {w0 w : World} {zb mb : Nat} {z : Zs} {m : Offs} (h : ZS w0 zb mb z m w) (o : Obj) : ZS w0 zb mb z m (w.alloc o) := h.on ((Below.refl _ _).alloc (Nat.le_refl _) o)
theorem ZS.lt {w0 w : World} {zb mb : Nat} {z : Zs} {m : Offs} (h : ZS w0 zb mb z m w) : zb < w.heap.size := size_of h.at_.1

def tickC (now : Int) : Int := if momB now then 0 else 1
def tickS (z : Zs) (m : Offs) (now : Int) : Zs × Offs := if momB now then (tickZ z (bestM (liveM m now)) now, liveM m now) else (z, m)
theorem offer_zs {w0 w : World} {zb mb : Nat} {z : Zs} {m : Offs} (h : ZS w0 zb mb z m w) (link level now : Int) (none : Bool) :
    Calls Try.prog 12 #[.pointer (some ⟨zb, 0, Option.none⟩), .int .i64 link, .int .i64 level, .bool none, .int .i64 now] w fun e w' => e = .returned (.int .i64 (offM m link level none now).1) ∧ ZS w0 zb mb z (offM m link level none now).2 w' :=
  (offer_calls zb mb z m w link level now none h.at_).mono fun e w' hp => ⟨hp.1, h.kept hp.2.1 (hp.2.2.more (by simp))⟩
theorem tick_zs {w0 w : World} {zb mb : Nat} {z : Zs} {m : Offs} (h : ZS w0 zb mb z m w) (now : Int) :
    Calls Try.prog 14 #[.pointer (some ⟨zb, 0, none⟩), .int .i64 now] w fun e w' => e = .returned (.int .i64 (tickC now)) ∧ ZS w0 zb mb (tickS z m now).1 (tickS z m now).2 w' :=
  (tick_calls zb mb z m w now h.at_).mono fun e w' hp => by
    rcases hp with ⟨h1, h2, h3, h4⟩ | ⟨h1, h2, h3⟩
    · rw [tickC, tickS, if_pos h1, if_pos h1]; exact ⟨h2, h.kept h3 h4⟩
    · rw [tickC, tickS, if_neg (by rw [h1]; simp), if_neg (by rw [h1]; simp)]; exact ⟨h2, by rw [h3]; exact h⟩
theorem level_zs {w0 w : World} {zb mb : Nat} {z : Zs} {m : Offs} (h : ZS w0 zb mb z m w) :
    Calls Try.prog 16 #[.pointer (some ⟨zb, 0, none⟩)] w fun e w' => e = .returned (.int .i64 (levelI z)) ∧ ZS w0 zb mb z m w' :=
  (level_calls zb mb z w h.at_.1).mono fun e w' hp => ⟨hp.1, hp.2 ▸ h⟩
theorem best_zs {w0 w : World} {zb mb : Nat} {z : Zs} {m : Offs} (h : ZS w0 zb mb z m w) :
    Calls Try.prog 18 #[.pointer (some ⟨zb, 0, none⟩)] w fun e w' => e = .returned (.int .i64 (bestM m)) ∧ ZS w0 zb mb z m w' :=
  (best_calls zb mb z m w h.at_).mono fun e w' hp => ⟨hp.1, h.on hp.2⟩
theorem quiet_zs {w0 w : World} {zb mb : Nat} {z : Zs} {m : Offs} (h : ZS w0 zb mb z m w) (link : Int) :
    Calls Try.prog 20 #[.pointer (some ⟨zb, 0, none⟩), .int .i64 link] w fun e w' => e = .returned (.bool (quietB z m link)) ∧ ZS w0 zb mb z m w' :=
  (quiet_calls zb mb z m w link h.at_).mono fun e w' hp => ⟨hp.1, h.on hp.2⟩

def z0 : Zs := ⟨-1, false, false, 0, false, 0⟩
theorem zs_new {w0 w : World} (hb : Below w0.heap.size w0 w) (z : Zs) : ZS w0 (w.heap.size + 1) w.heap.size z [] ((w.alloc (.map #[] 0)).alloc (zBlk z w.heap.size)) :=
  ⟨⟨blk_new' _ _ _ (World.size_alloc _ _).symm, mapAt_made _ (blk_alloc (blk_new _ _) _)⟩, (hb.alloc hb.size _).alloc (Nat.le_trans hb.size (by rw [World.size_alloc]; omega)) _, Nat.le_succ_of_le hb.size, hb.size⟩
theorem new_zs (w0 w : World) (hb : Below w0.heap.size w0 w) : Calls Try.prog 10 #[.int .i64 (-1), .bool false, .bool false] w fun e w' => ∃ zb mb, e = .returned (.tuple #[.pointer (some ⟨zb, 0, none⟩), .int .i64 0]) ∧ ZS w0 zb mb z0 [] w' :=
  (new_calls (-1) false false w).mono fun e w' hp => by
    rcases hp with ⟨h1, h2, h3⟩ | ⟨h1, h2, h3⟩
    · exact ⟨_, _, h2, by rw [h3]; exact zs_new hb _⟩
    · cases h1

theorem levelI_own {z : Zs} (hf : z.fixed < 0) (hl : z.leaf = false) (ht : z.top = false) (h0 : 0 ≤ z.taken) (h1 : z.taken ≤ 1000) : levelI z = z.taken - 1 := by
  rw [levelI, if_neg (by omega), if_neg (by simp [ht]), if_neg (by simp [hl])]
  unfold RowKit.wrap64; omega
theorem lev0 : levelI z0 = -1 := levelI_own (by decide) rfl rfl (by decide) (by decide)
theorem lev1 : levelI (tickS z0 (offM [] 1 24 false 0).2 0).1 = 23 := levelI_own (by decide) rfl rfl (by decide) (by decide)
theorem qui1 : quietB (tickS z0 (offM [] 1 24 false 0).2 0).1 (tickS z0 (offM [] 1 24 false 0).2 0).2 1 = true := by rfl
theorem qui2 : quietB (tickS z0 (offM [] 1 24 false 0).2 0).1 (tickS z0 (offM [] 1 24 false 0).2 0).2 2 = false := by rfl

set_option maxRecDepth 100000 in
theorem awake_calls (w : World) : Calls Try.prog 9 #[] w fun e w' => e = .returned (.bool true) ∧ Below w.heap.size w w' := by
  have HW := Lib.hid (Below.refl w.heap.size w)
  go_enter Try.func9, Try.ntmps9
  go_wp2_with (first
    | (go_at_call 10; refine (new_zs w w HW.out).mono ?_; rintro e w1 ⟨zb, mb, rfl, h1⟩; have H1 := Lib.hid h1; clear h1)
    | (go_at_call 12; refine (offer_zs H1.out _ _ _ _).mono ?_; rintro e w2 ⟨rfl, h2⟩; have H2 := Lib.hid h2; clear h2)
    | (go_at_call 14; refine (tick_zs H3.out _).mono ?_; rintro e w4 ⟨rfl, h4⟩; have H4 := Lib.hid h4; clear h4)
    | (go_at_call 16; refine (level_zs H4.out).mono ?_; rintro e w5 ⟨rfl, h5⟩; have H5 := Lib.hid h5; clear h5; rw [lev1])
    | (go_at_call 16; refine (level_zs H2.out).mono ?_; rintro e w3 ⟨rfl, h3⟩; have H3 := Lib.hid h3; clear h3; rw [lev0])
    | (go_at_call 20; refine (quiet_zs H6.out _).mono ?_; rintro e w7 ⟨rfl, h7⟩; have H7 := Lib.hid h7; clear h7; rw [qui2])
    | (go_at_call 20; refine (quiet_zs H5.out _).mono ?_; rintro e w6 ⟨rfl, h6⟩; have H6 := Lib.hid h6; clear h6; rw [qui1]))
  go_ret
  exact ⟨rfl, H7.out.below⟩
end Go.Proofs.Ythdhodopmffdmaa
