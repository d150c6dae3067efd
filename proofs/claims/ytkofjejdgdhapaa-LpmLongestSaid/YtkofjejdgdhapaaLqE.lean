/- The reference's Put: a new one: three forms of the row. -/
import Derived.Test.YtkofjejdgdhapaaLqD
namespace Go.Proofs.Ytkofjejdgdhapaa
open Go.RowKit

set_option maxRecDepth 100000 in
set_option maxHeartbeats 2000000 in
theorem rput_mid (B rb : Nat) (room : Int) (L : List Kn) (g c i : Nat) (net : Nat) (b n : Int) (w : World) (h : RefAt w B rb room (.slice (some ⟨g, 0, none⟩) L.length c) L) (hn : net < 2 ^ 32) (hb : rightB net b = true) (hp : (placeL L (net, b)).2 = false) (hf : (L.length : Int) < room) (hi : (placeL L (net, b)).1 = i) (hl : L.length ≤ 100000) (hlc : L.length ≤ c) (hci : ¬ c = i) :
    Calls Try.prog 27 #[.pointer (some ⟨rb, 0, none⟩), .agg #[.int .u32 net, .int .i64 b], .int .i64 n] w (rputPost B rb room (.slice (some ⟨g, 0, none⟩) L.length c) L net b n w) := by
  have HT := Lib.hid h
  have HN := Lib.hid hn
  have HB := Lib.hid hb
  have HF := Lib.hid hf
  have HP := Lib.hid (And.intro hp hi)
  have hil : i ≤ L.length := by have := placeL_le (q := (net, b)) L; omega
  have bf : decide (room ≤ (L.length : Int)) = false := decide_eq_false (by omega)
  have hic : i ≤ c := by omega
  have hx0 := Lib.hid (show i + 1 + (L.length - i) = (putK L ⟨net, b, n⟩).length by rw [putK, Kn.key, hp, hi]; simp; try omega)
  have hx1 := Lib.hid (show flatK (L.take i) ++ (Kn.cells ⟨net, b, n⟩ ++ flatK (L.drop i)) = flatK (putK L ⟨net, b, n⟩) by rw [putK, Kn.key, hp, hi]; simp [flatK])
  obtain ⟨i0, hi0, hz0, hz1, hz2⟩ := info_parts infoKn
  have HW := Lib.hid (show Below w.heap.size w (w.alloc (.cells #[.int .u32 net, .int .i64 b] 30 (0, 0))) ∧ (w.alloc (.cells #[.int .u32 net, .int .i64 b] 30 (0, 0))).heap[w.heap.size]? = some (.cells #[.int .u32 net, .int .i64 b] 30 (0, 0)) from ⟨(Below.refl _ _).alloc (Nat.le_refl _) _, blk_new _ _⟩)
  clear h hn hb hp hf hi
  go_enter Try.func27, Try.ntmps27
  go_wp2_with (first
    | (go_at_call 38; refine (rright_calls net b _ HN.out).mono ?_; rintro e w1 ⟨rfl, hb0⟩; rw [HB.out]; have HV := Lib.hid (And.intro (HW.out.1.trans (hb0.mono HW.out.1.size)) (blk_below' hb0 HW.out.2)); have k1 := cells_all (l := [_, _]) HV.out.2; have z1 := size_of HV.out.2; simp only [CellsAt, Nat.reduceAdd, and_true] at k1; obtain ⟨p0, p1⟩ := k1; clear hb0)
    | (go_at_call 34; refine (place_calls B rb room _ L net b _ (HT.out.on HV.out.1) (by first | omega | exact Nat.zero_le _)).mono ?_; rintro e w2 ⟨rfl, hb0⟩; rw [HP.out.1, HP.out.2]; have HU := Lib.hid (And.intro (HV.out.1.trans (hb0.mono HV.out.1.size)) (blk_below' hb0 HV.out.2)); have HTU := Lib.hid (HT.out.on HU.out.1); obtain ⟨t0, t1, tl, t6⟩ := HTU.out.cells; have hsz := HU.out.1.size; clear hb0 HV z1 p0 p1))
  go_quiet (fail)
  have HT3 := Lib.hid (HTU.out.on (below_drewN (Below.refl _ w2) nq))
  have HU3 := Lib.hid (And.intro (below_drewN HU.out.1 nq) (show (w2.drewN nq).heap[w.heap.size]? = some (.cells #[.int .u32 net, .int .i64 b] 30 (0, 0)) from HU.out.2))
  clear t0 t1 tl t6 hsz HU HTU
  generalize w2.drewN nq = w3 at HT3 HU3 ⊢
  have HA3 := Lib.hid (HT3.out.alloc (.cells #[] 66))
  have HS1 := Lib.hid (src_take HA3.out.own hil)
  have HB3 := Lib.hid (blk_alloc HU3.out.2 (.cells #[] 66))
  obtain ⟨t0, t1, tl, t6⟩ := HA3.out.cells
  have hm1 : 0 + i ≤ maxLen := by unfold maxLen; omega
  have hm2 : (0 + i) * 24 ≤ 140737488355328 := by omega
  have hm3 : 0 + i + 1 ≤ maxLen := by unfold maxLen; omega
  have hm4 : (0 + i + 1) * 24 ≤ 140737488355328 := by omega
  have hm5 : 0 + i + 1 + (L.length - i) ≤ maxLen := by unfold maxLen; omega
  have hm6 : (0 + i + 1 + (L.length - i)) * 24 ≤ 140737488355328 := by omega
  go_wp2_with (first
    | (at_builtin; refine wpList_app _ rfl (.tmp 40) (.tmp 46) 44 rfl w3.heap.size 66 i0 _ 3 24 Try.underlying44 hi0 hz0 hz1 hz2 rfl (by decide) (.slice (some ⟨w3.heap.size, 0, none⟩) 0 0) 0 [] rfl own_emptyK (some ⟨g, 0, none⟩) i (c) (flatK (L.take i)) rfl HS1.out (flatK_one _) hm1 hm2 base_alloc ?_; intro v4 w4 hown4 hg4 hob4; have HB4 := Lib.hid (((Below.refl _ w3).alloc (Nat.le_refl _) _).grown hg4 base_alloc (fun k hk => (own_emptyK.lt k hk).1)); have HO4 := Lib.hid hown4; have HT4 := Lib.hid ((HT3.out.on HB4.out).alloc (.cells (Kn.cells ⟨net, b, n⟩).toArray 66)); have hsz4 := HB4.out.size; have hbx := blk_below' HB4.out HU3.out.2; have k4 := cells_all (l := [_, _]) hbx; have z4 := size_of hbx; simp only [CellsAt, Nat.reduceAdd, and_true] at k4; obtain ⟨x0, x1⟩ := k4; clear hown4 hg4 hob4 hbx t0 t1 tl t6)
    | (at_builtin; refine wpList_app _ rfl (.tmp 48) (.tmp 52) 44 rfl w3.heap.size 66 i0 _ 3 24 Try.underlying44 hi0 hz0 hz1 hz2 rfl (by decide) v4 (0 + i) ([] ++ flatK (L.take i)) rfl (HO4.out.alloc _) (some ⟨w4.heap.size, 0, none⟩) 1 1 (Kn.cells ⟨net, b, n⟩) rfl (src_new w4 ⟨net, b, n⟩) (one_Kn _) hm3 hm4 (by rw [World.size_alloc]; omega) ?_; intro v5 w5 hown5 hg5 hob5; have HB5 := Lib.hid ((HB4.out.alloc hsz4 _).grown hg5 (by rw [World.size_alloc]; omega) (fun k hk => (HO4.out.lt k hk).1)); have HO5 := Lib.hid hown5; have HT5 := Lib.hid (HT3.out.on HB5.out); obtain ⟨t0, t1, tl, t6⟩ := HT5.out.cells; have hsz5 := HB5.out.size; clear hown5 hg5 hob5 x0 x1 z4)
    | (at_builtin; refine wpList_app _ rfl (.tmp 55) (.tmp 61) 44 rfl w3.heap.size 66 i0 _ 3 24 Try.underlying44 hi0 hz0 hz1 hz2 rfl (by decide) v5 (0 + i + 1) ([] ++ flatK (L.take i) ++ Kn.cells ⟨net, b, n⟩) rfl HO5.out (some ⟨g, i * 3, none⟩) (L.length - i) (c - i) (flatK (L.drop i)) rfl (src_drop HT5.out.own hil) (flatK_one _) hm5 hm6 hsz5 ?_; intro v6 w6 hown6 hg6 hob6; have HB6 := Lib.hid (HB5.out.grown hg6 hsz5 (fun k hk => (HO5.out.lt k hk).1)); have HO6 := Lib.hid hown6; have HT6 := Lib.hid (HT3.out.on HB6.out); clear t0 t1 tl t6; obtain ⟨t0, t1, tl, t6⟩ := HT6.out.cells; obtain ⟨g6, c6, hv6, -⟩ := hown6.form (by omega); subst hv6; clear hown6 hg6 hob6))
  go_ret
  have hl6 : i + 1 + (L.length - i) = (putK L ⟨net, b, n⟩).length := by have := hx0.out; omega
  have ho6 : w6.ownsRow w3.heap.size 66 3 (.slice (some ⟨g6, 0, none⟩) (putK L ⟨net, b, n⟩).length c6) (putK L ⟨net, b, n⟩).length (flatK (putK L ⟨net, b, n⟩)) := by
    have h6 := HO6.out
    rw [List.nil_append, List.append_assoc, hx1.out, Nat.zero_add, hl6] at h6
    exact h6
  obtain ⟨q1, q2⟩ := HT3.out.field HU3.out.1 HB6.out ho6
  rw [← hl6] at q1 q2
  exact .inr (.inr ⟨HB.out, .inr HF.out, rfl, .slice (some ⟨g6, 0, none⟩) (i + 1 + (L.length - i)) c6, q1, q2⟩)
set_option maxRecDepth 100000 in
set_option maxHeartbeats 2000000 in
theorem rput_end (B rb : Nat) (room : Int) (L : List Kn) (g : Nat) (net : Nat) (b n : Int) (w : World) (h : RefAt w B rb room (.slice (some ⟨g, 0, none⟩) L.length L.length) L) (hn : net < 2 ^ 32) (hb : rightB net b = true) (hp : (placeL L (net, b)).2 = false) (hf : (L.length : Int) < room) (hi : (placeL L (net, b)).1 = L.length) (hl : L.length ≤ 100000) :
    Calls Try.prog 27 #[.pointer (some ⟨rb, 0, none⟩), .agg #[.int .u32 net, .int .i64 b], .int .i64 n] w (rputPost B rb room (.slice (some ⟨g, 0, none⟩) L.length L.length) L net b n w) := by
  have HT := Lib.hid h
  have HN := Lib.hid hn
  have HB := Lib.hid hb
  have HF := Lib.hid hf
  have HP := Lib.hid (And.intro hp hi)
  have hil : L.length ≤ L.length := by have := placeL_le (q := (net, b)) L; omega
  have bf : decide (room ≤ (L.length : Int)) = false := decide_eq_false (by omega)
  have hic : True := trivial
  have hx0 := Lib.hid (show L.length + 1 + (L.length - L.length) = (putK L ⟨net, b, n⟩).length by rw [putK, Kn.key, hp, hi]; simp; try omega)
  have hx1 := Lib.hid (show flatK (L.take L.length) ++ (Kn.cells ⟨net, b, n⟩ ++ flatK (L.drop L.length)) = flatK (putK L ⟨net, b, n⟩) by rw [putK, Kn.key, hp, hi]; simp [flatK])
  obtain ⟨i0, hi0, hz0, hz1, hz2⟩ := info_parts infoKn
  have HW := Lib.hid (show Below w.heap.size w (w.alloc (.cells #[.int .u32 net, .int .i64 b] 30 (0, 0))) ∧ (w.alloc (.cells #[.int .u32 net, .int .i64 b] 30 (0, 0))).heap[w.heap.size]? = some (.cells #[.int .u32 net, .int .i64 b] 30 (0, 0)) from ⟨(Below.refl _ _).alloc (Nat.le_refl _) _, blk_new _ _⟩)
  clear h hn hb hp hf hi
  go_enter Try.func27, Try.ntmps27
  go_wp2_with (first
    | (go_at_call 38; refine (rright_calls net b _ HN.out).mono ?_; rintro e w1 ⟨rfl, hb0⟩; rw [HB.out]; have HV := Lib.hid (And.intro (HW.out.1.trans (hb0.mono HW.out.1.size)) (blk_below' hb0 HW.out.2)); have k1 := cells_all (l := [_, _]) HV.out.2; have z1 := size_of HV.out.2; simp only [CellsAt, Nat.reduceAdd, and_true] at k1; obtain ⟨p0, p1⟩ := k1; clear hb0)
    | (go_at_call 34; refine (place_calls B rb room _ L net b _ (HT.out.on HV.out.1) (by first | omega | exact Nat.zero_le _)).mono ?_; rintro e w2 ⟨rfl, hb0⟩; rw [HP.out.1, HP.out.2]; have HU := Lib.hid (And.intro (HV.out.1.trans (hb0.mono HV.out.1.size)) (blk_below' hb0 HV.out.2)); have HTU := Lib.hid (HT.out.on HU.out.1); obtain ⟨t0, t1, tl, t6⟩ := HTU.out.cells; have hsz := HU.out.1.size; clear hb0 HV z1 p0 p1))
  go_quiet (fail)
  have HT3 := Lib.hid (HTU.out.on (below_drewN (Below.refl _ w2) nq))
  have HU3 := Lib.hid (And.intro (below_drewN HU.out.1 nq) (show (w2.drewN nq).heap[w.heap.size]? = some (.cells #[.int .u32 net, .int .i64 b] 30 (0, 0)) from HU.out.2))
  clear t0 t1 tl t6 hsz HU HTU
  generalize w2.drewN nq = w3 at HT3 HU3 ⊢
  have HA3 := Lib.hid (HT3.out.alloc (.cells #[] 66))
  have HS1 := Lib.hid (src_take HA3.out.own hil)
  have HB3 := Lib.hid (blk_alloc HU3.out.2 (.cells #[] 66))
  obtain ⟨t0, t1, tl, t6⟩ := HA3.out.cells
  have hm1 : 0 + L.length ≤ maxLen := by unfold maxLen; omega
  have hm2 : (0 + L.length) * 24 ≤ 140737488355328 := by omega
  have hm3 : 0 + L.length + 1 ≤ maxLen := by unfold maxLen; omega
  have hm4 : (0 + L.length + 1) * 24 ≤ 140737488355328 := by omega
  have hm5 : 0 + L.length + 1 + (0) ≤ maxLen := by unfold maxLen; omega
  have hm6 : (0 + L.length + 1 + (0)) * 24 ≤ 140737488355328 := by omega
  go_wp2_with (first
    | (at_builtin; refine wpList_app _ rfl (.tmp 40) (.tmp 46) 44 rfl w3.heap.size 66 i0 _ 3 24 Try.underlying44 hi0 hz0 hz1 hz2 rfl (by decide) (.slice (some ⟨w3.heap.size, 0, none⟩) 0 0) 0 [] rfl own_emptyK (some ⟨g, 0, none⟩) L.length (L.length) (flatK (L.take L.length)) rfl HS1.out (flatK_one _) hm1 hm2 base_alloc ?_; intro v4 w4 hown4 hg4 hob4; have HB4 := Lib.hid (((Below.refl _ w3).alloc (Nat.le_refl _) _).grown hg4 base_alloc (fun k hk => (own_emptyK.lt k hk).1)); have HO4 := Lib.hid hown4; have HT4 := Lib.hid ((HT3.out.on HB4.out).alloc (.cells (Kn.cells ⟨net, b, n⟩).toArray 66)); have hsz4 := HB4.out.size; have hbx := blk_below' HB4.out HU3.out.2; have k4 := cells_all (l := [_, _]) hbx; have z4 := size_of hbx; simp only [CellsAt, Nat.reduceAdd, and_true] at k4; obtain ⟨x0, x1⟩ := k4; clear hown4 hg4 hob4 hbx t0 t1 tl t6)
    | (at_builtin; refine wpList_app _ rfl (.tmp 48) (.tmp 52) 44 rfl w3.heap.size 66 i0 _ 3 24 Try.underlying44 hi0 hz0 hz1 hz2 rfl (by decide) v4 (0 + L.length) ([] ++ flatK (L.take L.length)) rfl (HO4.out.alloc _) (some ⟨w4.heap.size, 0, none⟩) 1 1 (Kn.cells ⟨net, b, n⟩) rfl (src_new w4 ⟨net, b, n⟩) (one_Kn _) hm3 hm4 (by rw [World.size_alloc]; omega) ?_; intro v5 w5 hown5 hg5 hob5; have HB5 := Lib.hid ((HB4.out.alloc hsz4 _).grown hg5 (by rw [World.size_alloc]; omega) (fun k hk => (HO4.out.lt k hk).1)); have HO5 := Lib.hid hown5; have HT5 := Lib.hid (HT3.out.on HB5.out); obtain ⟨t0, t1, tl, t6⟩ := HT5.out.cells; have hsz5 := HB5.out.size; clear hown5 hg5 hob5 x0 x1 z4)
    | (at_builtin; refine wpList_app _ rfl (.tmp 55) (.tmp 61) 44 rfl w3.heap.size 66 i0 _ 3 24 Try.underlying44 hi0 hz0 hz1 hz2 rfl (by decide) v5 (0 + L.length + 1) ([] ++ flatK (L.take L.length) ++ Kn.cells ⟨net, b, n⟩) rfl HO5.out (some ⟨g, 0, none⟩) (0) (0) (flatK (L.drop L.length)) rfl (src_end0 HT5.out.own) (flatK_one _) hm5 hm6 hsz5 ?_; intro v6 w6 hown6 hg6 hob6; have HB6 := Lib.hid (HB5.out.grown hg6 hsz5 (fun k hk => (HO5.out.lt k hk).1)); have HO6 := Lib.hid hown6; have HT6 := Lib.hid (HT3.out.on HB6.out); clear t0 t1 tl t6; obtain ⟨t0, t1, tl, t6⟩ := HT6.out.cells; obtain ⟨g6, c6, hv6, -⟩ := hown6.form (by omega); subst hv6; clear hown6 hg6 hob6))
  go_ret
  have hl6 : L.length + 1 + (0) = (putK L ⟨net, b, n⟩).length := by have := hx0.out; simpa using this
  have ho6 : w6.ownsRow w3.heap.size 66 3 (.slice (some ⟨g6, 0, none⟩) (putK L ⟨net, b, n⟩).length c6) (putK L ⟨net, b, n⟩).length (flatK (putK L ⟨net, b, n⟩)) := by
    have h6 := HO6.out
    rw [List.nil_append, List.append_assoc, hx1.out, Nat.zero_add, hl6] at h6
    exact h6
  obtain ⟨q1, q2⟩ := HT3.out.field HU3.out.1 HB6.out ho6
  rw [← hl6] at q1 q2
  exact .inr (.inr ⟨HB.out, .inr HF.out, rfl, .slice (some ⟨g6, 0, none⟩) (L.length + 1 + (0)) c6, q1, q2⟩)
set_option maxRecDepth 100000 in
set_option maxHeartbeats 2000000 in
theorem rput_first (B rb : Nat) (room : Int)  (net : Nat) (b n : Int) (w : World) (h : RefAt w B rb room (.slice none 0 0) ([] : List Kn)) (hn : net < 2 ^ 32) (hb : rightB net b = true) (hp : (placeL ([] : List Kn) (net, b)).2 = false) (hf : (([] : List Kn).length : Int) < room) (hi : (placeL ([] : List Kn) (net, b)).1 = 0) :
    Calls Try.prog 27 #[.pointer (some ⟨rb, 0, none⟩), .agg #[.int .u32 net, .int .i64 b], .int .i64 n] w (rputPost B rb room (.slice none 0 0) ([] : List Kn) net b n w) := by
  have HT := Lib.hid h
  have HN := Lib.hid hn
  have HB := Lib.hid hb
  have HF := Lib.hid hf
  have HP := Lib.hid (And.intro hp hi)
  have hil : 0 ≤ ([] : List Kn).length := by have := placeL_le (q := (net, b)) ([] : List Kn); omega
  have bf : decide (room ≤ (([] : List Kn).length : Int)) = false := decide_eq_false (by omega)
  have bf0 : decide (room ≤ 0) = false := decide_eq_false (by simp at hf; omega)
  have hx0 := Lib.hid (show 0 + 1 + (([] : List Kn).length - 0) = (putK ([] : List Kn) ⟨net, b, n⟩).length by rw [putK, Kn.key, hp, hi]; simp; try omega)
  have hx1 := Lib.hid (show flatK (([] : List Kn).take 0) ++ (Kn.cells ⟨net, b, n⟩ ++ flatK (([] : List Kn).drop 0)) = flatK (putK ([] : List Kn) ⟨net, b, n⟩) by rw [putK, Kn.key, hp, hi]; simp [flatK])
  obtain ⟨i0, hi0, hz0, hz1, hz2⟩ := info_parts infoKn
  have HW := Lib.hid (show Below w.heap.size w (w.alloc (.cells #[.int .u32 net, .int .i64 b] 30 (0, 0))) ∧ (w.alloc (.cells #[.int .u32 net, .int .i64 b] 30 (0, 0))).heap[w.heap.size]? = some (.cells #[.int .u32 net, .int .i64 b] 30 (0, 0)) from ⟨(Below.refl _ _).alloc (Nat.le_refl _) _, blk_new _ _⟩)
  clear h hn hb hp hf hi
  go_enter Try.func27, Try.ntmps27
  go_wp2_with (first
    | (go_at_call 38; refine (rright_calls net b _ HN.out).mono ?_; rintro e w1 ⟨rfl, hb0⟩; rw [HB.out]; have HV := Lib.hid (And.intro (HW.out.1.trans (hb0.mono HW.out.1.size)) (blk_below' hb0 HW.out.2)); have k1 := cells_all (l := [_, _]) HV.out.2; have z1 := size_of HV.out.2; simp only [CellsAt, Nat.reduceAdd, and_true] at k1; obtain ⟨p0, p1⟩ := k1; clear hb0)
    | (go_at_call 34; refine (place_calls B rb room _ ([] : List Kn) net b _ (HT.out.on HV.out.1) (by first | omega | exact Nat.zero_le _)).mono ?_; rintro e w2 ⟨rfl, hb0⟩; rw [HP.out.1, HP.out.2]; have HU := Lib.hid (And.intro (HV.out.1.trans (hb0.mono HV.out.1.size)) (blk_below' hb0 HV.out.2)); have HTU := Lib.hid (HT.out.on HU.out.1); obtain ⟨t0, t1, tl, t6⟩ := HTU.out.cells; have hsz := HU.out.1.size; clear hb0 HV z1 p0 p1))
  go_quiet (fail)
  have HT3 := Lib.hid (HTU.out.on (below_drewN (Below.refl _ w2) nq))
  have HU3 := Lib.hid (And.intro (below_drewN HU.out.1 nq) (show (w2.drewN nq).heap[w.heap.size]? = some (.cells #[.int .u32 net, .int .i64 b] 30 (0, 0)) from HU.out.2))
  clear t0 t1 tl t6 hsz HU HTU
  generalize w2.drewN nq = w3 at HT3 HU3 ⊢
  have HA3 := Lib.hid (HT3.out.alloc (.cells #[] 66))
  have HS1 := Lib.hid (src_nil (w3.alloc (.cells #[] 66)) 3)
  have HB3 := Lib.hid (blk_alloc HU3.out.2 (.cells #[] 66))
  obtain ⟨t0, t1, tl, t6⟩ := HA3.out.cells
  have hm1 : 0 + 0 ≤ maxLen := by unfold maxLen; omega
  have hm2 : (0 + 0) * 24 ≤ 140737488355328 := by omega
  have hm3 : 0 + 0 + 1 ≤ maxLen := by unfold maxLen; omega
  have hm4 : (0 + 0 + 1) * 24 ≤ 140737488355328 := by omega
  have hm5 : 0 + 0 + 1 + (0) ≤ maxLen := by unfold maxLen; omega
  have hm6 : (0 + 0 + 1 + (0)) * 24 ≤ 140737488355328 := by omega
  go_wp2_with (first
    | (at_builtin; refine wpList_app _ rfl (.tmp 40) (.tmp 46) 44 rfl w3.heap.size 66 i0 _ 3 24 Try.underlying44 hi0 hz0 hz1 hz2 rfl (by decide) (.slice (some ⟨w3.heap.size, 0, none⟩) 0 0) 0 [] rfl own_emptyK (none) 0 (0) (flatK (([] : List Kn).take 0)) rfl HS1.out (flatK_one _) hm1 hm2 base_alloc ?_; intro v4 w4 hown4 hg4 hob4; have HB4 := Lib.hid (((Below.refl _ w3).alloc (Nat.le_refl _) _).grown hg4 base_alloc (fun k hk => (own_emptyK.lt k hk).1)); have HO4 := Lib.hid hown4; have HT4 := Lib.hid ((HT3.out.on HB4.out).alloc (.cells (Kn.cells ⟨net, b, n⟩).toArray 66)); have hsz4 := HB4.out.size; have hbx := blk_below' HB4.out HU3.out.2; have k4 := cells_all (l := [_, _]) hbx; have z4 := size_of hbx; simp only [CellsAt, Nat.reduceAdd, and_true] at k4; obtain ⟨x0, x1⟩ := k4; clear hown4 hg4 hob4 hbx t0 t1 tl t6)
    | (at_builtin; refine wpList_app _ rfl (.tmp 48) (.tmp 52) 44 rfl w3.heap.size 66 i0 _ 3 24 Try.underlying44 hi0 hz0 hz1 hz2 rfl (by decide) v4 (0 + 0) ([] ++ flatK (([] : List Kn).take 0)) rfl (HO4.out.alloc _) (some ⟨w4.heap.size, 0, none⟩) 1 1 (Kn.cells ⟨net, b, n⟩) rfl (src_new w4 ⟨net, b, n⟩) (one_Kn _) hm3 hm4 (by rw [World.size_alloc]; omega) ?_; intro v5 w5 hown5 hg5 hob5; have HB5 := Lib.hid ((HB4.out.alloc hsz4 _).grown hg5 (by rw [World.size_alloc]; omega) (fun k hk => (HO4.out.lt k hk).1)); have HO5 := Lib.hid hown5; have HT5 := Lib.hid (HT3.out.on HB5.out); obtain ⟨t0, t1, tl, t6⟩ := HT5.out.cells; have hsz5 := HB5.out.size; clear hown5 hg5 hob5 x0 x1 z4)
    | (at_builtin; refine wpList_app _ rfl (.tmp 55) (.tmp 61) 44 rfl w3.heap.size 66 i0 _ 3 24 Try.underlying44 hi0 hz0 hz1 hz2 rfl (by decide) v5 (0 + 0 + 1) ([] ++ flatK (([] : List Kn).take 0) ++ Kn.cells ⟨net, b, n⟩) rfl HO5.out (none) (0) (0) (flatK (([] : List Kn).drop 0)) rfl (src_nil _ _) (flatK_one _) hm5 hm6 hsz5 ?_; intro v6 w6 hown6 hg6 hob6; have HB6 := Lib.hid (HB5.out.grown hg6 hsz5 (fun k hk => (HO5.out.lt k hk).1)); have HO6 := Lib.hid hown6; have HT6 := Lib.hid (HT3.out.on HB6.out); clear t0 t1 tl t6; obtain ⟨t0, t1, tl, t6⟩ := HT6.out.cells; obtain ⟨g6, c6, hv6, -⟩ := hown6.form (by omega); subst hv6; clear hown6 hg6 hob6))
  go_ret
  have hl6 : 0 + 1 + (0) = (putK ([] : List Kn) ⟨net, b, n⟩).length := by have := hx0.out; simpa using this
  have ho6 : w6.ownsRow w3.heap.size 66 3 (.slice (some ⟨g6, 0, none⟩) (putK ([] : List Kn) ⟨net, b, n⟩).length c6) (putK ([] : List Kn) ⟨net, b, n⟩).length (flatK (putK ([] : List Kn) ⟨net, b, n⟩)) := by
    have h6 := HO6.out
    rw [List.nil_append, List.append_assoc, hx1.out, Nat.zero_add, hl6] at h6
    exact h6
  obtain ⟨q1, q2⟩ := HT3.out.field HU3.out.1 HB6.out ho6
  rw [← hl6] at q1 q2
  exact .inr (.inr ⟨HB.out, .inr HF.out, rfl, .slice (some ⟨g6, 0, none⟩) (0 + 1 + (0)) c6, q1, q2⟩)
end Go.Proofs.Ytkofjejdgdhapaa
