/- The reference's Put, whole; Drop. -/
import Derived.Test.YtkofjejdgdhapaaLqE
import Derived.Deep.RegionLaw
import Derived.BigRegion
namespace Go.Proofs.Ytkofjejdgdhapaa
open Go.RowKit

theorem rput_calls (B rb : Nat) (room : Int) (v : Value) (L : List Kn) (net : Nat) (b n : Int) (w : World) (h : RefAt w B rb room v L) (hl : L.length ≤ 100000) (hn : net < 2 ^ 32) :
    Calls Try.prog 27 #[.pointer (some ⟨rb, 0, none⟩), .agg #[.int .u32 net, .int .i64 b], .int .i64 n] w (rputPost B rb room v L net b n w) := by
  cases hb : rightB net b with
  | false => exact rput_bad B rb room v L net b n w hn hb
  | true =>
    cases hp : (placeL L (net, b)).2 with
    | true => exact rput_known B rb room v L net b n w h hl hn hb hp
    | false =>
      by_cases hf : room ≤ L.length
      · exact rput_full B rb room v L net b n w h hl hn hb hp hf
      · rcases h.own.2 with ⟨rfl, h0⟩ | ⟨g, c, _, rfl, _, _, hlc, _⟩
        · obtain rfl := List.length_eq_zero_iff.1 h0
          exact rput_first B rb room net b n w h hn hb hp (by omega) rfl
        · have hle := placeL_le (q := (net, b)) L
          by_cases hci : c = (placeL L (net, b)).1
          · have e1 : c = L.length := by omega
            subst e1
            exact rput_end B rb room L g net b n w h hn hb hp (by omega) hci.symm hl
          · exact rput_mid B rb room L g c _ net b n w h hn hb hp (by omega) rfl hl hlc hci

/-! ### Drop -/
def dropK (L : List Kn) (q : Nat × Int) : List Kn := if (placeL L q).2 then L.take (placeL L q).1 ++ L.drop ((placeL L q).1 + 1) else L
def rdropPost (B rb : Nat) (room : Int) (v : Value) (L : List Kn) (net : Nat) (b : Int) (w : World) (e : Ending) (w' : World) : Prop :=
  e = .returned (.bool (placeL L (net, b)).2) ∧ ∃ v', RefAt w' B rb room v' (dropK L (net, b)) ∧ RFr rb v v' w w'
set_option maxRecDepth 100000 in
set_option maxHeartbeats 1000000 in
theorem rdrop_no (B rb : Nat) (room : Int) (v : Value) (L : List Kn) (net : Nat) (b : Int) (w : World) (h : RefAt w B rb room v L) (hl : L.length ≤ 100000) (hp : (placeL L (net, b)).2 = false) :
    Calls Try.prog 22 #[.pointer (some ⟨rb, 0, none⟩), .agg #[.int .u32 net, .int .i64 b]] w (rdropPost B rb room v L net b w) := by
  have HT := Lib.hid h
  obtain ⟨i, hi⟩ : ∃ i, (placeL L (net, b)).1 = i := ⟨_, rfl⟩
  have HP := Lib.hid (And.intro hp hi)
  have HV := Lib.hid (show dropK L (net, b) = L by rw [dropK, hp]; rfl)
  clear h hp hi
  go_enter Try.func22, Try.ntmps22
  go_wp2_with ((go_at_call 34; refine (place_calls B rb room _ L net b _ (HT.out.alloc _) hl).mono ?_; rintro e w2 ⟨rfl, hb0⟩; rw [HP.out.1, HP.out.2]; have HB := Lib.hid (box_trans hb0); clear hb0))
  go_ret
  exact ⟨by rw [HP.out.1]; rfl, v, by rw [HV.out]; exact HT.out.on HB.out, RFr.of_below HB.out⟩
theorem own_shape {w : World} {base : Nat} {e : TypeId} {size : Nat} {v : Value} {n : Nat} {xs : List Value} (h : w.ownsRow base e size v n xs) : ∃ a c, v = .slice a n c := by
  rcases h.2 with ⟨rfl, rfl⟩ | ⟨g, cap, _, rfl, _⟩
  · exact ⟨_, _, rfl⟩
  · exact ⟨_, _, rfl⟩
theorem own_emptyD {wr : World} : ((wr.alloc (.cells #[] 66)).drew).ownsRow wr.heap.size 66 3 (.slice (some ⟨wr.heap.size, 0, none⟩) 0 0) 0 [] :=
  World.ownsRow_made (w := wr.drew) #[] 0 (Nat.le_refl _) (Nat.zero_le _) rfl
theorem base_allocD {wr : World} {o : Obj} : wr.heap.size ≤ (wr.alloc o).drew.heap.size := by
  show _ ≤ (wr.alloc o).heap.size
  rw [World.size_alloc]; omega
set_option maxRecDepth 100000 in
set_option maxHeartbeats 1000000 in
theorem rdrop_mid (B rb : Nat) (room : Int) (L : List Kn) (g c i : Nat) (net : Nat) (b : Int) (w : World) (h : RefAt w B rb room (.slice (some ⟨g, 0, none⟩) L.length c) L) (hl : L.length ≤ 100000) (hp : (placeL L (net, b)).2 = true) (hi : (placeL L (net, b)).1 = i) (hil : i < L.length) (hlc : L.length ≤ c) (hci : ¬ c = i + 1) :
    Calls Try.prog 22 #[.pointer (some ⟨rb, 0, none⟩), .agg #[.int .u32 net, .int .i64 b]] w (rdropPost B rb room (.slice (some ⟨g, 0, none⟩) L.length c) L net b w) := by
  have HT := Lib.hid h
  have HP := Lib.hid (And.intro hp hi)
  have HV := Lib.hid (show dropK L (net, b) = L.take i ++ L.drop (i + 1) by rw [dropK, hp, hi]; rfl)
  obtain ⟨i0, hi0, hz0, hz1, hz2⟩ := info_parts infoKn
  clear h hp hi
  go_enter Try.func22, Try.ntmps22
  go_wp2_with ((go_at_call 34; refine (place_calls B rb room _ L net b _ (HT.out.alloc _) hl).mono ?_; rintro e w2 ⟨rfl, hb0⟩; rw [HP.out.1, HP.out.2]; have HB := Lib.hid (box_trans hb0); clear hb0))
  have HT2 := Lib.hid (HT.out.on HB.out)
  obtain ⟨t0, t1, tl, t6⟩ := HT2.out.cells
  have hil2 : (i : Int) < L.length := by omega
  have hic : i ≤ c := by omega
  have hic2 : i + 1 ≤ c := by omega
  have hm1 : 0 + i ≤ maxLen := by unfold maxLen; omega
  have hm2 : (0 + i) * 24 ≤ 140737488355328 := by omega
  have hm3 : 0 + i + (L.length - (i + 1)) ≤ maxLen := by unfold maxLen; omega
  have hm4 : (0 + i + (L.length - (i + 1))) * 24 ≤ 140737488355328 := by omega
  have hp0 : (0 : Int) ≤ (i : Int) + 1 := by omega
  have hp1 : (i : Int) + 1 ≤ (L.length : Int) := by omega
  have hp2 : ((i : Int) + 1).toNat = i + 1 := by omega
  have hwr : IntKind.i64.wrap ((i : Int) + 1) = (i : Int) + 1 := IntWalk.i64_in _ (by omega)
  go_region_law (first
    | (refine step_app _ rfl (.tmp 15) (.tmp 21) 44 rfl w2.heap.size 66 i0 _ 3 24 Try.underlying44 hi0 hz0 hz1 hz2 rfl (by decide) (.slice (some ⟨w2.heap.size, 0, none⟩) 0 0) 0 [] rfl own_emptyD (some ⟨g, 0, none⟩) i c (flatK (L.take i)) rfl (src_take (HT2.out.on (w' := (w2.alloc _).drew) (((Below.refl _ _).alloc (Nat.le_refl _) _).drew)).own (Nat.le_of_lt hil)) (flatK_one _) hm1 hm2 base_allocD ?_; intro v4 w4 hown4 hg4 hob4; have HB4 := Lib.hid (((Below.refl _ w2).alloc (Nat.le_refl _) _).drew.grown hg4 base_allocD (fun k hk => (own_emptyD.lt k hk).1)); have HO4 := Lib.hid hown4; have HT4 := Lib.hid (HT2.out.on HB4.out); obtain ⟨y0, y1, yl, y6⟩ := HT4.out.cells; have hsz4 := HB4.out.size; clear hown4 hg4 hob4)
    | (refine step_app _ rfl (.tmp 22) (.tmp 29) 44 rfl w2.heap.size 66 i0 _ 3 24 Try.underlying44 hi0 hz0 hz1 hz2 rfl (by decide) v4 (0 + i) ([] ++ flatK (L.take i)) rfl HO4.out (some ⟨g, (i + 1) * 3, none⟩) (L.length - (i + 1)) (c - (i + 1)) (flatK (L.drop (i + 1))) rfl (src_drop HT4.out.own (by omega)) (flatK_one _) hm3 hm4 hsz4 ?_; intro v5 w5 hown5 hg5 hob5; have HB5 := Lib.hid (HB4.out.grown hg5 hsz4 (fun k hk => (HO4.out.lt k hk).1)); have HO5 := Lib.hid hown5; have HT5 := Lib.hid (HT2.out.on HB5.out); obtain ⟨q0, q1, ql, q6⟩ := HT5.out.cells; obtain ⟨a5, c5, hv5⟩ := own_shape hown5; subst hv5; clear hown5 hg5 hob5))
  all_goals
    go_wp2_with (fail)
    go_ret
    have h6 := HO5.out
    have hl6 : 0 + i + (L.length - (i + 1)) = (dropK L (net, b)).length := by rw [HV.out]; simp; omega
    have hx1 : [] ++ flatK (L.take i) ++ flatK (L.drop (i + 1)) = flatK (dropK L (net, b)) := by rw [HV.out]; simp [flatK]
    rw [hx1] at h6
    have ho6 : w5.ownsRow w2.heap.size 66 3 (.slice a5 (0 + i + (L.length - (i + 1))) c5) (dropK L (net, b)).length (flatK (dropK L (net, b))) := by
      rw [← hl6]; exact h6
    obtain ⟨q1, q2⟩ := HT2.out.field HB.out HB5.out ho6
    simp only [Nat.zero_add] at q1 q2
    exact ⟨by rw [HP.out.1]; rfl, _, q1, q2⟩
-- PRINTED by genQF.py
set_option maxRecDepth 100000 in
set_option maxHeartbeats 1000000 in
theorem rdrop_end (B rb : Nat) (room : Int) (L : List Kn) (g i : Nat) (net : Nat) (b : Int) (w : World) (h : RefAt w B rb room (.slice (some ⟨g, 0, none⟩) L.length (i + 1)) L) (hl : L.length ≤ 100000) (hp : (placeL L (net, b)).2 = true) (hi : (placeL L (net, b)).1 = i) (hil : i < L.length) (hlc : L.length ≤ i + 1) :
    Calls Try.prog 22 #[.pointer (some ⟨rb, 0, none⟩), .agg #[.int .u32 net, .int .i64 b]] w (rdropPost B rb room (.slice (some ⟨g, 0, none⟩) L.length (i + 1)) L net b w) := by
  have HT := Lib.hid h
  have HP := Lib.hid (And.intro hp hi)
  have HV := Lib.hid (show dropK L (net, b) = L.take i ++ L.drop (i + 1) by rw [dropK, hp, hi]; rfl)
  obtain ⟨i0, hi0, hz0, hz1, hz2⟩ := info_parts infoKn
  clear h hp hi
  go_enter Try.func22, Try.ntmps22
  go_wp2_with ((go_at_call 34; refine (place_calls B rb room _ L net b _ (HT.out.alloc _) hl).mono ?_; rintro e w2 ⟨rfl, hb0⟩; rw [HP.out.1, HP.out.2]; have HB := Lib.hid (box_trans hb0); clear hb0))
  have HT2 := Lib.hid (HT.out.on HB.out)
  obtain ⟨t0, t1, tl, t6⟩ := HT2.out.cells
  have hil2 : (i : Int) < L.length := by omega
  have hic : i ≤ i + 1 := by omega
  have hic2 : (i : Int) ≤ (i : Int) + 1 := by omega
  have hm1 : 0 + i ≤ maxLen := by unfold maxLen; omega
  have hm2 : (0 + i) * 24 ≤ 140737488355328 := by omega
  have hm3 : 0 + i + 0 ≤ maxLen := by unfold maxLen; omega
  have hm4 : (0 + i + 0) * 24 ≤ 140737488355328 := by omega
  have hp0 : (0 : Int) ≤ (i : Int) + 1 := by omega
  have hp1 : (i : Int) + 1 ≤ (L.length : Int) := by omega
  have hp2 : ((i : Int) + 1).toNat = i + 1 := by omega
  have hwr : IntKind.i64.wrap ((i : Int) + 1) = (i : Int) + 1 := IntWalk.i64_in _ (by omega)
  go_region_law (first
    | (refine step_app _ rfl (.tmp 15) (.tmp 21) 44 rfl w2.heap.size 66 i0 _ 3 24 Try.underlying44 hi0 hz0 hz1 hz2 rfl (by decide) (.slice (some ⟨w2.heap.size, 0, none⟩) 0 0) 0 [] rfl own_emptyD (some ⟨g, 0, none⟩) i (i + 1) (flatK (L.take i)) rfl (src_take (HT2.out.on (w' := (w2.alloc _).drew) (((Below.refl _ _).alloc (Nat.le_refl _) _).drew)).own (Nat.le_of_lt hil)) (flatK_one _) hm1 hm2 base_allocD ?_; intro v4 w4 hown4 hg4 hob4; have HB4 := Lib.hid (((Below.refl _ w2).alloc (Nat.le_refl _) _).drew.grown hg4 base_allocD (fun k hk => (own_emptyD.lt k hk).1)); have HO4 := Lib.hid hown4; have HT4 := Lib.hid (HT2.out.on HB4.out); obtain ⟨y0, y1, yl, y6⟩ := HT4.out.cells; have hsz4 := HB4.out.size; clear hown4 hg4 hob4)
    | (refine step_app _ rfl (.tmp 22) (.tmp 29) 44 rfl w2.heap.size 66 i0 _ 3 24 Try.underlying44 hi0 hz0 hz1 hz2 rfl (by decide) v4 (0 + i) ([] ++ flatK (L.take i)) rfl HO4.out (some ⟨g, 0, none⟩) 0 0 (flatK (L.drop (i + 1))) rfl (src_end1 HT4.out.own (by omega)) (flatK_one _) hm3 hm4 hsz4 ?_; intro v5 w5 hown5 hg5 hob5; have HB5 := Lib.hid (HB4.out.grown hg5 hsz4 (fun k hk => (HO4.out.lt k hk).1)); have HO5 := Lib.hid hown5; have HT5 := Lib.hid (HT2.out.on HB5.out); obtain ⟨q0, q1, ql, q6⟩ := HT5.out.cells; obtain ⟨a5, c5, hv5⟩ := own_shape hown5; subst hv5; clear hown5 hg5 hob5))
  all_goals
    go_wp2_with (fail)
    go_ret
    have h6 := HO5.out
    have hl6 : 0 + i + 0 = (dropK L (net, b)).length := by rw [HV.out]; simp; omega
    have hx1 : [] ++ flatK (L.take i) ++ flatK (L.drop (i + 1)) = flatK (dropK L (net, b)) := by rw [HV.out]; simp [flatK]
    rw [hx1] at h6
    have ho6 : w5.ownsRow w2.heap.size 66 3 (.slice a5 (0 + i + 0) c5) (dropK L (net, b)).length (flatK (dropK L (net, b))) := by
      rw [← hl6]; exact h6
    obtain ⟨q1, q2⟩ := HT2.out.field HB.out HB5.out ho6
    simp only [Nat.zero_add, Nat.add_zero] at q1 q2
    exact ⟨by rw [HP.out.1]; rfl, _, q1, q2⟩
-- END OF PRINT
theorem rdrop_calls (B rb : Nat) (room : Int) (v : Value) (L : List Kn) (net : Nat) (b : Int) (w : World) (h : RefAt w B rb room v L) (hl : L.length ≤ 100000) :
    Calls Try.prog 22 #[.pointer (some ⟨rb, 0, none⟩), .agg #[.int .u32 net, .int .i64 b]] w (rdropPost B rb room v L net b w) := by
  cases hp : (placeL L (net, b)).2 with
  | false => exact rdrop_no B rb room v L net b w h hl hp
  | true =>
    obtain ⟨x, hx, _⟩ := placeL_bound hp
    have hlt := (List.getElem?_eq_some_iff.1 hx).1
    rcases h.own.2 with ⟨rfl, h0⟩ | ⟨g, c, _, rfl, _, _, hlc, _⟩
    · omega
    · by_cases hci : c = (placeL L (net, b)).1 + 1
      · subst hci
        exact rdrop_end B rb room L g _ net b w h hl hp rfl hlt hlc
      · exact rdrop_mid B rb room L g c _ net b w h hl hp rfl hlt hlc hci
end Go.Proofs.Ytkofjejdgdhapaa
