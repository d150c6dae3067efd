/- FloodClimbs: called with any piece and any levels the law returns true, and each argument reads as before. No condition. -/
import Derived.Test.YtnibdmbkefldfaaRows
import Derived.Test.YtnibdmbkefldfaaRowB
import Derived.Test.YtnibdmbkefldfaaFlK
namespace Go.Proofs.Ytnibdmbkefldfaa.floodClimbs
open Go.ChangeShapes Go.WideShapes Go.ChangeAt Go.RowKit
open Go.ChangeMaps (open_string shut_string)
theorem own : ownKnob Try.prog.godebug = none := by kernel_rfl
theorem laidOut : laidOutB Try.prog = true := by kernel_rfl
set_option maxRecDepth 100000 in
theorem lifted (os : Os) (started : os.Started) (H : Type) (enc : TypeId × Value → H) :
    ReturnsInHanded {} Try.checked os 5 .any (Rows.floodClimbsSpec.pre6 enc Try.prog Try.f5 Rows.floodClimbsRow.domain false) (Rows.floodClimbsSpec.post enc Try.prog Try.f5 false true false false) := by
  refine returnsInHanded_of_change_sized (C := Try.checked) own started (by kernel_rfl) Try.func5
    (ChangeSpec.witness6 (enc := enc) (C := Try.checked) false ⟨#[], #[.agg #[.int .i64 0, .int .i64 0, .int .i64 0, .int .i64 0, .int .i64 0, .int .i64 0, .int .i64 0, .bool false, .slice none 0 0, .slice none 0 0], .slice none 0 0], []⟩ 8 (by kernel_rfl) (by kernel_rfl) (by kernel_rfl) (by kernel_rfl)) ?_
  intro W base args ds gs before hval0 hW _ _ _
  have hval : ∀ (j : Nat) t v, Try.f5.params[j]? = some t → args[j]? = some v → Value.okWide Try.prog W .any base t v := hval0
  have hW' := hW
  obtain ⟨p, q, hA0, hV, rfl, _, _⟩ := hW
  have hA : DataW.TrodAll enc Try.prog W 0 (fun _ => true) true Try.f5.params.toList args.toList ds p := hA0
  rw [Try.params5] at hA hval
  obtain ⟨v0, vs0, d0, ds0, p0, q0, hargs, rfl, rfl, h0, y0⟩ := trodAll_cons hA
  obtain ⟨v1, vs1, d1, ds1, p1, q1, rfl, rfl, rfl, h1, y1⟩ := trodAll_cons y0
  obtain ⟨rfl, rfl, rfl⟩ := trodAll_nil y1
  obtain rfl : args = #[v0, v1] := by cases args; simp_all
  obtain ⟨rfl, rfl⟩ := trodVars_none hV
  have k0 := h0
  have lt0 : ∀ x ∈ p0, x.block < W.heap.size := by obtain ⟨m, hm⟩ := k0; exact DataW.trod_lt m _ _ _ hm
  obtain ⟨x0, r0⟩ := arg_of opens_tie h0
  obtain rfl := agg_arg (by obtain ⟨c, hc, _⟩ := okWide_struct Try.underlying35 (hval 0 35 v0 rfl rfl); exact ⟨c, hc⟩) (rTie_v r0)
  have k1 := h1
  have lt1 : ∀ x ∈ p1, x.block < W.heap.size := by obtain ⟨m, hm⟩ := k1; exact DataW.trod_lt m _ _ _ hm
  obtain ⟨x1, r1⟩ := arg_of (opens_slice Try.underlying40 (by kernel_rfl) (by decide) opens_i64) h1
  obtain rfl := slice_arg (okWide_slice Try.underlying40 (hval 1 40 v1 rfl rfl)) r1
  clear hA0 hval0
  refine (climbs_law x0 x1.a x1.cap x1.l W r1.2.2.2 (Nat.le_trans r1.2.1 r1.2.2.1)).mono fun e W' ⟨he, bel⟩ => ?_
  subst he
  exact ⟨_, rfl, _, _, _, [], _, [], hW', trodAll_mk1 (shut_bool Try.underlying4 _), (trodAll_cons_mk (Below.trod laidOut (by kernel_rfl) (of_decide_eq_true (by kernel_rfl)) k0 bel lt0) (trodAll_cons_mk (Below.trod laidOut (by kernel_rfl) (of_decide_eq_true (by kernel_rfl)) k1 bel lt1) trodAll_mk0)), rfl, bel.frame _, fun h => by cases h⟩
theorem over : Rows.floodClimbsRow.holds Try.pinned (OpenSpec.ofChange Rows.floodClimbsSpec) :=
  OpenClaim.holds_of_wide 5 Try.f5 rfl rfl rfl rfl rfl rfl rfl ⟨rfl, rfl, rfl, rfl, rfl⟩ rfl rfl rfl rfl rfl (by kernel_rfl) Try.func5 (by kernel_rfl)
    (of_decide_eq_true (by kernel_rfl)) (by unfold Func.isWrapper; first | (rw [if_pos (by decide +kernel)]; kernel_rfl) | (rw [if_neg (by decide +kernel)]; exact ⟨rfl, rfl⟩))
    (fun os started H enc _ => lifted os started H enc)
theorem proved : Rows.FloodClimbsSaid := over
end Go.Proofs.Ytnibdmbkefldfaa.floodClimbs
namespace Go.Proofs.Ytnibdmbkefldfaa
/-- The row, under a short name, for the claim. -/
theorem floodClimbs_holds : Rows.FloodClimbsSaid := floodClimbs.proved
#print axioms floodClimbs_holds
end Go.Proofs.Ytnibdmbkefldfaa
