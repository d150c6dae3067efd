/- LpmLongest: called with any room, steps and address the law returns true. No condition. -/
import Derived.Test.YtkofjejdgdhapaaRows
import Derived.Test.YtkofjejdgdhapaaRowB
import Derived.Test.YtkofjejdgdhapaaLsG
namespace Go.Proofs.Ytkofjejdgdhapaa.lpmLongest
open Go.ChangeShapes Go.WideShapes Go.ChangeAt Go.RowKit
open Go.ChangeMaps (open_string shut_string)
theorem own : ownKnob Try.prog.godebug = none := by kernel_rfl
theorem laidOut : laidOutB Try.prog = true := by kernel_rfl
set_option maxRecDepth 100000 in
theorem lifted (os : Os) (started : os.Started) (H : Type) (enc : TypeId × Value → H) :
    ReturnsInHanded {} Try.checked os 7 .any (Rows.lpmLongestSpec.pre6 enc Try.prog Try.f7 Rows.lpmLongestRow.domain false) (Rows.lpmLongestSpec.post enc Try.prog Try.f7 false true false false) := by
  refine returnsInHanded_of_change_sized (C := Try.checked) own started (by kernel_rfl) Try.func7
    (ChangeSpec.witness6 (enc := enc) (C := Try.checked) false ⟨#[], #[.int .i64 0, .slice none 0 0, .int .u32 0], []⟩ 8 (by kernel_rfl) (by kernel_rfl) (by kernel_rfl) (by kernel_rfl)) ?_
  intro W base args ds gs before hval0 hW _ _ _
  have hval : ∀ (j : Nat) t v, Try.f7.params[j]? = some t → args[j]? = some v → Value.okWide Try.prog W .any base t v := hval0
  have hW' := hW
  obtain ⟨p, q, hA0, hV, rfl, _, _⟩ := hW
  have hA : DataW.TrodAll enc Try.prog W 0 (fun _ => true) true Try.f7.params.toList args.toList ds p := hA0
  rw [Try.params7] at hA hval
  obtain ⟨v0, vs0, d0, ds0, p0, q0, hargs, rfl, rfl, h0, y0⟩ := trodAll_cons hA
  obtain ⟨v1, vs1, d1, ds1, p1, q1, rfl, rfl, rfl, h1, y1⟩ := trodAll_cons y0
  obtain ⟨v2, vs2, d2, ds2, p2, q2, rfl, rfl, rfl, h2, y2⟩ := trodAll_cons y1
  obtain ⟨rfl, rfl, rfl⟩ := trodAll_nil y2
  obtain rfl : args = #[v0, v1, v2] := by cases args; simp_all
  obtain ⟨rfl, rfl⟩ := trodVars_none hV
  obtain ⟨x0, rfl, rfl, rfl, r0⟩ := open_int Try.underlying3 (hval 0 3 v0 rfl rfl) h0
  have k1 := h1
  have lt1 : ∀ x ∈ p1, x.block < W.heap.size := by obtain ⟨m, hm⟩ := k1; exact DataW.trod_lt m _ _ _ hm
  obtain ⟨x1, r1⟩ := arg_of opens_stps h1
  obtain rfl := slice_arg (okWide_slice Try.underlying22 (hval 1 22 v1 rfl rfl)) r1
  obtain ⟨x2, rfl, rfl, rfl, r2⟩ := open_int Try.underlying23 (hval 2 23 v2 rfl rfl) h2
  clear hA0 hval0
  refine (longest_law x0 x1.a x1.cap x1.l x2 W r1.2.2.2 (Nat.le_trans r1.2.1 r1.2.2.1) r2).mono fun e W' ⟨he, bel⟩ => ?_
  subst he
  exact ⟨_, rfl, _, _, _, [], _, [], hW', trodAll_mk1 (shut_bool Try.underlying4 _), (trodAll_cons_mk (shut_int Try.underlying3 r0) (trodAll_cons_mk (Below.trod laidOut (by kernel_rfl) (of_decide_eq_true (by kernel_rfl)) k1 bel lt1) (trodAll_cons_mk (shut_int Try.underlying23 r2) trodAll_mk0))), rfl, bel.frame _, fun h => by cases h⟩
theorem over : Rows.lpmLongestRow.holds Try.pinned (OpenSpec.ofChange Rows.lpmLongestSpec) :=
  OpenClaim.holds_of_wide 7 Try.f7 rfl rfl rfl rfl rfl rfl rfl ⟨rfl, rfl, rfl, rfl, rfl⟩ rfl rfl rfl rfl rfl (by kernel_rfl) Try.func7 (by kernel_rfl)
    (of_decide_eq_true (by kernel_rfl)) (by unfold Func.isWrapper; first | (rw [if_pos (by decide +kernel)]; kernel_rfl) | (rw [if_neg (by decide +kernel)]; exact ⟨rfl, rfl⟩))
    (fun os started H enc _ => lifted os started H enc)
theorem proved : Rows.LpmLongestSaid := over
end Go.Proofs.Ytkofjejdgdhapaa.lpmLongest
namespace Go.Proofs.Ytkofjejdgdhapaa
/-- The row, under a short name, for the claim. -/
theorem lpmLongest_holds : Rows.LpmLongestSaid := lpmLongest.proved
#print axioms lpmLongest_holds
end Go.Proofs.Ytkofjejdgdhapaa
