/- A row's argument: an array of two. -/
import Derived.Test.YthdhodopmffdmaaRowB
import Derived.OpenShut
namespace Go.Proofs.Ythdhodopmffdmaa
open Go.ChangeShapes Go.WideShapes Go.ChangeAt Go.RowKit
theorem okWide_arr {P : Program} {w : World} {r : Reach} {base : Nat} {t : TypeId} {v : Value} {n : Nat} {e : TypeId} (ht : P.underlying t = some (.array n e)) (h : Value.okWide P w r base t v) : ∃ cs, v = .agg cs ∧ cs.size = P.cellsOf t := by
  simp only [Value.okWide, ht] at h
  obtain ⟨cs, h1, h2, _⟩ := h
  exact ⟨cs, h1, h2⟩
theorem opens_arr2 {P : Program} {t e : TypeId} {α : Type} {A : Rd α} (ht : P.underlying t = some (.array 2 e)) (hc : P.cellsOf e = 1) (hn : A.n = 1) (hs : P.cellsOf t = 2) (h : Opens P e A) : Opens P t (A.pair A) := fun hx => by
  obtain ⟨xs, m, _, _, hlen, hxl, hf⟩ := Go.DataW.trod_array ht hx
  match xs, hxl with
  | [x, y], _ =>
    have h0 := hf 0 (by decide)
    have h1 := hf 1 (by decide)
    obtain ⟨u, hu⟩ := h h0
    obtain ⟨v, hv⟩ := h h1
    refine ⟨(u, v), _, _, ?_, hu, hv⟩
    rw [hc, Nat.zero_mul, Nat.one_mul, List.drop_zero]
    rw [hs] at hlen
    match hlen with
    | hl => rename_i cs _ _ _ _ _ ; exact (by
        rw [List.take_of_length_le (l := List.drop 1 _) (by simp; omega), List.take_append_drop])
end Go.Proofs.Ythdhodopmffdmaa
