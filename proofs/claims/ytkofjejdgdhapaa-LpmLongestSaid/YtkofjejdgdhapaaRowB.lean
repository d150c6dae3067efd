/- Arguments of a row, from the readings: small facts. -/
import Derived.Test.YtkofjejdgdhapaaBase
import Derived.ProofKit
import Derived.ChangeOld
import Derived.SizedLaws
namespace Go.Proofs.Ytkofjejdgdhapaa
open Go.ChangeShapes Go.WideShapes Go.ChangeAt Go.RowKit
theorem slice_arg {α : Type} {A : Rd α} {v : Value} {w : World} {x : Sl α} (hv : ∃ a l c, v = .slice a l c) (h : (Rd.slice A).R w v.cells.toList x) : v = .slice x.a x.l.length x.cap := by
  obtain ⟨a, l, c, rfl⟩ := hv
  have := h.1
  simpa [Value.cells] using this
theorem agg_arg {v u : Value} (hv : ∃ cs, v = .agg cs) (h : Value.agg v.cells.toList.toArray = u) : v = u := by
  obtain ⟨cs, rfl⟩ := hv
  simpa [Value.cells] using h
end Go.Proofs.Ytkofjejdgdhapaa
