/- ZtpHigher: the plain law and the walk. -/
import Derived.Test.YthdhodopmffdmaaZtF
namespace Go.Proofs.Ythdhodopmffdmaa
open Go.RowKit

theorem badO_false {link level now : Int} (h1 : 0 ≤ link) (h2 : link ≤ 65535) (h3 : -1 ≤ level) (h4 : level ≤ 24) (h5 : 0 ≤ now) (h6 : now ≤ 1099511627776) : badO link level now = false := by
  unfold badO momB
  simp only [Bool.or_eq_false_iff, decide_eq_false_iff_not, Bool.not_eq_false', Bool.and_eq_true, decide_eq_true_eq]
  omega
theorem offM_new {m : Offs} {link level now : Int} (h1 : 0 ≤ link) (h2 : link ≤ 65535) (h3 : 1 ≤ level) (h4 : level ≤ 24) (h5 : 0 ≤ now) (h6 : now ≤ 1099511627776) (hg : getM m link = none) (hl : m.length < 64) :
    offM m link level false now = (0, m ++ [(link, (level, now + 4))]) := by
  rw [offM, if_neg (by rw [badO_false h1 h2 (by omega) h4 h5 h6]; simp), if_neg (by simp; omega), if_neg (by simp; omega), putM_none hg]
theorem offM_again {m : Offs} {link level now : Int} {x : Int × Int} (h1 : 0 ≤ link) (h2 : link ≤ 65535) (h3 : 1 ≤ level) (h4 : level ≤ 24) (h5 : 0 ≤ now) (h6 : now ≤ 1099511627776) (hg : getM m link = some x) :
    offM m link level false now = (0, m.map (fun p => if p.1 == link then (link, (level, now + 4)) else p)) := by
  rw [offM, if_neg (by rw [badO_false h1 h2 (by omega) h4 h5 h6]; simp), if_neg (by simp; omega), if_neg (by simp [hg]), putM_some hg]
theorem momB_true {now : Int} (h5 : 0 ≤ now) (h6 : now ≤ 1099511627776) : momB now = true := by
  unfold momB; simp; omega
theorem tickS_eq {z : Zs} {m : Offs} {now : Int} (h5 : 0 ≤ now) (h6 : now ≤ 1099511627776) : tickS z m now = (tickZ z (bestM (liveM m now)) now, liveM m now) := by
  rw [tickS, if_pos (momB_true h5 h6)]

section
set_option linter.unusedSectionVars false
variable {low high now : Int} (hl : 1 ≤ low) (hh : high ≤ 24) (hlh : low < high) (h0 : 0 ≤ now) (h1 : now ≤ 549755813888)
include hl hh hlh h0 h1
theorem hi1 : offM [] 1 low false now = (0, [(1, (low, now + 4))]) := offM_new (by decide) (by decide) hl (by omega) h0 (by omega) rfl (by simp)
theorem hi2 : tickS z0 [(1, (low, now + 4))] now = (⟨-1, false, false, low, false, 0⟩, [(1, (low, now + 4))]) := by
  have e : liveM [(1, (low, now + 4))] now = [(1, (low, now + 4))] := by simp [liveM]; omega
  have b : bestM [(1, (low, now + 4))] = low := by simp only [bestM, List.foldr_cons, List.foldr_nil]; omega
  rw [tickS_eq h0 (by omega), e, b]
  have hp : 0 < low := by omega
  simp [tickZ, z0, hp]
theorem hi3 : offM [(1, (low, now + 4))] 2 high false now = (0, [(1, (low, now + 4)), (2, (high, now + 4))]) := offM_new (by decide) (by decide) (by omega) hh h0 (by omega) (by simp [getM]) (by simp)
theorem hi4 : tickS ⟨-1, false, false, low, false, 0⟩ [(1, (low, now + 4)), (2, (high, now + 4))] (now + 1) = (⟨-1, false, false, high, false, 0⟩, [(1, (low, now + 4)), (2, (high, now + 4))]) := by
  have e : liveM [(1, (low, now + 4)), (2, (high, now + 4))] (now + 1) = [(1, (low, now + 4)), (2, (high, now + 4))] := by simp [liveM]
  have b : bestM [(1, (low, now + 4)), (2, (high, now + 4))] = high := by simp only [bestM, List.foldr_cons, List.foldr_nil]; omega
  rw [tickS_eq (by omega) (by omega), e, b]
  simp [tickZ, hlh]
theorem hi5 : offM [(1, (low, now + 4)), (2, (high, now + 4))] 3 low false (now + 1) = (0, [(1, (low, now + 4)), (2, (high, now + 4)), (3, (low, now + 1 + 4))]) := offM_new (by decide) (by decide) hl (by omega) (by omega) (by omega) (by simp [getM]) (by simp)
theorem hi6 : tickS ⟨-1, false, false, high, false, 0⟩ [(1, (low, now + 4)), (2, (high, now + 4)), (3, (low, now + 1 + 4))] (now + 2) = (⟨-1, false, false, high, false, 0⟩, [(1, (low, now + 4)), (2, (high, now + 4)), (3, (low, now + 1 + 4))]) := by
  have e : liveM [(1, (low, now + 4)), (2, (high, now + 4)), (3, (low, now + 1 + 4))] (now + 2) = [(1, (low, now + 4)), (2, (high, now + 4)), (3, (low, now + 1 + 4))] := by simp [liveM, List.filter_cons]; omega
  have b : bestM [(1, (low, now + 4)), (2, (high, now + 4)), (3, (low, now + 1 + 4))] = high := by simp only [bestM, List.foldr_cons, List.foldr_nil]; omega
  rw [tickS_eq (by omega) (by omega), e, b]
  simp [tickZ]
theorem hi7 : quietB ⟨-1, false, false, high, false, 0⟩ [(1, (low, now + 4)), (2, (high, now + 4)), (3, (low, now + 1 + 4))] 2 = true := by simp [quietB, getM, toldB]
theorem hi8 : quietB ⟨-1, false, false, high, false, 0⟩ [(1, (low, now + 4)), (2, (high, now + 4)), (3, (low, now + 1 + 4))] 1 = false := by simp [quietB, getM, toldB]; omega
theorem hi9 : quietB ⟨-1, false, false, high, false, 0⟩ [(1, (low, now + 4)), (2, (high, now + 4)), (3, (low, now + 1 + 4))] 3 = false := by simp [quietB, getM, toldB]; omega
end
theorem lev_of {t : Int} {h : Bool} {u : Int} (h0 : 0 ≤ t) (h1 : t ≤ 24) : levelI ⟨-1, false, false, t, h, u⟩ = t - 1 := levelI_own (by simp) rfl rfl h0 (by simp; omega)
end Go.Proofs.Ythdhodopmffdmaa
