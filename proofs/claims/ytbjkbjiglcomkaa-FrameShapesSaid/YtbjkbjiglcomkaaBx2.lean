/- Contracts of heading.Has, box.Has, box.Volume. -/
import Derived.Test.YtbjkbjiglcomkaaBx1
import Derived.Test.YtbjkbjiglcomkaaHd1
set_option linter.all false
namespace Go.Proofs.Ytbjkbjiglcomkaa
open Go.RowKit

def hasB (fr ct h : Int) : Bool := arcB fr ct && decide ((h - fr) % 256 < ct)
theorem arcB_of {fr ct : Int} (h : arcB fr ct = true) : 0 ≤ fr ∧ fr < 256 ∧ 1 ≤ ct ∧ ct ≤ 256 := by simp [arcB] at h; omega

def volI (x0 y0 x1 y1 fr ct : Int) : Int := if bxB x0 y0 x1 y1 fr ct then (x1 - x0 + 1) * (y1 - y0 + 1) * ct else 0
theorem bxB_of {x0 y0 x1 y1 fr ct : Int} (h : bxB x0 y0 x1 y1 fr ct = true) : x0 ≤ x1 ∧ y0 ≤ y1 ∧ -1048576 ≤ x0 ∧ x1 ≤ 1048576 ∧ -1048576 ≤ y0 ∧ y1 ≤ 1048576 ∧ arcB fr ct = true := by
  simp only [bxB, Bool.and_eq_true, decide_eq_true_eq] at h
  obtain ⟨⟨⟨h1, h2⟩, h3⟩, h4⟩ := h
  simp [badB, szB] at h3
  exact ⟨h1, h2, by omega, by omega, by omega, by omega, h4⟩

end Go.Proofs.Ytbjkbjiglcomkaa
