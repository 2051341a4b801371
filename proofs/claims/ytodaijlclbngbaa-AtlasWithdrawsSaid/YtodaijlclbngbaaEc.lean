/- Lists of entries: the reference's Valid, base.Before, base.Entries; images of lists. -/
import Derived.Test.YtodaijlclbngbaaFe1
import Derived.Test.YtodaijlclbngbaaEv
set_option linter.all false
namespace Go.Proofs.Ytodaijlclbngbaa.En
open Go.RowKit
set_option maxRecDepth 100000

theorem rV_bad {l : List EntT} {k : Nat} (hk : k < l.length) (h : goodB (l.getD k e0) = false ∨ (k ≠ 0 ∧ befB (l.getD (k - 1) e0).cell (l.getD k e0).cell = false)) : B false = B (vE l) := by
  rw [vE_bad hk]
  rcases h with h | ⟨h1, h2⟩
  · simp only [okAt, h, Bool.false_and]
  · simp only [okAt, h2, h1, decide_false, Bool.or_self, Bool.and_false]
theorem step_ok {l : List EntT} {k : Nat} (hz : ∀ j, j < k → okAt l j = true) (h : goodB (l.getD k e0) = true ∧ (k ≠ 0 → befB (l.getD (k - 1) e0).cell (l.getD k e0).cell = true)) : ∀ j, j < k + 1 → okAt l j = true := by
  intro j hj
  by_cases e : j = k
  · subst e
    by_cases h0 : j = 0
    · simp only [okAt, h.1, h0, decide_true, Bool.true_or, Bool.and_true]
      rw [← h0]
      exact h.1
    · simp only [okAt, h.1, h.2 h0, Bool.or_true, Bool.and_self]
  · exact hz j (by omega)
theorem rV_end {l : List EntT} (h : l.length ≤ 1048576) (hz : ∀ j, j < l.length → okAt l j = true) : B true = B (vE l) := by
  rw [vE_end hz, decide_eq_true h]
end Go.Proofs.Ytodaijlclbngbaa.En
