/- frame.Entries by the executor: the walk. -/
import Derived.Test.YtodaijlclbngbaaFs
set_option linter.all false
namespace Go.Proofs.Ytodaijlclbngbaa.En
open Go.RowKit Go.Sort
set_option maxRecDepth 100000

abbrev OutT (f : FrT) (l : List EntT) := {p : Option Addr × Nat × List EntT // IsOut f l p.2.2}
theorem IsOut_bad {f : FrT} {l : List EntT} (h : codeF f l ≠ 0) : IsOut f l [] := by
  unfold IsOut
  rw [if_neg h]
theorem CallX_args {C : Ctx} {f : FuncId} {args : List SV} (args' : List SV) {ob : List OB} {k : SV → List OB → Prop} (he : ∀ σ, SV.vals σ args = SV.vals σ args') (h : CallX C f args' ob k) : CallX C f args ob k := by
  unfold CallX at *
  refine ⟨h.1, fun σ fp w hm => ?_⟩
  rw [he σ]
  exact h.2 σ fp w hm
end Go.Proofs.Ytodaijlclbngbaa.En
