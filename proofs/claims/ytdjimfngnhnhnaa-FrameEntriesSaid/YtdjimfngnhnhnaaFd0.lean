/- law33.awake as the executor has it. -/
import Derived.Test.YtdjimfngnhnhnaaFe1
import Derived.Test.YtdjimfngnhnhnaaAw
set_option linter.all false
namespace Go.Proofs.Ytdjimfngnhnhnaa.En
open Go.RowKit
set_option maxRecDepth 100000

theorem awake_x : PureX Try.prog 15 [] (B true) :=
  PureX.mk' (Entr.of Try.func15 rfl rfl) trivial trivial fun w => (awake_any w).mono fun e w' ⟨he, hw⟩ => ⟨he, hw⟩
end Go.Proofs.Ytdjimfngnhnhnaa.En
