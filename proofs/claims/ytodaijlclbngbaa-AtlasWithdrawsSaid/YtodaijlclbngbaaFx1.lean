/- Contracts of package frame by the executor. -/
import Derived.Test.YtodaijlclbngbaaBs0
import Derived.Test.YtodaijlclbngbaaFr1
set_option linter.all false
namespace Go.Proofs.Ytodaijlclbngbaa.En
open Go.RowKit
set_option maxRecDepth 100000

end Go.Proofs.Ytodaijlclbngbaa.En
