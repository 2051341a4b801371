/- Contracts of package frame: Pose. -/
import Derived.Test.YtbjkbjiglcomkaaFr4
set_option linter.all false
namespace Go.Proofs.Ytbjkbjiglcomkaa
open Go.RowKit

def PsV (fq fx fy x y h : Int) : Value :=
  if 0 ≤ h ∧ h < 256 then
    if szB fx 8192 && szB fy 8192 && (szB x 1048576 && szB y 1048576) then
      if szB (tX (fq % 4) x y + 64 * fx) 1048576 && szB (tY (fq % 4) x y + 64 * fy) 1048576 then
        .tuple #[.agg #[.int .i64 (tX (fq % 4) x y + 64 * fx), .int .i64 (tY (fq % 4) x y + 64 * fy), .int .i64 ((h + 64 * (fq % 4)) % 256)], .int .i64 0]
      else .tuple #[.agg #[.int .i64 0, .int .i64 0, .int .i64 0], .int .i64 2]
    else .tuple #[.agg #[.int .i64 0, .int .i64 0, .int .i64 0], .int .i64 1]
  else .tuple #[.agg #[.int .i64 0, .int .i64 0, .int .i64 0], .int .i64 1]

end Go.Proofs.Ytbjkbjiglcomkaa
