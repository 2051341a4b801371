/- Contracts of package frame: compose, Compose, inverse, Inverse, mapped, near, Point, Cell, heading, Pose. -/
import Derived.Test.YtdjimfngnhnhnaaFr1
set_option linter.all false
namespace Go.Proofs.Ytdjimfngnhnhnaa
open Go.RowKit

set_option maxHeartbeats 400000 in
theorem compose_any (fq fx fy gq gx gy : Int) (w : World) (h1 : -1000000000 ≤ fx) (h2 : fx ≤ 1000000000) (h3 : -1000000000 ≤ fy) (h4 : fy ≤ 1000000000)
    (h5 : -1000000000 ≤ gx) (h6 : gx ≤ 1000000000) (h7 : -1000000000 ≤ gy) (h8 : gy ≤ 1000000000) :
    Calls Try.prog 118 #[.agg #[.int .i64 fq, .int .i64 fx, .int .i64 fy], .agg #[.int .i64 gq, .int .i64 gx, .int .i64 gy]] w fun e w' =>
      e = .returned (.agg #[.int .i64 ((fq + gq) % 4), .int .i64 (tX (fq % 4) gx gy + fx), .int .i64 (tY (fq % 4) gx gy + fy)]) ∧
      ((w.alloc (.cells #[.int .i64 fq, .int .i64 fx, .int .i64 fy] 23)).alloc (.cells #[.int .i64 gq, .int .i64 gx, .int .i64 gy] 23)).alloc
        (.cells #[.int .i64 ((fq + gq) % 4), .int .i64 (tX (fq % 4) gx gy + fx), .int .i64 (tY (fq % 4) gx gy + fy)] 23) = w' := by
  have ha := and3
  obtain ⟨b1, b2⟩ := tX_bd (fq % 4) gx gy 1000000000 h5 h6 h7 h8
  obtain ⟨b3, b4⟩ := tY_bd (fq % 4) gx gy 1000000000 h5 h6 h7 h8
  go_enter Try.func118, Try.ntmps118
  go_wp2_with (go_at_call 65; refine (turned_any _ _ _ _ (by omega) (by omega) (by omega) (by omega)).mono ?_; rintro e w' ⟨rfl, rfl⟩)
  exact bodyPost_ret (v := .agg #[.int .i64 ((fq + gq) % 4), .int .i64 (tX (fq % 4) gx gy + fx), .int .i64 (tY (fq % 4) gx gy + fy)]) (by simp [results, Try.results118, go_sem]) rfl
    ⟨rfl, rfl⟩


/-- Compose: what it returns. -/
def CmpV (fq fx fy gq gx gy : Int) : Value :=
  if szB fx 8192 && szB fy 8192 && (szB gx 8192 && szB gy 8192) then
    if szB (tX (fq % 4) gx gy + fx) 8192 && szB (tY (fq % 4) gx gy + fy) 8192 then
      .tuple #[.agg #[.int .i64 ((fq + gq) % 4), .int .i64 (tX (fq % 4) gx gy + fx), .int .i64 (tY (fq % 4) gx gy + fy)], .int .i64 0]
    else .tuple #[.agg #[.int .i64 0, .int .i64 0, .int .i64 0], .int .i64 2]
  else .tuple #[.agg #[.int .i64 0, .int .i64 0, .int .i64 0], .int .i64 1]

theorem szB_of {n m : Int} (h : szB n m = true) : -m ≤ n ∧ n ≤ m := by simpa [szB] using h
theorem szB2_of {n k m : Int} (h : (szB n m && szB k m) = true) : -m ≤ n ∧ n ≤ m ∧ -m ≤ k ∧ k ≤ m := by
  simp [szB] at h; omega

end Go.Proofs.Ytdjimfngnhnhnaa
