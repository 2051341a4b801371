/- Contracts of package frame: sizes, turns, composing. -/
import Derived.Test.YtodaijlclbngbaaGreatCm
set_option linter.all false
namespace Go.Proofs.YtodaijlclbngbaaGreat
open Go.RowKit

def szB (n m : Int) : Bool := decide (-m ≤ n ∧ n ≤ m)

def clipI (n lo hi : Int) : Int := max lo (min n hi)

set_option maxHeartbeats 400000 in
theorem clip_any (n lo hi : Int) (w : World) :
    Calls Tryz.prog 80 #[.int .i64 n, .int .i64 lo, .int .i64 hi] w fun e w' => e = .returned (.int .i64 (clipI n lo hi)) ∧ w = w' := by
  by_cases h1 : hi < n
  · by_cases h2 : lo < hi
    all_goals
      have HS := Lib.hid (show clipI n lo hi = max lo hi by unfold clipI; omega)
      go_enter Tryz.func80, Tryz.ntmps80
      go_wp2
      go_ret
      exact ⟨by simp [HS.out]; omega, rfl⟩
  · by_cases h2 : lo < n
    all_goals
      have HS := Lib.hid (show clipI n lo hi = max lo n by unfold clipI; omega)
      go_enter Tryz.func80, Tryz.ntmps80
      go_wp2
      go_ret
      exact ⟨by simp [HS.out]; omega, rfl⟩

set_option maxHeartbeats 400000 in
theorem mod_any (n m : Int) (w : World) (h1 : 1 ≤ m) (h2 : m ≤ 1000000000000) :
    Calls Tryz.prog 128 #[.int .i64 n, .int .i64 m] w fun e w' => e = .returned (.int .i64 (n % m)) ∧ w = w' := by
  by_cases h3 : 0 ≤ n
  · have h4 : 0 ≤ n % m := Int.emod_nonneg _ (by omega)
    go_enter Tryz.func128, Tryz.ntmps128
    go_wp2
    go_ret
    exact ⟨by simp, rfl⟩
  · obtain ⟨k1, k2, h4, h5⟩ := tmod_neg_eq n m (by omega) h1
    by_cases h6 : n.tmod m < 0
    · have HS := Lib.hid (k1 h6)
      clear k1 k2
      go_enter Tryz.func128, Tryz.ntmps128
      go_wp2
      go_ret
      exact ⟨by simp [HS.out], rfl⟩
    · have HS := Lib.hid (k2 h6)
      clear k1 k2
      go_enter Tryz.func128, Tryz.ntmps128
      go_wp2
      go_ret
      exact ⟨by simp [HS.out], rfl⟩

def tX (q x y : Int) : Int := if q = 0 then x else if q = 1 then -y else if q = 2 then -x else y
def tY (q x y : Int) : Int := if q = 0 then y else if q = 1 then x else if q = 2 then -y else -x
theorem tX_bd (q x y B : Int) (h1 : -B ≤ x) (h2 : x ≤ B) (h3 : -B ≤ y) (h4 : y ≤ B) : -B ≤ tX q x y ∧ tX q x y ≤ B := by
  unfold tX; split <;> (try split) <;> (try split) <;> omega
theorem tY_bd (q x y B : Int) (h1 : -B ≤ x) (h2 : x ≤ B) (h3 : -B ≤ y) (h4 : y ≤ B) : -B ≤ tY q x y ∧ tY q x y ≤ B := by
  unfold tY; split <;> (try split) <;> (try split) <;> omega
theorem tXY_succ (k x y : Int) (h0 : 0 ≤ k) (h1 : k < 3) : tX (k + 1) x y = -(tY k x y) ∧ tY (k + 1) x y = tX k x y := by
  rcases (by omega : k = 0 ∨ k = 1 ∨ k = 2) with rfl | rfl | rfl <;> simp [tX, tY]

end Go.Proofs.YtodaijlclbngbaaGreat
