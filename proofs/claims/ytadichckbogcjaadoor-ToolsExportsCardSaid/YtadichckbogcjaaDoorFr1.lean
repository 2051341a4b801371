/- Contracts of package frame: sizes, turns, composing. -/
import Derived.Test.YtadichckbogcjaaDoorCm
set_option linter.all false
namespace Go.Proofs.YtadichckbogcjaaDoor
open Go.RowKit

def szB (n m : Int) : Bool := decide (-m ≤ n ∧ n ≤ m)

def clipI (n lo hi : Int) : Int := max lo (min n hi)

def tX (q x y : Int) : Int := if q = 0 then x else if q = 1 then -y else if q = 2 then -x else y
def tY (q x y : Int) : Int := if q = 0 then y else if q = 1 then x else if q = 2 then -y else -x
theorem tX_bd (q x y B : Int) (h1 : -B ≤ x) (h2 : x ≤ B) (h3 : -B ≤ y) (h4 : y ≤ B) : -B ≤ tX q x y ∧ tX q x y ≤ B := by
  unfold tX; split <;> (try split) <;> (try split) <;> omega
theorem tY_bd (q x y B : Int) (h1 : -B ≤ x) (h2 : x ≤ B) (h3 : -B ≤ y) (h4 : y ≤ B) : -B ≤ tY q x y ∧ tY q x y ≤ B := by
  unfold tY; split <;> (try split) <;> (try split) <;> omega
theorem tXY_succ (k x y : Int) (h0 : 0 ≤ k) (h1 : k < 3) : tX (k + 1) x y = -(tY k x y) ∧ tY (k + 1) x y = tX k x y := by
  rcases (by omega : k = 0 ∨ k = 1 ∨ k = 2) with rfl | rfl | rfl <;> simp [tX, tY]

end Go.Proofs.YtadichckbogcjaaDoor
