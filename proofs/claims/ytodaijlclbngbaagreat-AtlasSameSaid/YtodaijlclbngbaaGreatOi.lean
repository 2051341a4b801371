/- evidence.Value, Occupied; law15.awake. -/
import Derived.Test.YtodaijlclbngbaaGreatOg
import Derived.Test.YtodaijlclbngbaaGreatEc
set_option linter.all false
namespace Go.Proofs.YtodaijlclbngbaaGreat.En
open Go.RowKit
set_option maxRecDepth 100000

def valueF (e : EntT) : Int := if 0 < e.2.2.1 ∧ countB e = true then 255 * e.2.2.1 / (e.2.2.1 + max e.2.2.2 0) else 0
theorem countB_bd {e : EntT} (h : countB e = true) : -1099511627776 ≤ e.2.2.1 ∧ e.2.2.1 ≤ 1099511627776 ∧ -1099511627776 ≤ e.2.2.2 ∧ e.2.2.2 ≤ 1099511627776 := by
  simp only [countB, szB, Bool.and_eq_true, decide_eq_true_eq] at h
  omega
theorem value_bd (e : EntT) : 0 ≤ valueF e ∧ valueF e ≤ 255 := by
  unfold valueF
  split
  · rename_i h
    constructor
    · exact Int.ediv_nonneg (by omega) (by omega)
    · have : 255 * e.2.2.1 / (e.2.2.1 + max e.2.2.2 0) < 256 := Int.ediv_lt_of_lt_mul (by omega) (by omega)
      omega
  · omega
theorem of_awake : ofL (32, 32, 0) [(0, 96)] = [(0, 0, 0, 1), (1, 0, 1, 0), (2, 0, 1, 0)] := by decide +kernel
theorem isOf_awake {ys : List EntT} (h : IsOf (32, 32, 0) [(0, 96)] ys) : ys = [(0, 0, 0, 1), (1, 0, 1, 0), (2, 0, 1, 0)] := by
  unfold IsOf at h
  rw [if_pos (by decide +kernel), of_awake] at h
  refine h.unique ⟨?_, ?_⟩
  · simp [zeroE]
  · unfold asc
    decide +kernel

theorem Entries_t (A1 A2 : Option Addr) (c1 c2 : Nat) (xs ys : List EntT) {n m : Nat} (hx : xs.length = n) (hy : ys.length = m) (he : xs = ys) (h1 : n ≤ 1000000000) (h2 : m ≤ 1000000000) :
    CallW Tryz.prog 17 [.v (.slice A1 n c1), .v (.slice A2 m c2)] (fun w => ArgSl w A1 n 4 (xs.map encE) ∧ ArgSl w A2 m 4 (ys.map encE)) (B true) := by
  have := Entries_w A1 A2 c1 c2 xs ys hx hy h1 h2
  rwa [decide_eq_true he] at this
def want15 : List EntT := [(0, 0, 0, 1), (1, 0, 1, 0), (2, 0, 1, 0)]
end Go.Proofs.YtodaijlclbngbaaGreat.En
