/- The walk of FrameBoxes, and its plain laws. -/
import Derived.Test.YtkacggfadalbiaaAw
import Derived.Test.YtkacggfadalbiaaRh
import Derived.Test.YtkacggfadalbiaaBx3
namespace Go.Proofs.Ytkacggfadalbiaa
open Go.RowKit

abbrev Bx := Int × Int × Int × Int × Int × Int
def boxF (f : Fr) (b : Bx) : Bx :=
  (min (tX (f.1 % 4) b.1 b.2.1 + 64 * f.2.1) (tX (f.1 % 4) b.2.2.1 b.2.2.2.1 + 64 * f.2.1), min (tY (f.1 % 4) b.1 b.2.1 + 64 * f.2.2) (tY (f.1 % 4) b.2.2.1 b.2.2.2.1 + 64 * f.2.2),
   max (tX (f.1 % 4) b.1 b.2.1 + 64 * f.2.1) (tX (f.1 % 4) b.2.2.1 b.2.2.2.1 + 64 * f.2.1), max (tY (f.1 % 4) b.1 b.2.1 + 64 * f.2.2) (tY (f.1 % 4) b.2.2.1 b.2.2.2.1 + 64 * f.2.2),
   (b.2.2.2.2.1 + 64 * (f.1 % 4)) % 256, b.2.2.2.2.2)

def BxPost (f : Fr) (b : Bx) (w : World) (e : Ending) (w' : World) : Prop :=
  ∃ c0 c1 c2 c3 c4 c5 : Int, e = .returned (.tuple #[.agg #[.int .i64 c0, .int .i64 c1, .int .i64 c2, .int .i64 c3, .int .i64 c4, .int .i64 c5], .int .i64 0]) ∧ Hid ((c0, c1, c2, c3, c4, c5) = boxF f b) ∧ Below w.heap.size w w'

theorem bxB_in {x0 y0 x1 y1 fr ct : Int} (h1 : x0 ≤ x1) (h2 : y0 ≤ y1) (h3 : -1048576 ≤ x0) (h4 : x1 ≤ 1048576) (h5 : -1048576 ≤ y0) (h6 : y1 ≤ 1048576) (h7 : 0 ≤ fr) (h8 : fr < 256) (h9 : 1 ≤ ct) (h10 : ct < 256) : bxB x0 y0 x1 y1 fr ct = true := by
  simp [bxB, badB, szB, arcB]
  omega

theorem Box_ok (A B : Int) (fq fx fy x0 y0 x1 y1 fr ct : Int) (w : World) (h1 : -A ≤ fx) (h2 : fx ≤ A) (h3 : -A ≤ fy) (h4 : fy ≤ A) (hx : x0 ≤ x1) (hy : y0 ≤ y1) (h5 : -B ≤ x0) (h6 : x1 ≤ B) (h7 : -B ≤ y0) (h8 : y1 ≤ B)
    (h9 : 0 ≤ fr) (h10 : fr < 256) (h11 : 1 ≤ ct) (h12 : ct < 256) (hA : A ≤ 8192) (hAB : B + 64 * A ≤ 1048576) (hA0 : 0 ≤ A) :
    Calls Try.prog 40 #[.agg #[.int .i64 fq, .int .i64 fx, .int .i64 fy], .agg #[.int .i64 x0, .int .i64 y0, .int .i64 x1, .int .i64 y1, .int .i64 fr, .int .i64 ct]] w (BxPost (fq, fx, fy) (x0, y0, x1, y1, fr, ct) w) := by
  have b1 := tX_bd (fq % 4) x0 y0 B (by omega) (by omega) (by omega) (by omega)
  have b2 := tY_bd (fq % 4) x0 y0 B (by omega) (by omega) (by omega) (by omega)
  have b3 := tX_bd (fq % 4) x1 y1 B (by omega) (by omega) (by omega) (by omega)
  have b4 := tY_bd (fq % 4) x1 y1 B (by omega) (by omega) (by omega) (by omega)
  refine (Box_any fq fx fy x0 y0 x1 y1 fr ct w).mono fun e w' ⟨he, hw⟩ => ⟨_, _, _, _, _, _, ?_, Lib.hid (show _ = boxF (fq, fx, fy) (x0, y0, x1, y1, fr, ct) from rfl), hw⟩
  rw [he]
  have e1 := szB_in (n := fx) (m := 8192) (by omega) (by omega)
  have e2 := szB_in (n := fy) (m := 8192) (by omega) (by omega)
  have e3 := szB_in (n := tX (fq % 4) x0 y0 + 64 * fx) (m := 1048576) (by omega) (by omega)
  have e4 := szB_in (n := tY (fq % 4) x0 y0 + 64 * fy) (m := 1048576) (by omega) (by omega)
  have e5 := szB_in (n := tX (fq % 4) x1 y1 + 64 * fx) (m := 1048576) (by omega) (by omega)
  have e6 := szB_in (n := tY (fq % 4) x1 y1 + 64 * fy) (m := 1048576) (by omega) (by omega)
  have e7 : bxB x0 y0 x1 y1 fr ct = true := bxB_in hx hy (by omega) (by omega) (by omega) (by omega) h9 h10 h11 h12
  have e8 : ¬ ct = 256 := by omega
  simp [BoxV, e1, e2, e3, e4, e5, e6, e7, e8]

def vol6 (b : Bx) : Int := volI b.1 b.2.1 b.2.2.1 b.2.2.2.1 b.2.2.2.2.1 b.2.2.2.2.2
def has6 (b : Bx) (p : Ps) : Bool := bhB b.1 b.2.1 b.2.2.1 b.2.2.2.1 b.2.2.2.2.1 b.2.2.2.2.2 p.1 p.2.1 p.2.2

theorem vol_eq {a b c d t : Int} (h1 : a = c) (h2 : b = d) : a * b * t = c * d * t := by rw [h1, h2]
theorem vol_eq' {a b c d t : Int} (h1 : a = d) (h2 : b = c) : a * b * t = c * d * t := by rw [h1, h2, Int.mul_comm d c]
theorem boxF_ok (fq fx fy x0 y0 x1 y1 fr ct : Int) (f0 : 0 ≤ fq) (f1 : fq < 4) (h1 : -1000 ≤ fx) (h2 : fx ≤ 1000) (h3 : -1000 ≤ fy) (h4 : fy ≤ 1000) (hx : x0 ≤ x1) (hy : y0 ≤ y1) (h5 : -70000 ≤ x0) (h6 : x1 ≤ 70000) (h7 : -70000 ≤ y0) (h8 : y1 ≤ 70000)
    (_h9 : 0 ≤ fr) (_h10 : fr < 256) (h11 : 1 ≤ ct) (h12 : ct < 256) :
    bxB (boxF (fq, fx, fy) (x0, y0, x1, y1, fr, ct)).1 (boxF (fq, fx, fy) (x0, y0, x1, y1, fr, ct)).2.1 (boxF (fq, fx, fy) (x0, y0, x1, y1, fr, ct)).2.2.1 (boxF (fq, fx, fy) (x0, y0, x1, y1, fr, ct)).2.2.2.1 (boxF (fq, fx, fy) (x0, y0, x1, y1, fr, ct)).2.2.2.2.1 (boxF (fq, fx, fy) (x0, y0, x1, y1, fr, ct)).2.2.2.2.2 = true := by
  rcases turn4 f0 f1 with rfl | rfl | rfl | rfl <;> simp only [boxF, tX, tY] <;> apply bxB_in <;> (try simp) <;> omega

theorem boxes_law (fq fx fy x0 y0 x1 y1 fr ct px py ph : Int) (f0 : 0 ≤ fq) (f1 : fq < 4) (h1 : -1000 ≤ fx) (h2 : fx ≤ 1000) (h3 : -1000 ≤ fy) (h4 : fy ≤ 1000) (hx : x0 ≤ x1) (hy : y0 ≤ y1) (h5 : -70000 ≤ x0) (h6 : x1 ≤ 70000) (h7 : -70000 ≤ y0) (h8 : y1 ≤ 70000)
    (h9 : 0 ≤ fr) (h10 : fr < 256) (h11 : 1 ≤ ct) (h12 : ct < 256) :
    has6 (boxF (fq, fx, fy) (x0, y0, x1, y1, fr, ct)) (poseF (fq, fx, fy) (px, py, ph)) = bhB x0 y0 x1 y1 fr ct px py ph ∧
    has6 (boxF (fq, fx, fy) (x0, y0, x1, y1, fr, ct)) (poseF (fq, fx, fy) (x0, y1, fr)) = true ∧
    vol6 (boxF (fq, fx, fy) (x0, y0, x1, y1, fr, ct)) = volI x0 y0 x1 y1 fr ct := by
  have hb := boxF_ok fq fx fy x0 y0 x1 y1 fr ct f0 f1 h1 h2 h3 h4 hx hy h5 h6 h7 h8 h9 h10 h11 h12
  have hb0 : bxB x0 y0 x1 y1 fr ct = true := bxB_in hx hy (by omega) (by omega) (by omega) (by omega) h9 h10 h11 h12
  have a1 : arcB fr ct = true := by simp [arcB]; omega
  have a2 : arcB ((fr + 64 * (fq % 4)) % 256) ct = true := by simp [arcB]; omega
  have a3 : ∀ t : Int, ((t + 64 * (fq % 4)) % 256 - (fr + 64 * (fq % 4)) % 256) % 256 = (t - fr) % 256 := fun t => by omega
  refine ⟨?_, ?_, ?_⟩
  · unfold has6 bhB
    rw [hb, hb0, Bool.true_and, Bool.true_and]
    have hh : hasB (boxF (fq, fx, fy) (x0, y0, x1, y1, fr, ct)).2.2.2.2.1 (boxF (fq, fx, fy) (x0, y0, x1, y1, fr, ct)).2.2.2.2.2 (poseF (fq, fx, fy) (px, py, ph)).2.2 = hasB fr ct ph := by
      simp only [hasB, boxF, poseF, a1, a2, a3]
    rw [hh]
    rw [Bool.eq_iff_iff]
    simp only [Bool.and_eq_true, decide_eq_true_eq]
    rcases turn4 f0 f1 with rfl | rfl | rfl | rfl <;> simp [boxF, poseF, tX, tY] <;> omega
  · unfold has6 bhB
    rw [hb]
    have hh : hasB (boxF (fq, fx, fy) (x0, y0, x1, y1, fr, ct)).2.2.2.2.1 (boxF (fq, fx, fy) (x0, y0, x1, y1, fr, ct)).2.2.2.2.2 (poseF (fq, fx, fy) (x0, y1, fr)).2.2 = true := by
      simp only [hasB, boxF, poseF, a2, a3]
      simp
      omega
    rw [hh]
    simp only [Bool.true_and, Bool.and_true, Bool.and_eq_true, decide_eq_true_eq]
    rcases turn4 f0 f1 with rfl | rfl | rfl | rfl <;> simp [boxF, poseF, tX, tY] <;> omega
  · unfold vol6 volI
    rw [hb, hb0]
    simp only [if_true]
    rcases turn4 f0 f1 with rfl | rfl | rfl | rfl
    · simp [boxF, tX, tY]; exact vol_eq (by omega) (by omega)
    · simp [boxF, tX, tY]; exact vol_eq' (by omega) (by omega)
    · simp [boxF, tX, tY]; exact vol_eq (by omega) (by omega)
    · simp [boxF, tX, tY]; exact vol_eq' (by omega) (by omega)

end Go.Proofs.Ytkacggfadalbiaa
