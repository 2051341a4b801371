/- frame.Box as the executor has it; awake. -/
import Derived.Test.YtbjkbjiglcomkaaFc
import Derived.Test.YtbjkbjiglcomkaaBx3
import Derived.Test.YtbjkbjiglcomkaaAw
set_option linter.all false
namespace Go.Proofs.Ytbjkbjiglcomkaa.En
open Go.RowKit
set_option maxRecDepth 100000

theorem bxB_eq (x0 y0 x1 y1 fr ct : Int) : bxB x0 y0 x1 y1 fr ct = boxR x0 y0 x1 y1 fr ct := by
  rw [Bool.eq_iff_iff, boxR_iff, arcR_iff]
  simp [bxB, badB, szB, arcB]
  omega
theorem BoxV_eq (f : FrT) (b : BoxT) : BoxV f.1 f.2.1 f.2.2 b.1 b.2.1 b.2.2.1 b.2.2.2.1 b.2.2.2.2.1 b.2.2.2.2.2 = .tuple #[.agg #[.int .i64 (boxO f b).1.1, .int .i64 (boxO f b).1.2.1, .int .i64 (boxO f b).1.2.2.1, .int .i64 (boxO f b).1.2.2.2.1, .int .i64 (boxO f b).1.2.2.2.2.1, .int .i64 (boxO f b).1.2.2.2.2.2], .int .i64 (boxO f b).2] := by
  unfold BoxV boxO
  rw [bxB_eq]
  cases h : (szB f.2.1 8192 && szB f.2.2 8192 && boxR b.1 b.2.1 b.2.2.1 b.2.2.2.1 b.2.2.2.2.1 b.2.2.2.2.2) with
  | false =>
    have h' : (szB f.2.1 8192 && szB f.2.2 8192 && boxB b) = false := h
    simp only [h', Bool.false_eq_true, if_false]
  | true =>
    have h' : (szB f.2.1 8192 && szB f.2.2 8192 && boxB b) = true := h
    simp only [h', if_true]
    simp only [Bool.and_eq_true] at h
    obtain ⟨⟨k1, k2⟩, k3⟩ := h
    rw [boxR_iff, arcR_iff] at k3
    have hc : (szB (tX (f.1 % 4) b.1 b.2.1 + 64 * f.2.1) 1048576 && szB (tY (f.1 % 4) b.1 b.2.1 + 64 * f.2.2) 1048576 && (szB (tX (f.1 % 4) b.2.2.1 b.2.2.2.1 + 64 * f.2.1) 1048576 && szB (tY (f.1 % 4) b.2.2.1 b.2.2.2.1 + 64 * f.2.2) 1048576)) = boxB (boxI f b) := by
      rw [Bool.eq_iff_iff, boxB, boxR_iff, arcR_iff]
      simp only [boxI, szB, Bool.and_eq_true, decide_eq_true_eq]
      have : 0 ≤ (if b.2.2.2.2.2 = 256 then 0 else (b.2.2.2.2.1 + 64 * (f.1 % 4)) % 256) ∧ (if b.2.2.2.2.2 = 256 then 0 else (b.2.2.2.2.1 + 64 * (f.1 % 4)) % 256) < 256 ∧ (b.2.2.2.2.2 < 256 ∨ (if b.2.2.2.2.2 = 256 then 0 else (b.2.2.2.2.1 + 64 * (f.1 % 4)) % 256) = 0) := by
        split <;> omega
      omega
    rw [hc]
    cases boxB (boxI f b) with
    | false => simp only [Bool.false_eq_true, if_false]
    | true =>
      simp only [if_true, boxI]
      have e1 : ∀ a c k : Int, min (a + k) (c + k) = min a c + k := by omega
      have e2 : ∀ a c k : Int, max (a + k) (c + k) = max a c + k := by omega
      simp only [e1, e2]
theorem Box_x (f : FrT) (b : BoxT) : PureX Try.prog 16 [.a [I f.1, I f.2.1, I f.2.2], .a [I b.1, I b.2.1, I b.2.2.1, I b.2.2.2.1, I b.2.2.2.2.1, I b.2.2.2.2.2]] (.t [.a [I (boxO f b).1.1, I (boxO f b).1.2.1, I (boxO f b).1.2.2.1, I (boxO f b).1.2.2.2.1, I (boxO f b).1.2.2.2.2.1, I (boxO f b).1.2.2.2.2.2], I (boxO f b).2]) :=
  PureX.mk' (Entr.of Try.func16 rfl rfl) (by simp [SV.wf, SV.wfs]) (by simp [SV.wf, SV.wfs]) fun w => (Box_any f.1 f.2.1 f.2.2 b.1 b.2.1 b.2.2.1 b.2.2.2.1 b.2.2.2.2.1 b.2.2.2.2.2 w).mono fun e w' ⟨he, hw⟩ => ⟨he.trans (congrArg Ending.returned (BoxV_eq f b)), hw⟩
theorem awake_x : PureX Try.prog 15 [] (B true) :=
  PureX.mk' (Entr.of Try.func15 rfl rfl) trivial trivial fun w => (awake_any w).mono fun e w' ⟨he, hw⟩ => ⟨he, hw⟩
end Go.Proofs.Ytbjkbjiglcomkaa.En
