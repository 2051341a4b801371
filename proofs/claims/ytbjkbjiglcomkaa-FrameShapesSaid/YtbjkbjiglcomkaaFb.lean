/- Boxes by the executor: base.Arc, base.Box, the reference's Box. -/
import Derived.Test.YtbjkbjiglcomkaaFe1
set_option linter.all false
namespace Go.Proofs.Ytbjkbjiglcomkaa.En
open Go.RowKit
set_option maxRecDepth 100000

/-- an arc, as the reference has it -/
def arcR (fr ct : Int) : Bool := decide (fr ≥ 0) && decide (fr < 256) && decide (ct ≥ 1) && decide (ct ≤ 256) && (decide (ct < 256) || decide (fr = 0))
def boxR (x0 y0 x1 y1 fr ct : Int) : Bool := decide (x0 ≥ -1048576) && decide (x0 ≤ x1) && decide (x1 ≤ 1048576) && decide (y0 ≥ -1048576) && decide (y0 ≤ y1) && decide (y1 ≤ 1048576) && arcR fr ct
theorem arcR_iff (fr ct : Int) : arcR fr ct = true ↔ 0 ≤ fr ∧ fr < 256 ∧ 1 ≤ ct ∧ ct ≤ 256 ∧ (ct < 256 ∨ fr = 0) := by
  simp only [arcR, Bool.and_eq_true, Bool.or_eq_true, decide_eq_true_eq, ge_iff_le]
  omega
theorem boxR_iff (x0 y0 x1 y1 fr ct : Int) : boxR x0 y0 x1 y1 fr ct = true ↔ -1048576 ≤ x0 ∧ x0 ≤ x1 ∧ x1 ≤ 1048576 ∧ -1048576 ≤ y0 ∧ y0 ≤ y1 ∧ y1 ≤ 1048576 ∧ arcR fr ct = true := by
  simp only [boxR, Bool.and_eq_true, decide_eq_true_eq, ge_iff_le, and_assoc]
theorem Arc_x (fr ct : Int) : PureX Try.prog 103 [.a [I fr, I ct]] (B (arcR fr ct)) := by
  refine PureX.of Try.func103 rfl tabOk rfl rfl rfl (by simp [SV.wfs, SV.wf]) (by simp [SV.wfs, SV.wf]) fun w => ?_
  (conv => whnf); repeat' (first | ((with_reducible refine isO ?_); first | ((refine OpX_build0 tabOk rfl rfl rfl ?_); intro bN; conv => whnf) | ((refine OpX_build tabOk rfl rfl rfl rfl rfl ?_); intro bN; conv => whnf)) | ((with_reducible refine isW ?_); first | ((with_reducible refine xwr_ok (by omega) (by omega) ?_); conv => whnf) | ((with_reducible refine xwr_raw ?_); conv => whnf)) | ((with_reducible refine isQ ?_); first | ((with_reducible refine xquo_nn (by omega) (by omega) (by omega) ?_); conv => whnf) | ((with_reducible refine xquo_ok (by omega) (by omega) (by omega) ?_); conv => whnf) | ((with_reducible refine xquo_raw (by omega) ?_); conv => whnf)) | ((with_reducible refine isR ?_); first | ((with_reducible refine xrem_nn (by omega) (by omega) ?_); conv => whnf) | ((with_reducible refine xrem_raw (by omega) ?_); conv => whnf)) | ((with_reducible refine need_i ?_ ?_) <;> first | omega | (conv => whnf)) | ((refine DrawX_s tabOk folOk ?_); conv => whnf) | ((refine DrawS_i (by kernel_rfl) ?_); conv => whnf) | ((with_reducible refine andX_i ?_ ?_) <;> (conv => whnf)) | (with_reducible exact rfl) | ((with_reducible refine xif_kt (by with_reducible assumption) ?_); conv => whnf) | ((with_reducible refine xif_kf (by with_reducible assumption) ?_); conv => whnf) | (((with_reducible refine xif_s ?_ ?_) <;> (intro hb; (try simp (disch := omega) only [wr, ge_dec, gt_dec, decide_eq_true_eq, decide_eq_false_iff_not, beq_iff_eq, bne_iff_ne, beq_eq_false_iff_ne, bne_eq_false_iff_eq, Bool.not_eq_true', Bool.not_eq_false', Bool.and_eq_true, Bool.or_eq_true, Bool.not_not, ne_eq, Decidable.not_not, Int.not_le, Int.not_lt, Int.toNat_natCast, not_true_eq_false, eq_self, Bool.not_true, Bool.not_false, Bool.true_eq_false, Bool.false_eq_true] at hb))) <;> (conv => whnf)))
  all_goals refine Fin_pure rfl ?_ trivial
  all_goals refine congrArg (fun b => SV.v (Value.bool b)) ?_
  all_goals rw [Bool.eq_iff_iff, arcR_iff]
  all_goals try simp only [decide_eq_true_eq, beq_iff_eq, Bool.false_eq_true, true_iff, false_iff]
  all_goals first | omega | trace_state
theorem rBoxV_x (x0 y0 x1 y1 fr ct : Int) : PureX Try.prog 63 [.a [I x0, I y0, I x1, I y1, I fr, I ct]] (B (boxR x0 y0 x1 y1 fr ct)) := by
  refine PureX.of Try.func63 rfl tabOk rfl rfl rfl (by simp [SV.wfs, SV.wf]) (by simp [SV.wfs, SV.wf]) fun w => ?_
  (conv => whnf); repeat' (first | ((with_reducible refine isC ?_); first | ((with_reducible refine CallX_pure (Arc_x _ _) ?_) <;> first | omega | (with_reducible show (_ : Int) ≤ _) | (with_reducible show (_ : Int) < _) | (with_reducible show (_ : Nat) ≤ _) | (with_reducible show (_ : Nat) < _) | (conv => whnf))) | ((with_reducible refine isO ?_); first | ((refine OpX_build0 tabOk rfl rfl rfl ?_); intro bN; conv => whnf) | ((refine OpX_build tabOk rfl rfl rfl rfl rfl ?_); intro bN; conv => whnf)) | ((with_reducible refine isW ?_); first | ((with_reducible refine xwr_ok (by omega) (by omega) ?_); conv => whnf) | ((with_reducible refine xwr_raw ?_); conv => whnf)) | ((with_reducible refine isQ ?_); first | ((with_reducible refine xquo_nn (by omega) (by omega) (by omega) ?_); conv => whnf) | ((with_reducible refine xquo_ok (by omega) (by omega) (by omega) ?_); conv => whnf) | ((with_reducible refine xquo_raw (by omega) ?_); conv => whnf)) | ((with_reducible refine isR ?_); first | ((with_reducible refine xrem_nn (by omega) (by omega) ?_); conv => whnf) | ((with_reducible refine xrem_raw (by omega) ?_); conv => whnf)) | ((with_reducible refine need_i ?_ ?_) <;> first | omega | (conv => whnf)) | ((refine DrawX_s tabOk folOk ?_); conv => whnf) | ((refine DrawS_i (by kernel_rfl) ?_); conv => whnf) | ((with_reducible refine andX_i ?_ ?_) <;> (conv => whnf)) | (with_reducible exact rfl) | ((with_reducible refine xif_kt (by with_reducible assumption) ?_); conv => whnf) | ((with_reducible refine xif_kf (by with_reducible assumption) ?_); conv => whnf) | (((with_reducible refine xif_s ?_ ?_) <;> (intro hb; (try simp (disch := omega) only [wr, ge_dec, gt_dec, decide_eq_true_eq, decide_eq_false_iff_not, beq_iff_eq, bne_iff_ne, beq_eq_false_iff_ne, bne_eq_false_iff_eq, Bool.not_eq_true', Bool.not_eq_false', Bool.and_eq_true, Bool.or_eq_true, Bool.not_not, ne_eq, Decidable.not_not, Int.not_le, Int.not_lt, Int.toNat_natCast, not_true_eq_false, eq_self, Bool.not_true, Bool.not_false, Bool.true_eq_false, Bool.false_eq_true] at hb))) <;> (conv => whnf)))
  all_goals refine Fin_pure rfl ?_ trivial
  all_goals refine congrArg (fun b => SV.v (Value.bool b)) ?_
  all_goals rw [Bool.eq_iff_iff, boxR_iff]
  all_goals try simp only [decide_eq_true_eq, beq_iff_eq, Bool.false_eq_true, true_iff, false_iff]
  all_goals first | omega | (constructor <;> intro h <;> simp_all; done) | trace_state
end Go.Proofs.Ytbjkbjiglcomkaa.En
