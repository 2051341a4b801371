/- law33.near and frame.Inverse as the executor has them. -/
import Derived.Test.YtdjimfngnhnhnaaFo
set_option linter.all false
namespace Go.Proofs.Ytdjimfngnhnhnaa.En
open Go.RowKit
set_option maxRecDepth 100000

def invF (f : FrT) : FrT := ((-f.1) % 4, tX ((-f.1) % 4) (-f.2.1) (-f.2.2), tY ((-f.1) % 4) (-f.2.1) (-f.2.2))
/-- frame.Inverse of a frame that is valid -/
theorem Inverse_x (f : FrT) (h1 : szB f.2.1 8192 = true) (h2 : szB f.2.2 8192 = true) : PureX Try.prog 22 [.a [I f.1, I f.2.1, I f.2.2]] (.t [.a [I (invF f).1, I (invF f).2.1, I (invF f).2.2], I 0]) :=
  PureX.mk' (Entr.of Try.func22 rfl rfl) (by simp [SV.wf, SV.wfs]) (by simp [SV.wf, SV.wfs]) fun w => (Inverse_any f.1 f.2.1 f.2.2 w).mono fun e w' ⟨he, hw⟩ => ⟨he.trans (congrArg Ending.returned (by
    unfold InvV
    rw [if_pos (by rw [h1, h2]; rfl)]
    rfl)), hw⟩
def nearE (f : FrT) (m : Int) : FrT := (f.1 % 4, clipI f.2.1 (-m) m, clipI f.2.2 (-m) m)
theorem near_x (f : FrT) (m : Int) (h0 : 0 ≤ m) (h1 : m ≤ 100000) : PureX Try.prog 16 [.a [I f.1, I f.2.1, I f.2.2], I m] (.a [I (nearE f m).1, I (nearE f m).2.1, I (nearE f m).2.2]) := by
  refine PureX.of Try.func16 rfl tabOk rfl rfl rfl (by simp [SV.wfs, SV.wf]) (by simp [SV.wfs, SV.wf]) fun w => ?_
  (conv => whnf); repeat' (first | ((with_reducible refine isC ?_); first | ((with_reducible refine CallX_pure (mod_x _ _ ?_ ?_) ?_) <;> first | omega | (with_reducible show (_ : Int) ≤ _) | (with_reducible show (_ : Int) < _) | (with_reducible show (_ : Nat) ≤ _) | (with_reducible show (_ : Nat) < _) | (conv => whnf)) | ((with_reducible refine CallX_pure (Clip_x _ _ _) ?_) <;> first | omega | (with_reducible show (_ : Int) ≤ _) | (with_reducible show (_ : Int) < _) | (with_reducible show (_ : Nat) ≤ _) | (with_reducible show (_ : Nat) < _) | (conv => whnf))) | ((with_reducible refine isO ?_); first | ((refine OpX_build0 tabOk rfl rfl rfl ?_); intro bN; conv => whnf) | ((refine OpX_build tabOk rfl rfl rfl rfl rfl ?_); intro bN; conv => whnf)) | ((with_reducible refine isW ?_); first | ((with_reducible refine xwr_ok (by omega) (by omega) ?_); conv => whnf) | ((with_reducible refine xwr_raw ?_); conv => whnf)) | ((with_reducible refine isQ ?_); first | ((with_reducible refine xquo_nn (by omega) (by omega) (by omega) ?_); conv => whnf) | ((with_reducible refine xquo_ok (by omega) (by omega) (by omega) ?_); conv => whnf) | ((with_reducible refine xquo_raw (by omega) ?_); conv => whnf)) | ((with_reducible refine isR ?_); first | ((with_reducible refine xrem_nn (by omega) (by omega) ?_); conv => whnf) | ((with_reducible refine xrem_raw (by omega) ?_); conv => whnf)) | ((with_reducible refine isS ?_); first | ((with_reducible refine xshr_1 ?_); conv => whnf)) | ((with_reducible refine isK ?_); first | ((with_reducible refine xcv_i64 (by omega) (by omega) ?_); conv => whnf) | ((with_reducible refine xcv_u64 (by omega) (by omega) ?_); conv => whnf) | ((with_reducible refine xcv_u8 (by omega) (by omega) ?_); conv => whnf) | ((with_reducible refine xcv_raw ?_); conv => whnf)) | ((with_reducible refine need_i ?_ ?_) <;> first | omega | (conv => whnf)) | ((refine DrawX_s tabOk folOk ?_); conv => whnf) | ((refine DrawS_i (by kernel_rfl) ?_); conv => whnf) | ((with_reducible refine andX_i ?_ ?_) <;> (conv => whnf)) | (with_reducible exact rfl) | ((with_reducible refine xif_kt (by with_reducible assumption) ?_); conv => whnf) | ((with_reducible refine xif_kf (by with_reducible assumption) ?_); conv => whnf) | (((with_reducible refine xif_s ?_ ?_) <;> (intro hb; (try simp (disch := omega) only [wr, ge_dec, gt_dec, decide_eq_true_eq, decide_eq_false_iff_not, beq_iff_eq, bne_iff_ne, beq_eq_false_iff_ne, bne_eq_false_iff_eq, Bool.not_eq_true', Bool.not_eq_false', Bool.and_eq_true, Bool.or_eq_true, Bool.not_not, ne_eq, Decidable.not_not, Int.not_le, Int.not_lt, Int.toNat_natCast, not_true_eq_false, eq_self, Bool.not_true, Bool.not_false, Bool.true_eq_false, Bool.false_eq_true] at hb))) <;> (conv => whnf)))
  rw [show (0 - m : Int) = -m by omega]
  exact Fin_pure rfl rfl (by simp [SV.wf, SV.wfs])
end Go.Proofs.Ytdjimfngnhnhnaa.En
