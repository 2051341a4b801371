/- The reference's Box by the executor. -/
import Derived.Test.YtbjkbjiglcomkaaFb
set_option linter.all false
namespace Go.Proofs.Ytbjkbjiglcomkaa.En
open Go.RowKit
set_option maxRecDepth 100000

abbrev BoxT := Int × Int × Int × Int × Int × Int
/-- a box's image before its bounds are looked at -/
def boxI (f : FrT) (b : BoxT) : BoxT :=
  (min (tX (f.1 % 4) b.1 b.2.1) (tX (f.1 % 4) b.2.2.1 b.2.2.2.1) + 64 * f.2.1, min (tY (f.1 % 4) b.1 b.2.1) (tY (f.1 % 4) b.2.2.1 b.2.2.2.1) + 64 * f.2.2,
   max (tX (f.1 % 4) b.1 b.2.1) (tX (f.1 % 4) b.2.2.1 b.2.2.2.1) + 64 * f.2.1, max (tY (f.1 % 4) b.1 b.2.1) (tY (f.1 % 4) b.2.2.1 b.2.2.2.1) + 64 * f.2.2,
   if b.2.2.2.2.2 = 256 then 0 else (b.2.2.2.2.1 + 64 * (f.1 % 4)) % 256, b.2.2.2.2.2)
def boxB (b : BoxT) : Bool := boxR b.1 b.2.1 b.2.2.1 b.2.2.2.1 b.2.2.2.2.1 b.2.2.2.2.2
def boxO (f : FrT) (b : BoxT) : BoxT × Int :=
  if szB f.2.1 8192 && szB f.2.2 8192 && boxB b then
    if boxB (boxI f b) then (boxI f b, 0) else ((0, 0, 0, 0, 0, 0), 2)
  else ((0, 0, 0, 0, 0, 0), 1)
def boxS (b : BoxT) : SV := .a [I b.1, I b.2.1, I b.2.2.1, I b.2.2.2.1, I b.2.2.2.2.1, I b.2.2.2.2.2]
theorem rBox_x (f : FrT) (b : BoxT) : PureX Try.prog 17 [.a [I f.1, I f.2.1, I f.2.2], .a [I b.1, I b.2.1, I b.2.2.1, I b.2.2.2.1, I b.2.2.2.2.1, I b.2.2.2.2.2]] (.t [.a [I (boxO f b).1.1, I (boxO f b).1.2.1, I (boxO f b).1.2.2.1, I (boxO f b).1.2.2.2.1, I (boxO f b).1.2.2.2.2.1, I (boxO f b).1.2.2.2.2.2], I (boxO f b).2]) := by
  cases h : (szB f.2.1 8192 && szB f.2.2 8192 && boxB b) with
  | false =>
    have e : boxO f b = ((0, 0, 0, 0, 0, 0), 1) := by simp [boxO, h]
    rw [e]
    unfold boxB at h
    refine PureX.of Try.func17 rfl tabOk rfl rfl rfl (by simp [SV.wfs, SV.wf]) (by simp [SV.wfs, SV.wf]) fun w => ?_
    (conv => whnf); repeat' (first | ((with_reducible refine isC ?_); first | ((with_reducible refine CallX_pure (rValid_x _ _ _) ?_) <;> first | omega | (with_reducible show (_ : Int) ≤ _) | (with_reducible show (_ : Int) < _) | (with_reducible show (_ : Nat) ≤ _) | (with_reducible show (_ : Nat) < _) | (conv => whnf)) | ((with_reducible refine CallX_pure (rBoxV_x _ _ _ _ _ _) ?_) <;> first | omega | (with_reducible show (_ : Int) ≤ _) | (with_reducible show (_ : Int) < _) | (with_reducible show (_ : Nat) ≤ _) | (with_reducible show (_ : Nat) < _) | (conv => whnf)) | ((with_reducible refine CallX_pure (turn_x _ _ _ ?_ ?_) ?_) <;> first | omega | (with_reducible show (_ : Int) ≤ _) | (with_reducible show (_ : Int) < _) | (with_reducible show (_ : Nat) ≤ _) | (with_reducible show (_ : Nat) < _) | (conv => whnf)) | ((with_reducible refine CallX_pure (mod_x _ _ ?_ ?_) ?_) <;> first | omega | (with_reducible show (_ : Int) ≤ _) | (with_reducible show (_ : Int) < _) | (with_reducible show (_ : Nat) ≤ _) | (with_reducible show (_ : Nat) < _) | (conv => whnf))) | ((with_reducible refine isO ?_); first | ((refine OpX_build0 tabOk rfl rfl rfl ?_); intro bN; conv => whnf) | ((refine OpX_build tabOk rfl rfl rfl rfl rfl ?_); intro bN; conv => whnf)) | ((with_reducible refine isW ?_); first | ((with_reducible refine xwr_ok (by omega) (by omega) ?_); conv => whnf) | ((with_reducible refine xwr_raw ?_); conv => whnf)) | ((with_reducible refine isQ ?_); first | ((with_reducible refine xquo_nn (by omega) (by omega) (by omega) ?_); conv => whnf) | ((with_reducible refine xquo_ok (by omega) (by omega) (by omega) ?_); conv => whnf) | ((with_reducible refine xquo_raw (by omega) ?_); conv => whnf)) | ((with_reducible refine isR ?_); first | ((with_reducible refine xrem_nn (by omega) (by omega) ?_); conv => whnf) | ((with_reducible refine xrem_raw (by omega) ?_); conv => whnf)) | ((with_reducible refine need_i ?_ ?_) <;> first | omega | (conv => whnf)) | ((refine DrawX_s tabOk folOk ?_); conv => whnf) | ((refine DrawS_i (by kernel_rfl) ?_); conv => whnf) | ((with_reducible refine andX_i ?_ ?_) <;> (conv => whnf)) | (with_reducible exact rfl) | ((with_reducible refine xif_kt (by with_reducible assumption) ?_); conv => whnf) | ((with_reducible refine xif_kf (by with_reducible assumption) ?_); conv => whnf) | (((with_reducible refine xif_s ?_ ?_) <;> (intro hb; (try simp (disch := omega) only [wr, ge_dec, gt_dec, decide_eq_true_eq, decide_eq_false_iff_not, beq_iff_eq, bne_iff_ne, beq_eq_false_iff_ne, bne_eq_false_iff_eq, Bool.not_eq_true', Bool.not_eq_false', Bool.and_eq_true, Bool.or_eq_true, Bool.not_not, ne_eq, Decidable.not_not, Int.not_le, Int.not_lt, Int.toNat_natCast, not_true_eq_false, eq_self, Bool.not_true, Bool.not_false, Bool.true_eq_false, Bool.false_eq_true] at hb))) <;> (conv => whnf)))
    all_goals try (exfalso; simp_all; done)
    all_goals exact Fin_pure rfl rfl (by simp [SV.wf, SV.wfs])
  | true =>
    have e : boxO f b = if boxB (boxI f b) then (boxI f b, 0) else ((0, 0, 0, 0, 0, 0), 2) := by simp [boxO, h]
    rw [e]
    simp only [Bool.and_eq_true] at h
    obtain ⟨⟨k1, k2⟩, k3⟩ := h
    have g1 := szB_bd k1
    have g2 := szB_bd k2
    have k4 := k3
    rw [boxB, boxR_iff, arcR_iff] at k4
    have k5 := k3
    unfold boxB at k5
    have t1 := tXY_bd (q := f.1 % 4) (x := b.1) (y := b.2.1) (m := 1048576) (by omega)
    have t2 := tXY_bd (q := f.1 % 4) (x := b.2.2.1) (y := b.2.2.2.1) (m := 1048576) (by omega)
    refine PureX.of Try.func17 rfl tabOk rfl rfl rfl (by simp [SV.wfs, SV.wf]) (by simp [SV.wfs, SV.wf]) fun w => ?_
    (conv => whnf); repeat' (first | ((with_reducible refine isC ?_); first | ((with_reducible refine CallX_pure (rValid_x _ _ _) ?_) <;> first | omega | (with_reducible show (_ : Int) ≤ _) | (with_reducible show (_ : Int) < _) | (with_reducible show (_ : Nat) ≤ _) | (with_reducible show (_ : Nat) < _) | (conv => whnf)) | ((with_reducible refine CallX_pure (rBoxV_x _ _ _ _ _ _) ?_) <;> first | omega | (with_reducible show (_ : Int) ≤ _) | (with_reducible show (_ : Int) < _) | (with_reducible show (_ : Nat) ≤ _) | (with_reducible show (_ : Nat) < _) | (conv => whnf)) | ((with_reducible refine CallX_pure (turn_x _ _ _ ?_ ?_) ?_) <;> first | omega | (with_reducible show (_ : Int) ≤ _) | (with_reducible show (_ : Int) < _) | (with_reducible show (_ : Nat) ≤ _) | (with_reducible show (_ : Nat) < _) | (conv => whnf)) | ((with_reducible refine CallX_pure (mod_x _ _ ?_ ?_) ?_) <;> first | omega | (with_reducible show (_ : Int) ≤ _) | (with_reducible show (_ : Int) < _) | (with_reducible show (_ : Nat) ≤ _) | (with_reducible show (_ : Nat) < _) | (conv => whnf))) | ((with_reducible refine isO ?_); first | ((refine OpX_build0 tabOk rfl rfl rfl ?_); intro bN; conv => whnf) | ((refine OpX_build tabOk rfl rfl rfl rfl rfl ?_); intro bN; conv => whnf)) | ((with_reducible refine isW ?_); first | ((with_reducible refine xwr_ok (by omega) (by omega) ?_); conv => whnf) | ((with_reducible refine xwr_raw ?_); conv => whnf)) | ((with_reducible refine isQ ?_); first | ((with_reducible refine xquo_nn (by omega) (by omega) (by omega) ?_); conv => whnf) | ((with_reducible refine xquo_ok (by omega) (by omega) (by omega) ?_); conv => whnf) | ((with_reducible refine xquo_raw (by omega) ?_); conv => whnf)) | ((with_reducible refine isR ?_); first | ((with_reducible refine xrem_nn (by omega) (by omega) ?_); conv => whnf) | ((with_reducible refine xrem_raw (by omega) ?_); conv => whnf)) | ((with_reducible refine need_i ?_ ?_) <;> first | omega | (conv => whnf)) | ((refine DrawX_s tabOk folOk ?_); conv => whnf) | ((refine DrawS_i (by kernel_rfl) ?_); conv => whnf) | ((with_reducible refine andX_i ?_ ?_) <;> (conv => whnf)) | (with_reducible exact rfl) | ((with_reducible refine xif_kt (by with_reducible assumption) ?_); conv => whnf) | ((with_reducible refine xif_kf (by with_reducible assumption) ?_); conv => whnf) | (((with_reducible refine xif_s ?_ ?_) <;> (intro hb; (try simp (disch := omega) only [wr, ge_dec, gt_dec, decide_eq_true_eq, decide_eq_false_iff_not, beq_iff_eq, bne_iff_ne, beq_eq_false_iff_ne, bne_eq_false_iff_eq, Bool.not_eq_true', Bool.not_eq_false', Bool.and_eq_true, Bool.or_eq_true, Bool.not_not, ne_eq, Decidable.not_not, Int.not_le, Int.not_lt, Int.toNat_natCast, not_true_eq_false, eq_self, Bool.not_true, Bool.not_false, Bool.true_eq_false, Bool.false_eq_true] at hb))) <;> (conv => whnf)))
    all_goals clear t1 t2 k4
    all_goals try (exfalso; simp_all; done)
    all_goals refine Fin_pure rfl ?_ (by simp [SV.wf, SV.wfs])
    all_goals rename_i hct
    all_goals clear e k1 k2 k3 g1 g2 k5
    all_goals first
      | (rw [if_pos (by unfold boxB boxI; simp only [hct, if_true, if_false]; exact hb)]; simp only [boxI, hct, if_true, if_false]; done)
      | (rw [if_neg (by unfold boxB boxI; simp only [hct, if_true, if_false]; exact Bool.eq_false_iff.1 hb)]; done)
      | (rw [if_pos (by unfold boxB boxI; simp only [hct, if_true, if_false]; simpa only [hct] using hb)]; simp only [boxI, hct, if_true, if_false]; done)
      | (rw [if_neg (by unfold boxB boxI; simp only [hct, if_true, if_false]; simpa only [hct, Bool.not_eq_true] using hb)]; done)
      | trace_state
end Go.Proofs.Ytbjkbjiglcomkaa.En
