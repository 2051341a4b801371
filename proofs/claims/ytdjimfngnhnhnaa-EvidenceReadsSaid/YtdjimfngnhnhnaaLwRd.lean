/- The walk of EvidenceReads. -/
import Derived.Test.YtdjimfngnhnhnaaEr
import Derived.Test.YtdjimfngnhnhnaaBr
set_option linter.all false
namespace Go.Proofs.Ytdjimfngnhnhnaa.En
open Go.RowKit
set_option maxRecDepth 100000

set_option maxHeartbeats 4000000 in
theorem reads_x (A1 : Option Addr) (c1 : Nat) (l : List EntT) (x : CellT) (e : EntT) {n : Nat} (hl : l.length = n) (hn : n ≤ maxLen) :
    CallW Try.prog 12 [.v (.slice A1 n c1), .a [I x.1, I x.2], .a [I e.1, I e.2.1, I e.2.2.1, I e.2.2.2]] (fun w => ArgSl w A1 n 4 (l.map encE)) (B true) := by
  have hn' := hn
  unfold maxLen at hn'
  by_cases hg : n ≤ 60
  · have k1 := Total_w A1 c1 l hl hn
    have k2 := rTotal_w A1 c1 l hl hn
    have k3 := Valid_v A1 c1 l hl hn
    have k4 := rVE_w A1 c1 l hl hn
    have k5 := At_v A1 c1 l x hl (by omega)
    have k6 := rAt_w A1 c1 l x hl hn
    have k7 := Value_x e
    have k8 := rValue_x e
    have k9 := Occupied_x e
    have kA := rOccupied_x e
    generalize totE l = t at *
    generalize vE l = v at *
    generalize atE l x = y at *
    generalize valueF e = u at *
    refine CallW.of Try.func12 rfl tabOk rfl rfl rfl (by simp [SV.wfs, SV.wf]) (by simp [SV.wfs, SV.wf]) fun w hpre => ?_
    (conv => whnf); repeat' (first | ((with_reducible refine isC ?_); first | ((with_reducible refine CallX_pure (awake15_x) ?_) <;> first | omega | (with_reducible show (_ : Int) ≤ _) | (with_reducible show (_ : Int) < _) | (with_reducible show (_ : Nat) ≤ _) | (with_reducible show (_ : Nat) < _) | (conv => whnf)) | ((with_reducible refine CallX_pure (k7) ?_) <;> first | omega | (with_reducible show (_ : Int) ≤ _) | (with_reducible show (_ : Int) < _) | (with_reducible show (_ : Nat) ≤ _) | (with_reducible show (_ : Nat) < _) | (conv => whnf)) | ((with_reducible refine CallX_pure (k8) ?_) <;> first | omega | (with_reducible show (_ : Int) ≤ _) | (with_reducible show (_ : Int) < _) | (with_reducible show (_ : Nat) ≤ _) | (with_reducible show (_ : Nat) < _) | (conv => whnf)) | ((with_reducible refine CallX_pure (k9) ?_) <;> first | omega | (with_reducible show (_ : Int) ≤ _) | (with_reducible show (_ : Int) < _) | (with_reducible show (_ : Nat) ≤ _) | (with_reducible show (_ : Nat) < _) | (conv => whnf)) | ((with_reducible refine CallX_pure (kA) ?_) <;> first | omega | (with_reducible show (_ : Int) ≤ _) | (with_reducible show (_ : Int) < _) | (with_reducible show (_ : Nat) ≤ _) | (with_reducible show (_ : Nat) < _) | (conv => whnf)) | ((with_reducible refine isF 23 ?_); (with_reducible refine CallX_w (k1) ?_ ?_); (focus (exact hpre.mem (by decide) rfl)); conv => whnf) | ((with_reducible refine isF 41 ?_); (with_reducible refine CallX_w (k2) ?_ ?_); (focus (exact hpre.mem (by decide) rfl)); conv => whnf) | ((with_reducible refine isF 19 ?_); (with_reducible refine CallX_v (k3) ?_ ?_); (focus (exact hpre.mem (by decide) rfl)); conv => whnf) | ((with_reducible refine isF 42 ?_); (with_reducible refine CallX_w (k4) ?_ ?_); (focus (exact hpre.mem (by decide) rfl)); conv => whnf) | ((with_reducible refine isF 21 ?_); (with_reducible refine CallX_v (k5) ?_ ?_); (focus (exact hpre.mem (by decide) rfl)); conv => whnf) | ((with_reducible refine isF 43 ?_); (with_reducible refine CallX_w (k6) ?_ ?_); (focus (exact hpre.mem (by decide) rfl)); conv => whnf)) | ((with_reducible refine isO ?_); first | ((refine OpX_build0 tabOk rfl rfl rfl ?_); intro bN; conv => whnf) | ((refine OpX_build tabOk rfl rfl rfl rfl rfl ?_); intro bN; conv => whnf)) | ((with_reducible refine isW ?_); first | ((with_reducible refine xwr_ok (by omega) (by omega) ?_); conv => whnf) | ((with_reducible refine xwr_raw ?_); conv => whnf)) | ((with_reducible refine isQ ?_); first | ((with_reducible refine xquo_nn (by omega) (by omega) (by omega) ?_); conv => whnf) | ((with_reducible refine xquo_ok (by omega) (by omega) (by omega) ?_); conv => whnf) | ((with_reducible refine xquo_raw (by omega) ?_); conv => whnf)) | ((with_reducible refine isR ?_); first | ((with_reducible refine xrem_nn (by omega) (by omega) ?_); conv => whnf) | ((with_reducible refine xrem_raw (by omega) ?_); conv => whnf)) | ((with_reducible refine isS ?_); first | ((with_reducible refine xshr_1 ?_); conv => whnf)) | ((with_reducible refine isK ?_); first | ((with_reducible refine xcv_i64 (by omega) (by omega) ?_); conv => whnf) | ((with_reducible refine xcv_u64 (by omega) (by omega) ?_); conv => whnf) | ((with_reducible refine xcv_u8 (by omega) (by omega) ?_); conv => whnf) | ((with_reducible refine xcv_raw ?_); conv => whnf)) | ((with_reducible refine need_i ?_ ?_) <;> first | omega | (conv => whnf)) | ((refine DrawX_s tabOk folOk ?_); conv => whnf) | ((refine DrawS_i (by kernel_rfl) ?_); conv => whnf) | ((with_reducible refine andX_i ?_ ?_) <;> (conv => whnf)) | (with_reducible exact rfl) | ((with_reducible refine xif_kt (by with_reducible assumption) ?_); conv => whnf) | ((with_reducible refine xif_kf (by with_reducible assumption) ?_); conv => whnf) | (((with_reducible refine xif_s ?_ ?_) <;> (intro hb; (try simp (disch := omega) only [wr, ge_dec, gt_dec, decide_eq_true_eq, decide_eq_false_iff_not, beq_iff_eq, bne_iff_ne, beq_eq_false_iff_ne, bne_eq_false_iff_eq, Bool.not_eq_true', Bool.not_eq_false', Bool.and_eq_true, Bool.or_eq_true, Bool.not_not, ne_eq, Decidable.not_not, Int.not_le, Int.not_lt, Int.toNat_natCast, not_true_eq_false, eq_self, Bool.not_true, Bool.not_false, Bool.true_eq_false, Bool.false_eq_true] at hb))) <;> (conv => whnf)))
    all_goals first
      | exact Fin_pure rfl rfl trivial
      | (exfalso; omega)
      | (exfalso; simp at hb; done)
      | exact Fin_pure rfl (by simp) trivial
      | trace_state
  · refine CallW.of Try.func12 rfl tabOk rfl rfl rfl (by simp [SV.wfs, SV.wf]) (by simp [SV.wfs, SV.wf]) fun w hpre => ?_
    (conv => whnf); repeat' (first | ((with_reducible refine isC ?_); first | ((with_reducible refine CallX_pure (awake15_x) ?_) <;> first | omega | (with_reducible show (_ : Int) ≤ _) | (with_reducible show (_ : Int) < _) | (with_reducible show (_ : Nat) ≤ _) | (with_reducible show (_ : Nat) < _) | (conv => whnf))) | ((with_reducible refine isO ?_); first | ((refine OpX_build0 tabOk rfl rfl rfl ?_); intro bN; conv => whnf) | ((refine OpX_build tabOk rfl rfl rfl rfl rfl ?_); intro bN; conv => whnf)) | ((with_reducible refine isW ?_); first | ((with_reducible refine xwr_ok (by omega) (by omega) ?_); conv => whnf) | ((with_reducible refine xwr_raw ?_); conv => whnf)) | ((with_reducible refine isQ ?_); first | ((with_reducible refine xquo_nn (by omega) (by omega) (by omega) ?_); conv => whnf) | ((with_reducible refine xquo_ok (by omega) (by omega) (by omega) ?_); conv => whnf) | ((with_reducible refine xquo_raw (by omega) ?_); conv => whnf)) | ((with_reducible refine isR ?_); first | ((with_reducible refine xrem_nn (by omega) (by omega) ?_); conv => whnf) | ((with_reducible refine xrem_raw (by omega) ?_); conv => whnf)) | ((with_reducible refine isS ?_); first | ((with_reducible refine xshr_1 ?_); conv => whnf)) | ((with_reducible refine isK ?_); first | ((with_reducible refine xcv_i64 (by omega) (by omega) ?_); conv => whnf) | ((with_reducible refine xcv_u64 (by omega) (by omega) ?_); conv => whnf) | ((with_reducible refine xcv_u8 (by omega) (by omega) ?_); conv => whnf) | ((with_reducible refine xcv_raw ?_); conv => whnf)) | ((with_reducible refine need_i ?_ ?_) <;> first | omega | (conv => whnf)) | ((refine DrawX_s tabOk folOk ?_); conv => whnf) | ((refine DrawS_i (by kernel_rfl) ?_); conv => whnf) | ((with_reducible refine andX_i ?_ ?_) <;> (conv => whnf)) | (with_reducible exact rfl) | ((with_reducible refine xif_kt (by with_reducible assumption) ?_); conv => whnf) | ((with_reducible refine xif_kf (by with_reducible assumption) ?_); conv => whnf) | (((with_reducible refine xif_s ?_ ?_) <;> (intro hb; (try simp (disch := omega) only [wr, ge_dec, gt_dec, decide_eq_true_eq, decide_eq_false_iff_not, beq_iff_eq, bne_iff_ne, beq_eq_false_iff_ne, bne_eq_false_iff_eq, Bool.not_eq_true', Bool.not_eq_false', Bool.and_eq_true, Bool.or_eq_true, Bool.not_not, ne_eq, Decidable.not_not, Int.not_le, Int.not_lt, Int.toNat_natCast, not_true_eq_false, eq_self, Bool.not_true, Bool.not_false, Bool.true_eq_false, Bool.false_eq_true] at hb))) <;> (conv => whnf)))
    all_goals first
      | exact Fin_pure rfl rfl trivial
      | (exfalso; omega)
/-- the same, over slices as they are opened -/
theorem reads_walk (A0 : Option Addr) (n0 c0 : Nat) (V0 : Nat → Nat → Int) (X Y E0 E1 E2 E3 : Int) (w : World) (h0 : SlO w A0 n0 4 V0) (g0 : n0 ≤ c0) (k0 : c0 ≤ maxLen) :
    Calls Try.prog 12 #[.slice A0 n0 c0, .agg #[.int .i64 X, .int .i64 Y], .agg #[.int .i64 E0, .int .i64 E1, .int .i64 E2, .int .i64 E3]] w fun e w' => e = .returned (.bool true) ∧ Below w.heap.size w w' := by
  have a0 := ArgSl.of_SlO encE (fun i => (V0 i 0, V0 i 1, V0 i 2, V0 i 3)) h0 (by decide) (fun i => rfl)
  generalize e0 : (List.range n0).map (fun i => (V0 i 0, V0 i 1, V0 i 2, V0 i 3)) = xs at a0
  obtain rfl : xs.length = n0 := by rw [← e0]; simp
  exact (reads_x A0 c0 xs (X, Y) (E0, E1, E2, E3) rfl (by omega)).2.2 (fun _ => 0) w a0
end Go.Proofs.Ytdjimfngnhnhnaa.En
