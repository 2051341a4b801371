/- The walk of EvidenceScans. -/
import Derived.Test.YtdjimfngnhnhnaaRw0
set_option linter.all false
namespace Go.Proofs.Ytdjimfngnhnhnaa.En
open Go.RowKit
set_option maxRecDepth 100000

set_option maxHeartbeats 4000000 in
theorem scans_x (p : PoseT) (A1 : Option Addr) (c1 : Nat) (s : List BeamT) {n : Nat} (hs : s.length = n) (hn : n ≤ maxLen) :
    CallW Try.prog 4 [.a [I p.1, I p.2.1, I p.2.2], .v (.slice A1 n c1)] (fun w => ArgSl w A1 n 2 (s.map encB)) (B true) := by
  have hn' := hn
  unfold maxLen at hn'
  have k1 := ofE_m p A1 c1 s _ rfl hs hn
  have k2 := rOf_m p A1 c1 s hs hn
  have l1 := ofE_len p s
  generalize ofE p s = r at *
  refine CallW.of Try.func4 rfl tabOk rfl rfl rfl (by simp [SV.wfs, SV.wf]) (by simp [SV.wfs, SV.wf]) fun w hpre => ?_
  (conv => whnf); repeat' (first | ((with_reducible refine isC ?_); first | ((with_reducible refine CallX_pure (awake15_x) ?_) <;> first | omega | (with_reducible show (_ : Int) ≤ _) | (with_reducible show (_ : Int) < _) | (with_reducible show (_ : Nat) ≤ _) | (with_reducible show (_ : Nat) < _) | (conv => whnf)) | ((with_reducible refine isF 26 ?_); (with_reducible refine CallX_m (k1) [] ?_ ?_ ?_ ?_ ?_); (focus (exact rfl)); (focus (exact trivial)); (focus (decide)); (focus (exact fun σ fp w hm => ArgN.of0 (hpre.mem (by decide) rfl σ fp w hm) _)); intro q; obtain ⟨A_1, c_1⟩ := q; dsimp only; conv => whnf) | ((with_reducible refine isF 27 ?_); (with_reducible refine CallX_m (k2) [] ?_ ?_ ?_ ?_ ?_); (focus (exact rfl)); (focus (exact trivial)); (focus (decide)); (focus (exact fun σ fp w hm => ArgN.of0 (hpre.mem (by decide) rfl σ fp w hm) _)); intro q; obtain ⟨A_2, c_2⟩ := q; dsimp only; conv => whnf) | ((with_reducible refine isF 24 ?_); (refine CallX_w (Entries_t A_1 A_2 c_1 c_2 r.1 r.1 rfl rfl rfl (by omega) (by omega)) (fun σ fp w hm => ⟨ArgSl.row 1 rfl σ fp w hm, ArgSl.row 2 rfl σ fp w hm⟩) ?_); conv => whnf)) | ((with_reducible refine isO ?_); first | ((refine OpX_build0 tabOk rfl rfl rfl ?_); intro bN; conv => whnf) | ((refine OpX_build tabOk rfl rfl rfl rfl rfl ?_); intro bN; conv => whnf)) | ((with_reducible refine isW ?_); first | ((with_reducible refine xwr_ok (by omega) (by omega) ?_); conv => whnf) | ((with_reducible refine xwr_raw ?_); conv => whnf)) | ((with_reducible refine isQ ?_); first | ((with_reducible refine xquo_nn (by omega) (by omega) (by omega) ?_); conv => whnf) | ((with_reducible refine xquo_ok (by omega) (by omega) (by omega) ?_); conv => whnf) | ((with_reducible refine xquo_raw (by omega) ?_); conv => whnf)) | ((with_reducible refine isR ?_); first | ((with_reducible refine xrem_nn (by omega) (by omega) ?_); conv => whnf) | ((with_reducible refine xrem_raw (by omega) ?_); conv => whnf)) | ((with_reducible refine isS ?_); first | ((with_reducible refine xshr_1 ?_); conv => whnf)) | ((with_reducible refine isK ?_); first | ((with_reducible refine xcv_i64 (by omega) (by omega) ?_); conv => whnf) | ((with_reducible refine xcv_u64 (by omega) (by omega) ?_); conv => whnf) | ((with_reducible refine xcv_u8 (by omega) (by omega) ?_); conv => whnf) | ((with_reducible refine xcv_raw ?_); conv => whnf)) | ((with_reducible refine need_i ?_ ?_) <;> first | omega | (conv => whnf)) | ((refine DrawX_s tabOk folOk ?_); conv => whnf) | ((refine DrawS_i (by kernel_rfl) ?_); conv => whnf) | ((with_reducible refine andX_i ?_ ?_) <;> (conv => whnf)) | (with_reducible exact rfl) | ((with_reducible refine xif_kt (by with_reducible assumption) ?_); conv => whnf) | ((with_reducible refine xif_kf (by with_reducible assumption) ?_); conv => whnf) | (((with_reducible refine xif_s ?_ ?_) <;> (intro hb; (try simp (disch := omega) only [wr, ge_dec, gt_dec, decide_eq_true_eq, decide_eq_false_iff_not, beq_iff_eq, bne_iff_ne, beq_eq_false_iff_ne, bne_eq_false_iff_eq, Bool.not_eq_true', Bool.not_eq_false', Bool.and_eq_true, Bool.or_eq_true, Bool.not_not, ne_eq, Decidable.not_not, Int.not_le, Int.not_lt, Int.toNat_natCast, not_true_eq_false, eq_self, Bool.not_true, Bool.not_false, Bool.true_eq_false, Bool.false_eq_true] at hb))) <;> (conv => whnf)))
  all_goals try (exfalso; omega)
  all_goals exact Fin_pure rfl rfl trivial
/-- the same, over a slice as it is opened -/
theorem scans_walk (X Y H : Int) (A0 : Option Addr) (n0 c0 : Nat) (V0 : Nat → Nat → Int) (w : World) (h0 : SlO w A0 n0 2 V0) (g0 : n0 ≤ c0) (k0 : c0 ≤ maxLen) :
    Calls Try.prog 4 #[.agg #[.int .i64 X, .int .i64 Y, .int .i64 H], .slice A0 n0 c0] w fun e w' => e = .returned (.bool true) ∧ Below w.heap.size w w' := by
  have a0 := ArgSl.of_SlO encB (fun i => (V0 i 0, V0 i 1)) h0 (by decide) (fun i => rfl)
  generalize e0 : (List.range n0).map (fun i => (V0 i 0, V0 i 1)) = xs at a0
  obtain rfl : xs.length = n0 := by rw [← e0]; simp
  exact (scans_x (X, Y, H) A0 c0 xs rfl (by omega)).2.2 (fun _ => 0) w a0
end Go.Proofs.Ytdjimfngnhnhnaa.En
