/- The walk of EvidenceBack. -/
import Derived.Test.YtdjimfngnhnhnaaCc
import Derived.Test.YtdjimfngnhnhnaaOi
import Derived.Test.YtdjimfngnhnhnaaBr
set_option linter.all false
namespace Go.Proofs.Ytdjimfngnhnhnaa.En
open Go.RowKit
set_option maxRecDepth 100000

set_option maxHeartbeats 4000000 in
theorem back_x (A1 A2 : Option Addr) (c1 c2 : Nat) (a b : List EntT) {n m : Nat} (ha : a.length = n) (hb0 : b.length = m) (hn : n ≤ maxLen) (hm : m ≤ maxLen) :
    CallW Try.prog 10 [.v (.slice A1 n c1), .v (.slice A2 m c2)] (fun w => ArgSl w A1 n 4 (a.map encE) ∧ ArgSl w A2 m 4 (b.map encE)) (B true) := by
  have hn' := hn
  have hm' := hm
  unfold maxLen at hn' hm'
  have k1 := Add_m A1 A2 c1 c2 a b ha hb0 hn hm
  have l1 := comb_len 1 a b
  have k2 := fun A' c' => Sub_m A' A2 c' c2 (combE 1 a b).1 b (n := (combE 1 a b).1.length) rfl hb0 (by unfold maxLen; omega) hm
  have k3 := fun A' c' => Sub_m A2 A' c2 c' b (combE 1 a b).1 (m := (combE 1 a b).1.length) hb0 rfl hm (by unfold maxLen; omega)
  have k4 := Sub_m A1 A1 c1 c1 a a ha ha hn hn
  have k5 := fun A' c' => Add_m A' A1 c' c1 (negL a) a (n := (negL a).length) rfl ha (by rw [negL_len]; omega) hn
  have f1 := comb_back (a := a) (b := b)
  have f2 := comb_less (a := a) (b := b)
  have f3 := comb_self (a := a)
  have f4 := comb_neg (a := a)
  have f5 := fun h => (comb_code (f := 1) (a := a) (b := b) h).1
  have f6 := negL_len a
  have f7 := comb_bad (f := 1) (a := a) (b := b)
  generalize negL a = na at *
  generalize combE 1 a b = r1 at *
  by_cases hg : n ≤ 60 ∧ m ≤ 60
  · obtain ⟨g1, g2⟩ := hg
    by_cases hr : r1.2 = 0
    · specialize f1 hr
      specialize f2 hr
      specialize f3 (f5 hr)
      specialize f4 (f5 hr)
      rw [f1] at k2
      rw [f2] at k3
      rw [f3] at k4
      rw [f4] at k5
      clear f1 f2 f3 f4 f5 f7
      refine CallW.of Try.func10 rfl tabOk rfl rfl rfl (by simp [SV.wfs, SV.wf]) (by simp [SV.wfs, SV.wf]) fun w hpre => ?_
      obtain ⟨hp1, hp2⟩ := hpre
      (conv => whnf); repeat' (first | ((with_reducible refine isC ?_); first | ((with_reducible refine CallX_pure (awake15_x) ?_) <;> first | omega | (with_reducible show (_ : Int) ≤ _) | (with_reducible show (_ : Int) < _) | (with_reducible show (_ : Nat) ≤ _) | (with_reducible show (_ : Nat) < _) | (conv => whnf)) | ((with_reducible refine isF 31 ?_); (with_reducible refine CallX_m (k1) [] ?_ ?_ ?_ ?_ ?_); (focus (exact rfl)); (focus (exact trivial)); (focus (decide)); (focus (exact fun σ fp w hm => ⟨ArgN.of0 (hp1.mem (by decide) rfl σ fp w hm) _, ArgN.of0 (hp2.mem (by decide) rfl σ fp w hm) _⟩)); intro q; obtain ⟨A_1, c_1⟩ := q; dsimp only; conv => whnf) | ((with_reducible refine isF 34 ?_); (with_reducible refine CallX_m (k2 A_1 c_1) [] ?_ ?_ ?_ ?_ ?_); (focus (exact rfl)); (focus (exact trivial)); (focus (decide)); (focus (exact fun σ fp w hm => ⟨ArgN.row 0 rfl (m := 0) (fun j hj => by omega) σ fp w hm, ArgN.of0 (hp2.mem (by decide) rfl σ fp w hm) _⟩)); intro q; obtain ⟨A_2, c_2⟩ := q; dsimp only; conv => whnf) | ((with_reducible refine isF 34 ?_); (with_reducible refine CallX_m (k3 A_1 c_1) [] ?_ ?_ ?_ ?_ ?_); (focus (exact rfl)); (focus (exact trivial)); (focus (decide)); (focus (exact fun σ fp w hm => ⟨ArgN.of0 (hp2.mem (by decide) rfl σ fp w hm) _, ArgN.row 0 rfl (m := 0) (fun j hj => by omega) σ fp w hm⟩)); intro q; obtain ⟨A_3, c_3⟩ := q; dsimp only; conv => whnf) | ((with_reducible refine isF 34 ?_); (with_reducible refine CallX_m (k4) [] ?_ ?_ ?_ ?_ ?_); (focus (exact rfl)); (focus (exact trivial)); (focus (decide)); (focus (exact fun σ fp w hm => ⟨ArgN.of0 (hp1.mem (by decide) rfl σ fp w hm) _, ArgN.of0 (hp1.mem (by decide) rfl σ fp w hm) _⟩)); intro q; obtain ⟨A_4, c_4⟩ := q; dsimp only; conv => whnf) | ((with_reducible refine isF 31 ?_); (with_reducible refine CallX_m (k5 A_3 c_3) [] ?_ ?_ ?_ ?_ ?_); (focus (exact rfl)); (focus (exact trivial)); (focus (decide)); (focus (exact fun σ fp w hm => ⟨ArgN.row 2 rfl (m := 0) (fun j hj => by omega) σ fp w hm, ArgN.of0 (hp1.mem (by decide) rfl σ fp w hm) _⟩)); intro q; obtain ⟨A_5, c_5⟩ := q; dsimp only; conv => whnf) | ((with_reducible refine isF 24 ?_); (with_reducible refine CallX_w (Entries_t A_2 A1 c_2 c1 a a rfl ha rfl (by omega) (by omega)) ?_ ?_); (focus (exact fun σ fp w hm => ⟨ArgSl.row 1 rfl σ fp w hm, hp1.mem (by decide) rfl σ fp w hm⟩)); conv => whnf)) | ((with_reducible refine isO ?_); first | ((refine OpX_build0 tabOk rfl rfl rfl ?_); intro bN; conv => whnf) | ((refine OpX_build tabOk rfl rfl rfl rfl rfl ?_); intro bN; conv => whnf)) | ((with_reducible refine isW ?_); first | ((with_reducible refine xwr_ok (by omega) (by omega) ?_); conv => whnf) | ((with_reducible refine xwr_raw ?_); conv => whnf)) | ((with_reducible refine isQ ?_); first | ((with_reducible refine xquo_nn (by omega) (by omega) (by omega) ?_); conv => whnf) | ((with_reducible refine xquo_ok (by omega) (by omega) (by omega) ?_); conv => whnf) | ((with_reducible refine xquo_raw (by omega) ?_); conv => whnf)) | ((with_reducible refine isR ?_); first | ((with_reducible refine xrem_nn (by omega) (by omega) ?_); conv => whnf) | ((with_reducible refine xrem_raw (by omega) ?_); conv => whnf)) | ((with_reducible refine isS ?_); first | ((with_reducible refine xshr_1 ?_); conv => whnf)) | ((with_reducible refine isK ?_); first | ((with_reducible refine xcv_i64 (by omega) (by omega) ?_); conv => whnf) | ((with_reducible refine xcv_u64 (by omega) (by omega) ?_); conv => whnf) | ((with_reducible refine xcv_u8 (by omega) (by omega) ?_); conv => whnf) | ((with_reducible refine xcv_raw ?_); conv => whnf)) | ((with_reducible refine need_i ?_ ?_) <;> first | omega | (conv => whnf)) | ((refine DrawX_s tabOk folOk ?_); conv => whnf) | ((refine DrawS_i (by kernel_rfl) ?_); conv => whnf) | ((with_reducible refine andX_i ?_ ?_) <;> (conv => whnf)) | (with_reducible exact rfl) | ((with_reducible refine xif_kt (by with_reducible assumption) ?_); conv => whnf) | ((with_reducible refine xif_kf (by with_reducible assumption) ?_); conv => whnf) | (((with_reducible refine xif_s ?_ ?_) <;> (intro hb; (try simp (disch := omega) only [wr, ge_dec, gt_dec, decide_eq_true_eq, decide_eq_false_iff_not, beq_iff_eq, bne_iff_ne, beq_eq_false_iff_ne, bne_eq_false_iff_eq, Bool.not_eq_true', Bool.not_eq_false', Bool.and_eq_true, Bool.or_eq_true, Bool.not_not, ne_eq, Decidable.not_not, Int.not_le, Int.not_lt, Int.toNat_natCast, not_true_eq_false, eq_self, Bool.not_true, Bool.not_false, Bool.true_eq_false, Bool.false_eq_true] at hb))) <;> (conv => whnf)))
      all_goals first
        | exact Fin_pure rfl rfl trivial
        | (exfalso; omega)
        | trace_state
    · specialize f7 hr
      refine CallW.of Try.func10 rfl tabOk rfl rfl rfl (by simp [SV.wfs, SV.wf]) (by simp [SV.wfs, SV.wf]) fun w hpre => ?_
      obtain ⟨hp1, hp2⟩ := hpre
      (conv => whnf); repeat' (first | ((with_reducible refine isC ?_); first | ((with_reducible refine CallX_pure (awake15_x) ?_) <;> first | omega | (with_reducible show (_ : Int) ≤ _) | (with_reducible show (_ : Int) < _) | (with_reducible show (_ : Nat) ≤ _) | (with_reducible show (_ : Nat) < _) | (conv => whnf)) | ((with_reducible refine isF 31 ?_); (with_reducible refine CallX_m (k1) [] ?_ ?_ ?_ ?_ ?_); (focus (exact rfl)); (focus (exact trivial)); (focus (decide)); (focus (exact fun σ fp w hm => ⟨ArgN.of0 (hp1.mem (by decide) rfl σ fp w hm) _, ArgN.of0 (hp2.mem (by decide) rfl σ fp w hm) _⟩)); intro q; obtain ⟨A_1, c_1⟩ := q; dsimp only; conv => whnf)) | ((with_reducible refine isO ?_); first | ((refine OpX_build0 tabOk rfl rfl rfl ?_); intro bN; conv => whnf) | ((refine OpX_build tabOk rfl rfl rfl rfl rfl ?_); intro bN; conv => whnf)) | ((with_reducible refine isW ?_); first | ((with_reducible refine xwr_ok (by omega) (by omega) ?_); conv => whnf) | ((with_reducible refine xwr_raw ?_); conv => whnf)) | ((with_reducible refine isQ ?_); first | ((with_reducible refine xquo_nn (by omega) (by omega) (by omega) ?_); conv => whnf) | ((with_reducible refine xquo_ok (by omega) (by omega) (by omega) ?_); conv => whnf) | ((with_reducible refine xquo_raw (by omega) ?_); conv => whnf)) | ((with_reducible refine isR ?_); first | ((with_reducible refine xrem_nn (by omega) (by omega) ?_); conv => whnf) | ((with_reducible refine xrem_raw (by omega) ?_); conv => whnf)) | ((with_reducible refine isS ?_); first | ((with_reducible refine xshr_1 ?_); conv => whnf)) | ((with_reducible refine isK ?_); first | ((with_reducible refine xcv_i64 (by omega) (by omega) ?_); conv => whnf) | ((with_reducible refine xcv_u64 (by omega) (by omega) ?_); conv => whnf) | ((with_reducible refine xcv_u8 (by omega) (by omega) ?_); conv => whnf) | ((with_reducible refine xcv_raw ?_); conv => whnf)) | ((with_reducible refine need_i ?_ ?_) <;> first | omega | (conv => whnf)) | ((refine DrawX_s tabOk folOk ?_); conv => whnf) | ((refine DrawS_i (by kernel_rfl) ?_); conv => whnf) | ((with_reducible refine andX_i ?_ ?_) <;> (conv => whnf)) | (with_reducible exact rfl) | ((with_reducible refine xif_kt (by with_reducible assumption) ?_); conv => whnf) | ((with_reducible refine xif_kf (by with_reducible assumption) ?_); conv => whnf) | (((with_reducible refine xif_s ?_ ?_) <;> (intro hb; (try simp (disch := omega) only [wr, ge_dec, gt_dec, decide_eq_true_eq, decide_eq_false_iff_not, beq_iff_eq, bne_iff_ne, beq_eq_false_iff_ne, bne_eq_false_iff_eq, Bool.not_eq_true', Bool.not_eq_false', Bool.and_eq_true, Bool.or_eq_true, Bool.not_not, ne_eq, Decidable.not_not, Int.not_le, Int.not_lt, Int.toNat_natCast, not_true_eq_false, eq_self, Bool.not_true, Bool.not_false, Bool.true_eq_false, Bool.false_eq_true] at hb))) <;> (conv => whnf)))
      all_goals first
        | exact Fin_pure rfl rfl trivial
        | (exfalso; omega)
        | (exact Fin_pure rfl (by rw [f7]; rfl) trivial)
        | trace_state
  · refine CallW.of Try.func10 rfl tabOk rfl rfl rfl (by simp [SV.wfs, SV.wf]) (by simp [SV.wfs, SV.wf]) fun w hpre => ?_
    (conv => whnf); repeat' (first | ((with_reducible refine isC ?_); first | ((with_reducible refine CallX_pure (awake15_x) ?_) <;> first | omega | (with_reducible show (_ : Int) ≤ _) | (with_reducible show (_ : Int) < _) | (with_reducible show (_ : Nat) ≤ _) | (with_reducible show (_ : Nat) < _) | (conv => whnf))) | ((with_reducible refine isO ?_); first | ((refine OpX_build0 tabOk rfl rfl rfl ?_); intro bN; conv => whnf) | ((refine OpX_build tabOk rfl rfl rfl rfl rfl ?_); intro bN; conv => whnf)) | ((with_reducible refine isW ?_); first | ((with_reducible refine xwr_ok (by omega) (by omega) ?_); conv => whnf) | ((with_reducible refine xwr_raw ?_); conv => whnf)) | ((with_reducible refine isQ ?_); first | ((with_reducible refine xquo_nn (by omega) (by omega) (by omega) ?_); conv => whnf) | ((with_reducible refine xquo_ok (by omega) (by omega) (by omega) ?_); conv => whnf) | ((with_reducible refine xquo_raw (by omega) ?_); conv => whnf)) | ((with_reducible refine isR ?_); first | ((with_reducible refine xrem_nn (by omega) (by omega) ?_); conv => whnf) | ((with_reducible refine xrem_raw (by omega) ?_); conv => whnf)) | ((with_reducible refine isS ?_); first | ((with_reducible refine xshr_1 ?_); conv => whnf)) | ((with_reducible refine isK ?_); first | ((with_reducible refine xcv_i64 (by omega) (by omega) ?_); conv => whnf) | ((with_reducible refine xcv_u64 (by omega) (by omega) ?_); conv => whnf) | ((with_reducible refine xcv_u8 (by omega) (by omega) ?_); conv => whnf) | ((with_reducible refine xcv_raw ?_); conv => whnf)) | ((with_reducible refine need_i ?_ ?_) <;> first | omega | (conv => whnf)) | ((refine DrawX_s tabOk folOk ?_); conv => whnf) | ((refine DrawS_i (by kernel_rfl) ?_); conv => whnf) | ((with_reducible refine andX_i ?_ ?_) <;> (conv => whnf)) | (with_reducible exact rfl) | ((with_reducible refine xif_kt (by with_reducible assumption) ?_); conv => whnf) | ((with_reducible refine xif_kf (by with_reducible assumption) ?_); conv => whnf) | (((with_reducible refine xif_s ?_ ?_) <;> (intro hb; (try simp (disch := omega) only [wr, ge_dec, gt_dec, decide_eq_true_eq, decide_eq_false_iff_not, beq_iff_eq, bne_iff_ne, beq_eq_false_iff_ne, bne_eq_false_iff_eq, Bool.not_eq_true', Bool.not_eq_false', Bool.and_eq_true, Bool.or_eq_true, Bool.not_not, ne_eq, Decidable.not_not, Int.not_le, Int.not_lt, Int.toNat_natCast, not_true_eq_false, eq_self, Bool.not_true, Bool.not_false, Bool.true_eq_false, Bool.false_eq_true] at hb))) <;> (conv => whnf)))
    all_goals first
      | exact Fin_pure rfl rfl trivial
      | (exfalso; omega)
/-- the same, over slices as they are opened -/
theorem back_walk (A0 : Option Addr) (n0 c0 : Nat) (V0 : Nat → Nat → Int) (A1 : Option Addr) (n1 c1 : Nat) (V1 : Nat → Nat → Int) (w : World) (h0 : SlO w A0 n0 4 V0) (g0 : n0 ≤ c0) (k0 : c0 ≤ maxLen) (h1 : SlO w A1 n1 4 V1) (g1 : n1 ≤ c1) (k1 : c1 ≤ maxLen) :
    Calls Try.prog 10 #[.slice A0 n0 c0, .slice A1 n1 c1] w fun e w' => e = .returned (.bool true) ∧ Below w.heap.size w w' := by
  have a0 := ArgSl.of_SlO encE (fun i => (V0 i 0, V0 i 1, V0 i 2, V0 i 3)) h0 (by decide) (fun i => rfl)
  have a1 := ArgSl.of_SlO encE (fun i => (V1 i 0, V1 i 1, V1 i 2, V1 i 3)) h1 (by decide) (fun i => rfl)
  generalize e0 : (List.range n0).map (fun i => (V0 i 0, V0 i 1, V0 i 2, V0 i 3)) = xs at a0
  generalize e1 : (List.range n1).map (fun i => (V1 i 0, V1 i 1, V1 i 2, V1 i 3)) = ys at a1
  obtain rfl : xs.length = n0 := by rw [← e0]; simp
  obtain rfl : ys.length = n1 := by rw [← e1]; simp
  exact (back_x A0 A1 c0 c1 xs ys rfl rfl (by omega) (by omega)).2.2 (fun _ => 0) w ⟨a0, a1⟩
end Go.Proofs.Ytdjimfngnhnhnaa.En
