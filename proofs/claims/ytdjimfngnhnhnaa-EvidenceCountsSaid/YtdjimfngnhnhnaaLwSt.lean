/- The walk of EvidenceStarts. -/
import Derived.Test.YtdjimfngnhnhnaaAr
import Derived.Test.YtdjimfngnhnhnaaBr
set_option linter.all false
namespace Go.Proofs.Ytdjimfngnhnhnaa.En
open Go.RowKit
set_option maxRecDepth 100000

theorem contS_nn (a : PoseT) (c : CellT) : ∀ s : List BeamT, 0 ≤ (contS a s c).1 ∧ 0 ≤ (contS a s c).2
  | [] => ⟨Int.le_refl _, Int.le_refl _⟩
  | b :: s => by
    have h2 := contS_nn a c s
    have h1 : 0 ≤ (contB a b c).1 ∧ 0 ≤ (contB a b c).2 := by
      unfold contB contE
      split <;> simp
    unfold contS at *
    simp only [List.map_cons, List.sum_cons]
    omega
theorem of_at_nn {a : PoseT} {s : List BeamT} (h : ofOk a s = true) (c : CellT) : 0 ≤ (atE (ofE a s).1 c).2.2.1 ∧ 0 ≤ (atE (ofE a s).1 c).2.2.2 := by
  obtain ⟨hr, hv⟩ := ofE_rep h
  have e := rep_at hr hv c
  have := contS_nn a c s
  rw [← e] at this
  exact this
set_option maxHeartbeats 4000000 in
theorem starts_x (p : PoseT) (A1 : Option Addr) (c1 : Nat) (s : List BeamT) {n : Nat} (hs : s.length = n) (hn : n ≤ maxLen) :
    CallW Try.prog 13 [.a [I p.1, I p.2.1, I p.2.2], .v (.slice A1 n c1)] (fun w => ArgSl w A1 n 2 (s.map encB)) (B true) := by
  have hn' := hn
  unfold maxLen at hn'
  by_cases hg : n ≤ 6
  · have kp := place_x p 262144 (by decide)
    obtain ⟨p1, p2, p3, p4⟩ := place_ok p 262144 (by decide)
    generalize placeF p 262144 = q at *
    have q1 := szB_bd p1
    have q2 := szB_bd p2
    have k1 := ofE_m q A1 c1 s _ rfl hs hn
    have ka := Around_r (q.1, q.2.1) (by unfold ptB; dsimp only; omega)
    have kpos := around_pos (q.1, q.2.1)
    have klen : (aroundL (q.1, q.2.1)).length ≤ 10000 := by
      unfold aroundL
      have := outK_len allC (spanF (q.1, q.1)).1 (spanF (q.2.1, q.2.1)).1 ((spanF (q.1, q.1)).2 - (spanF (q.1, q.1)).1 + 1).toNat (by unfold spanF; dsimp only; omega) ((spanF (q.2.1, q.2.1)).2 - (spanF (q.2.1, q.2.1)).1 + 1).toNat
      refine Nat.le_trans this ?_
      unfold spanF; dsimp only; omega
    have kat : (ofE q s).2 = 0 → ∀ j, j < (aroundL (q.1, q.2.1)).length → 0 ≤ (atE (ofE q s).1 ((aroundL (q.1, q.2.1)).getD j c0)).2.2.1 ∧ 0 ≤ (atE (ofE q s).1 ((aroundL (q.1, q.2.1)).getD j c0)).2.2.2 ∧ (atE (ofE q s).1 ((aroundL (q.1, q.2.1)).getD j c0)).2.2.1 + (atE (ofE q s).1 ((aroundL (q.1, q.2.1)).getD j c0)).2.2.2 = n := by
      intro h0 j hj
      have hok := ofE_ok.1 h0
      have hm : (aroundL (q.1, q.2.1)).getD j c0 ∈ aroundL (q.1, q.2.1) := by simp [hj]
      obtain ⟨m1, m2⟩ := mem_around hm
      have h1 := of_around hok m1 m2
      have h2 := of_at_nn hok ((aroundL (q.1, q.2.1)).getD j c0)
      exact ⟨h2.1, h2.2, by rw [h1, hs]⟩
    have hbad := ofE_bad (at_ := q) (s := s)
    have l1 := ofE_len q s
    generalize ofE q s = r at *
    generalize aroundL (q.1, q.2.1) = L at *
    have hml : (L.map encC).length = L.length := by simp
    rw [hml] at ka
    refine CallW.of Try.func13 rfl tabOk rfl rfl rfl (by simp [SV.wfs, SV.wf]) (by simp [SV.wfs, SV.wf]) fun w hpre => ?_
    (conv => whnf); repeat' (first | ((with_reducible refine isC ?_); first | ((with_reducible refine CallX_pure (awake15_x) ?_) <;> first | omega | (with_reducible show (_ : Int) ≤ _) | (with_reducible show (_ : Int) < _) | (with_reducible show (_ : Nat) ≤ _) | (with_reducible show (_ : Nat) < _) | (conv => whnf)) | ((with_reducible refine CallX_pure (kp) ?_) <;> first | omega | (with_reducible show (_ : Int) ≤ _) | (with_reducible show (_ : Int) < _) | (with_reducible show (_ : Nat) ≤ _) | (with_reducible show (_ : Nat) < _) | (conv => whnf)) | ((with_reducible refine isF 26 ?_); (with_reducible refine CallX_m (k1) [] ?_ ?_ ?_ ?_ ?_); (focus (exact rfl)); (focus (exact trivial)); (focus (decide)); (focus (exact fun σ fp w hm => ArgN.of0 (hpre.mem (by decide) rfl σ fp w hm) _)); intro q; obtain ⟨A_1, c_1⟩ := q; dsimp only; conv => whnf) | ((with_reducible refine isF 48 ?_); (refine CallX_r ka (fun _ _ _ _ => trivial) ?_; intro A_2 c_2); conv => whnf)) | ((with_reducible refine isO ?_); first | ((refine OpX_build0 tabOk rfl rfl rfl ?_); intro bN; conv => whnf) | ((refine OpX_build tabOk rfl rfl rfl rfl rfl ?_); intro bN; conv => whnf)) | ((with_reducible refine isW ?_); first | ((with_reducible refine xwr_ok (by omega) (by omega) ?_); conv => whnf) | ((with_reducible refine xwr_raw ?_); conv => whnf)) | ((with_reducible refine isQ ?_); first | ((with_reducible refine xquo_nn (by omega) (by omega) (by omega) ?_); conv => whnf) | ((with_reducible refine xquo_ok (by omega) (by omega) (by omega) ?_); conv => whnf) | ((with_reducible refine xquo_raw (by omega) ?_); conv => whnf)) | ((with_reducible refine isR ?_); first | ((with_reducible refine xrem_nn (by omega) (by omega) ?_); conv => whnf) | ((with_reducible refine xrem_raw (by omega) ?_); conv => whnf)) | ((with_reducible refine isS ?_); first | ((with_reducible refine xshr_1 ?_); conv => whnf)) | ((with_reducible refine isK ?_); first | ((with_reducible refine xcv_i64 (by omega) (by omega) ?_); conv => whnf) | ((with_reducible refine xcv_u64 (by omega) (by omega) ?_); conv => whnf) | ((with_reducible refine xcv_u8 (by omega) (by omega) ?_); conv => whnf) | ((with_reducible refine xcv_raw ?_); conv => whnf)) | ((with_reducible refine need_i ?_ ?_) <;> first | omega | (conv => whnf)) | ((refine DrawX_s tabOk folOk ?_); conv => whnf) | ((refine DrawS_i (by kernel_rfl) ?_); conv => whnf) | ((with_reducible refine andX_i ?_ ?_) <;> (conv => whnf)) | (with_reducible exact rfl) | ((with_reducible refine xif_kt (by with_reducible assumption) ?_); conv => whnf) | ((with_reducible refine xif_kf (by with_reducible assumption) ?_); conv => whnf) | (((with_reducible refine xif_s ?_ ?_) <;> (intro hb; (try simp (disch := omega) only [wr, ge_dec, gt_dec, decide_eq_true_eq, decide_eq_false_iff_not, beq_iff_eq, bne_iff_ne, beq_eq_false_iff_ne, bne_eq_false_iff_eq, Bool.not_eq_true', Bool.not_eq_false', Bool.and_eq_true, Bool.or_eq_true, Bool.not_not, ne_eq, Decidable.not_not, Int.not_le, Int.not_lt, Int.toNat_natCast, not_true_eq_false, eq_self, Bool.not_true, Bool.not_false, Bool.true_eq_false, Bool.false_eq_true] at hb))) <;> (conv => whnf)))
    all_goals try (exfalso; omega)
    · have := (hbad hb).1
      rw [this]
      exact Fin_pure rfl rfl trivial
    · have hat := kat hb
      clear kat ka k1 kp
      generalize hL : L.length = m at *
      generalize hl : r.1.length = m1 at *
      refine LoopX_inv tabOk (α := Nat) (fun k => k ≤ m) (fun k => [(1, .v (.slice A1 n c1)), (5, .v (.slice A_1 m1 c_1)), (7, .v (.slice A_2 m c_2)), (8, I k)]) (fun _ => [.row 36 4 A_1 m1 c_1 (r.1.map encE), .row 32 2 A_2 m c_2 (L.map encC)]) (fun k => m - k) 0 [1, 2] (Nat.zero_le _) ?_ ?_
      · ((refine ⟨?_, ?_, ?_, ?_⟩) <;> (repeat' ((conv => whnf); apply And.intro)) <;> (try (first | exact trivial | decide)))
        all_goals first | rfl | exact hml | exact fun _ _ h => h | (simp [SV.wf, SV.wfs]; done) | trace_state
      · intro k hk
        by_cases hlt : k < m
        · obtain ⟨t1, t2, t3⟩ := hat k (by omega)
          have hv := At_v A_1 c_1 r.1 (L.getD k c0) hl (by omega)
          generalize atE r.1 (L.getD k c0) = E at *
          (conv => whnf); repeat' (first | ((with_reducible refine isC ?_); first | ((with_reducible refine isF 21 ?_); (refine CallX_v hv (ArgSl.row 0 rfl) ?_); conv => whnf)) | ((with_reducible refine isV ?_); first | ((refine ValX_index tabOk rfl (ArgSl.row 1 rfl) rfl ?_ ?_ ?_) <;> first | omega | (with_reducible show (_ : Int) ≤ _) | (with_reducible show (_ : Int) < _) | (with_reducible show (_ : Nat) ≤ _) | (with_reducible show (_ : Nat) < _) | (conv => whnf)) | ((with_reducible refine nat_idx ?_); (refine ValX_loadEn _ _ (c0) tabOk rfl rfl rfl rfl (ArgSl.row 1 rfl) ?_ ?_ ?_) <;> first | rfl | omega | (with_reducible show (_ : Int) ≤ _) | (with_reducible show (_ : Int) < _) | (with_reducible show (_ : Nat) ≤ _) | (with_reducible show (_ : Nat) < _) | (conv => whnf)) | ((refine ValX_loadE _ _ (c0) tabOk rfl rfl rfl rfl (ArgSl.row 1 rfl) ?_ ?_ ?_) <;> first | rfl | omega | (with_reducible show (_ : Int) ≤ _) | (with_reducible show (_ : Int) < _) | (with_reducible show (_ : Nat) ≤ _) | (with_reducible show (_ : Nat) < _) | (conv => whnf))) | ((with_reducible refine isO ?_); first | ((refine OpX_build0 tabOk rfl rfl rfl ?_); intro bN; conv => whnf) | ((refine OpX_build tabOk rfl rfl rfl rfl rfl ?_); intro bN; conv => whnf)) | ((with_reducible refine isW ?_); first | ((with_reducible refine xwr_ok (by omega) (by omega) ?_); conv => whnf) | ((with_reducible refine xwr_raw ?_); conv => whnf)) | ((with_reducible refine isQ ?_); first | ((with_reducible refine xquo_nn (by omega) (by omega) (by omega) ?_); conv => whnf) | ((with_reducible refine xquo_ok (by omega) (by omega) (by omega) ?_); conv => whnf) | ((with_reducible refine xquo_raw (by omega) ?_); conv => whnf)) | ((with_reducible refine isR ?_); first | ((with_reducible refine xrem_nn (by omega) (by omega) ?_); conv => whnf) | ((with_reducible refine xrem_raw (by omega) ?_); conv => whnf)) | ((with_reducible refine isS ?_); first | ((with_reducible refine xshr_1 ?_); conv => whnf)) | ((with_reducible refine isK ?_); first | ((with_reducible refine xcv_i64 (by omega) (by omega) ?_); conv => whnf) | ((with_reducible refine xcv_u64 (by omega) (by omega) ?_); conv => whnf) | ((with_reducible refine xcv_u8 (by omega) (by omega) ?_); conv => whnf) | ((with_reducible refine xcv_raw ?_); conv => whnf)) | ((with_reducible refine need_i ?_ ?_) <;> first | omega | (conv => whnf)) | ((refine DrawX_s tabOk folOk ?_); conv => whnf) | ((refine DrawS_i (by kernel_rfl) ?_); conv => whnf) | ((with_reducible refine andX_i ?_ ?_) <;> (conv => whnf)) | (with_reducible exact rfl) | ((with_reducible refine xif_kt (by with_reducible assumption) ?_); conv => whnf) | ((with_reducible refine xif_kf (by with_reducible assumption) ?_); conv => whnf) | (((with_reducible refine xif_s ?_ ?_) <;> (intro hb; (try simp (disch := omega) only [wr, ge_dec, gt_dec, decide_eq_true_eq, decide_eq_false_iff_not, beq_iff_eq, bne_iff_ne, beq_eq_false_iff_ne, bne_eq_false_iff_eq, Bool.not_eq_true', Bool.not_eq_false', Bool.and_eq_true, Bool.or_eq_true, Bool.not_not, ne_eq, Decidable.not_not, Int.not_le, Int.not_lt, Int.toNat_natCast, not_true_eq_false, eq_self, Bool.not_true, Bool.not_false, Bool.true_eq_false, Bool.false_eq_true] at hb))) <;> (conv => whnf)))
          all_goals try (exfalso; omega)
          refine ⟨k + 1, [0, 1], by (try dsimp only); omega, ?_, by (try dsimp only); omega⟩
          ((refine ⟨?_, ?_, ?_, ?_⟩) <;> (repeat' ((conv => whnf); apply And.intro)) <;> (try (first | exact trivial | decide)))
          all_goals first | rfl | exact fun _ _ h => h | (simp [SV.wf, SV.wfs]; done) | trace_state
        · obtain rfl : k = m := by omega
          (conv => whnf); repeat' (first | ((with_reducible refine isO ?_); first | ((refine OpX_build0 tabOk rfl rfl rfl ?_); intro bN; conv => whnf) | ((refine OpX_build tabOk rfl rfl rfl rfl rfl ?_); intro bN; conv => whnf)) | ((with_reducible refine isW ?_); first | ((with_reducible refine xwr_ok (by omega) (by omega) ?_); conv => whnf) | ((with_reducible refine xwr_raw ?_); conv => whnf)) | ((with_reducible refine isQ ?_); first | ((with_reducible refine xquo_nn (by omega) (by omega) (by omega) ?_); conv => whnf) | ((with_reducible refine xquo_ok (by omega) (by omega) (by omega) ?_); conv => whnf) | ((with_reducible refine xquo_raw (by omega) ?_); conv => whnf)) | ((with_reducible refine isR ?_); first | ((with_reducible refine xrem_nn (by omega) (by omega) ?_); conv => whnf) | ((with_reducible refine xrem_raw (by omega) ?_); conv => whnf)) | ((with_reducible refine isS ?_); first | ((with_reducible refine xshr_1 ?_); conv => whnf)) | ((with_reducible refine isK ?_); first | ((with_reducible refine xcv_i64 (by omega) (by omega) ?_); conv => whnf) | ((with_reducible refine xcv_u64 (by omega) (by omega) ?_); conv => whnf) | ((with_reducible refine xcv_u8 (by omega) (by omega) ?_); conv => whnf) | ((with_reducible refine xcv_raw ?_); conv => whnf)) | ((with_reducible refine need_i ?_ ?_) <;> first | omega | (conv => whnf)) | ((refine DrawX_s tabOk folOk ?_); conv => whnf) | ((refine DrawS_i (by kernel_rfl) ?_); conv => whnf) | ((with_reducible refine andX_i ?_ ?_) <;> (conv => whnf)) | (with_reducible exact rfl) | ((with_reducible refine xif_kt (by with_reducible assumption) ?_); conv => whnf) | ((with_reducible refine xif_kf (by with_reducible assumption) ?_); conv => whnf) | (((with_reducible refine xif_s ?_ ?_) <;> (intro hb; (try simp (disch := omega) only [wr, ge_dec, gt_dec, decide_eq_true_eq, decide_eq_false_iff_not, beq_iff_eq, bne_iff_ne, beq_eq_false_iff_ne, bne_eq_false_iff_eq, Bool.not_eq_true', Bool.not_eq_false', Bool.and_eq_true, Bool.or_eq_true, Bool.not_not, ne_eq, Decidable.not_not, Int.not_le, Int.not_lt, Int.toNat_natCast, not_true_eq_false, eq_self, Bool.not_true, Bool.not_false, Bool.true_eq_false, Bool.false_eq_true] at hb))) <;> (conv => whnf)))
          all_goals try (exfalso; omega)
          all_goals exact Fin_pure rfl (by simp; omega) trivial
  · refine CallW.of Try.func13 rfl tabOk rfl rfl rfl (by simp [SV.wfs, SV.wf]) (by simp [SV.wfs, SV.wf]) fun w hpre => ?_
    (conv => whnf); repeat' (first | ((with_reducible refine isC ?_); first | ((with_reducible refine CallX_pure (awake15_x) ?_) <;> first | omega | (with_reducible show (_ : Int) ≤ _) | (with_reducible show (_ : Int) < _) | (with_reducible show (_ : Nat) ≤ _) | (with_reducible show (_ : Nat) < _) | (conv => whnf))) | ((with_reducible refine isO ?_); first | ((refine OpX_build0 tabOk rfl rfl rfl ?_); intro bN; conv => whnf) | ((refine OpX_build tabOk rfl rfl rfl rfl rfl ?_); intro bN; conv => whnf)) | ((with_reducible refine isW ?_); first | ((with_reducible refine xwr_ok (by omega) (by omega) ?_); conv => whnf) | ((with_reducible refine xwr_raw ?_); conv => whnf)) | ((with_reducible refine isQ ?_); first | ((with_reducible refine xquo_nn (by omega) (by omega) (by omega) ?_); conv => whnf) | ((with_reducible refine xquo_ok (by omega) (by omega) (by omega) ?_); conv => whnf) | ((with_reducible refine xquo_raw (by omega) ?_); conv => whnf)) | ((with_reducible refine isR ?_); first | ((with_reducible refine xrem_nn (by omega) (by omega) ?_); conv => whnf) | ((with_reducible refine xrem_raw (by omega) ?_); conv => whnf)) | ((with_reducible refine isS ?_); first | ((with_reducible refine xshr_1 ?_); conv => whnf)) | ((with_reducible refine isK ?_); first | ((with_reducible refine xcv_i64 (by omega) (by omega) ?_); conv => whnf) | ((with_reducible refine xcv_u64 (by omega) (by omega) ?_); conv => whnf) | ((with_reducible refine xcv_u8 (by omega) (by omega) ?_); conv => whnf) | ((with_reducible refine xcv_raw ?_); conv => whnf)) | ((with_reducible refine need_i ?_ ?_) <;> first | omega | (conv => whnf)) | ((refine DrawX_s tabOk folOk ?_); conv => whnf) | ((refine DrawS_i (by kernel_rfl) ?_); conv => whnf) | ((with_reducible refine andX_i ?_ ?_) <;> (conv => whnf)) | (with_reducible exact rfl) | ((with_reducible refine xif_kt (by with_reducible assumption) ?_); conv => whnf) | ((with_reducible refine xif_kf (by with_reducible assumption) ?_); conv => whnf) | (((with_reducible refine xif_s ?_ ?_) <;> (intro hb; (try simp (disch := omega) only [wr, ge_dec, gt_dec, decide_eq_true_eq, decide_eq_false_iff_not, beq_iff_eq, bne_iff_ne, beq_eq_false_iff_ne, bne_eq_false_iff_eq, Bool.not_eq_true', Bool.not_eq_false', Bool.and_eq_true, Bool.or_eq_true, Bool.not_not, ne_eq, Decidable.not_not, Int.not_le, Int.not_lt, Int.toNat_natCast, not_true_eq_false, eq_self, Bool.not_true, Bool.not_false, Bool.true_eq_false, Bool.false_eq_true] at hb))) <;> (conv => whnf)))
    all_goals first
      | exact Fin_pure rfl rfl trivial
      | (exfalso; omega)
/-- the same, over a slice as it is opened -/
theorem starts_walk (X Y H : Int) (A0 : Option Addr) (n0 c0 : Nat) (V0 : Nat → Nat → Int) (w : World) (h0 : SlO w A0 n0 2 V0) (g0 : n0 ≤ c0) (k0 : c0 ≤ maxLen) :
    Calls Try.prog 13 #[.agg #[.int .i64 X, .int .i64 Y, .int .i64 H], .slice A0 n0 c0] w fun e w' => e = .returned (.bool true) ∧ Below w.heap.size w w' := by
  have a0 := ArgSl.of_SlO encB (fun i => (V0 i 0, V0 i 1)) h0 (by decide) (fun i => rfl)
  generalize e0 : (List.range n0).map (fun i => (V0 i 0, V0 i 1)) = xs at a0
  obtain rfl : xs.length = n0 := by rw [← e0]; simp
  exact (starts_x (X, Y, H) A0 c0 xs rfl (by omega)).2.2 (fun _ => 0) w a0
end Go.Proofs.Ytdjimfngnhnhnaa.En
