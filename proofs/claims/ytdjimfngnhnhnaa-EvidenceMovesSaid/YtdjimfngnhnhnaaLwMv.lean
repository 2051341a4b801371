/- The walk of EvidenceMoves. -/
import Derived.Test.YtdjimfngnhnhnaaMv
import Derived.Test.YtdjimfngnhnhnaaBr
set_option linter.all false
namespace Go.Proofs.Ytdjimfngnhnhnaa.En
open Go.RowKit
set_option maxRecDepth 100000

theorem clip_bd (n m : Int) (h : 0 ≤ m) : -m ≤ clipI n (-m) m ∧ clipI n (-m) m ≤ m := by
  unfold clipI
  omega
set_option maxHeartbeats 4000000 in
theorem moves_x (p : PoseT) (A1 : Option Addr) (c1 : Nat) (s : List BeamT) (by_ : CellT) {n : Nat} (hs : s.length = n) (hn : n ≤ maxLen) :
    CallW Try.prog 5 [.a [I p.1, I p.2.1, I p.2.2], .v (.slice A1 n c1), .a [I by_.1, I by_.2]] (fun w => ArgSl w A1 n 2 (s.map encB)) (B true) := by
  have hn' := hn
  unfold maxLen at hn'
  by_cases hg : n ≤ 5
  · have kp := place_x p 131072 (by decide)
    obtain ⟨p1, p2, p3, p4⟩ := place_ok p 131072 (by decide)
    have kc1 := Clip_x by_.1 (-1000) 1000
    have kc2 := Clip_x by_.2 (-1000) 1000
    have b1 := clip_bd by_.1 1000 (by decide)
    have b2 := clip_bd by_.2 1000 (by decide)
    generalize placeF p 131072 = q at *
    generalize clipI by_.1 (-1000) 1000 = x at *
    generalize clipI by_.2 (-1000) 1000 = y at *
    have q1 := szB_bd p1
    have q2 := szB_bd p2
    have k1 := ofE_m q A1 c1 s _ rfl hs hn
    have k2 := ofE_m (q.1 + x * 64, q.2.1 + y * 64, q.2.2) A1 c1 s _ rfl hs hn
    have hok : ofOk (movA (x, y) q) s = ofOk q s := by
      unfold ofOk
      have e1 : szB (movA (x, y) q).1 262144 = true := by
        unfold movA szB
        simp only [decide_eq_true_eq]
        omega
      have e2 : szB (movA (x, y) q).2.1 262144 = true := by
        unfold movA szB
        simp only [decide_eq_true_eq]
        omega
      have e3 : szB q.1 262144 = true := by
        unfold szB
        simp only [decide_eq_true_eq]
        omega
      have e4 : szB q.2.1 262144 = true := by
        unfold szB
        simp only [decide_eq_true_eq]
        omega
      rw [e1, e2, e3, e4]
      rfl
    rw [show ofE (q.1 + x * 64, q.2.1 + y * 64, q.2.2) s = ((ofE q s).1.map (movE (x, y)), (ofE q s).2) from ofE_mov (x, y) q s hok] at k2
    have hnear := ofE_near q s
    have l1 := ofE_len q s
    dsimp only at k2
    generalize ofE q s = r at *
    have hms : ∀ j, j < r.1.length → (r.1.map (movE (x, y))).getD j e0 = movE (x, y) (r.1.getD j e0) := fun j hj => by simp [hj]
    have hml : (r.1.map (movE (x, y))).length = r.1.length := by simp
    generalize r.1.map (movE (x, y)) = ms at *
    refine CallW.of Try.func5 rfl tabOk rfl rfl rfl (by simp [SV.wfs, SV.wf]) (by simp [SV.wfs, SV.wf]) fun w hpre => ?_
    (conv => whnf); repeat' (first | ((with_reducible refine isC ?_); first | ((with_reducible refine CallX_pure (awake15_x) ?_) <;> first | omega | (with_reducible show (_ : Int) ≤ _) | (with_reducible show (_ : Int) < _) | (with_reducible show (_ : Nat) ≤ _) | (with_reducible show (_ : Nat) < _) | (conv => whnf)) | ((with_reducible refine CallX_pure (kp) ?_) <;> first | omega | (with_reducible show (_ : Int) ≤ _) | (with_reducible show (_ : Int) < _) | (with_reducible show (_ : Nat) ≤ _) | (with_reducible show (_ : Nat) < _) | (conv => whnf)) | ((with_reducible refine CallX_pure (kc1) ?_) <;> first | omega | (with_reducible show (_ : Int) ≤ _) | (with_reducible show (_ : Int) < _) | (with_reducible show (_ : Nat) ≤ _) | (with_reducible show (_ : Nat) < _) | (conv => whnf)) | ((with_reducible refine CallX_pure (kc2) ?_) <;> first | omega | (with_reducible show (_ : Int) ≤ _) | (with_reducible show (_ : Int) < _) | (with_reducible show (_ : Nat) ≤ _) | (with_reducible show (_ : Nat) < _) | (conv => whnf)) | ((with_reducible refine isF 26 ?_); (with_reducible refine CallX_m (k1) [] ?_ ?_ ?_ ?_ ?_); (focus (exact rfl)); (focus (exact trivial)); (focus (decide)); (focus (exact fun σ fp w hm => ArgN.of0 (hpre.mem (by decide) rfl σ fp w hm) _)); intro q; obtain ⟨A_1, c_1⟩ := q; dsimp only; conv => whnf) | ((with_reducible refine isF 26 ?_); (with_reducible refine CallX_m (k2) [] ?_ ?_ ?_ ?_ ?_); (focus (exact rfl)); (focus (exact trivial)); (focus (decide)); (focus (exact fun σ fp w hm => ArgN.of0 (hpre.mem (by decide) rfl σ fp w hm) _)); intro q; obtain ⟨A_2, c_2⟩ := q; dsimp only; conv => whnf)) | ((with_reducible refine isO ?_); first | ((refine OpX_build0 tabOk rfl rfl rfl ?_); intro bN; conv => whnf) | ((refine OpX_build tabOk rfl rfl rfl rfl rfl ?_); intro bN; conv => whnf)) | ((with_reducible refine isW ?_); first | ((with_reducible refine xwr_ok (by omega) (by omega) ?_); conv => whnf) | ((with_reducible refine xwr_raw ?_); conv => whnf)) | ((with_reducible refine isQ ?_); first | ((with_reducible refine xquo_nn (by omega) (by omega) (by omega) ?_); conv => whnf) | ((with_reducible refine xquo_ok (by omega) (by omega) (by omega) ?_); conv => whnf) | ((with_reducible refine xquo_raw (by omega) ?_); conv => whnf)) | ((with_reducible refine isR ?_); first | ((with_reducible refine xrem_nn (by omega) (by omega) ?_); conv => whnf) | ((with_reducible refine xrem_raw (by omega) ?_); conv => whnf)) | ((with_reducible refine isS ?_); first | ((with_reducible refine xshr_1 ?_); conv => whnf)) | ((with_reducible refine isK ?_); first | ((with_reducible refine xcv_i64 (by omega) (by omega) ?_); conv => whnf) | ((with_reducible refine xcv_u64 (by omega) (by omega) ?_); conv => whnf) | ((with_reducible refine xcv_u8 (by omega) (by omega) ?_); conv => whnf) | ((with_reducible refine xcv_raw ?_); conv => whnf)) | ((with_reducible refine need_i ?_ ?_) <;> first | omega | (conv => whnf)) | ((refine DrawX_s tabOk folOk ?_); conv => whnf) | ((refine DrawS_i (by kernel_rfl) ?_); conv => whnf) | ((with_reducible refine andX_i ?_ ?_) <;> (conv => whnf)) | (with_reducible exact rfl) | ((with_reducible refine xif_kt (by with_reducible assumption) ?_); conv => whnf) | ((with_reducible refine xif_kf (by with_reducible assumption) ?_); conv => whnf) | (((with_reducible refine xif_s ?_ ?_) <;> (intro hb; (try simp (disch := omega) only [wr, ge_dec, gt_dec, decide_eq_true_eq, decide_eq_false_iff_not, beq_iff_eq, bne_iff_ne, beq_eq_false_iff_ne, bne_eq_false_iff_eq, Bool.not_eq_true', Bool.not_eq_false', Bool.and_eq_true, Bool.or_eq_true, Bool.not_not, ne_eq, Decidable.not_not, Int.not_le, Int.not_lt, Int.toNat_natCast, not_true_eq_false, eq_self, Bool.not_true, Bool.not_false, Bool.true_eq_false, Bool.false_eq_true] at hb))) <;> (conv => whnf)))
    all_goals try (exfalso; omega)
    rw [hml]
    have hml' : ms.length = r.1.length := hml
    generalize hl : r.1.length = m at *
    refine LoopX_inv tabOk (α := Nat) (fun k => k ≤ m) (fun k => [(13, I k), (7, I x), (8, I y), (9, .v (.slice A_1 m c_1)), (11, .v (.slice A_2 m c_2))]) (fun _ => [.row 36 4 A_1 m c_1 (r.1.map encE), .row 36 4 A_2 m c_2 (ms.map encE)]) (fun k => m - k) 0 [2, 3] (Nat.zero_le _) ?_ ?_
    · ((refine ⟨?_, ?_, ?_, ?_⟩) <;> (repeat' ((conv => whnf); apply And.intro)) <;> (try (first | exact trivial | decide)))
      all_goals first | rfl | exact fun _ _ h => h | (simp [SV.wf, SV.wfs]; done) | trace_state
    · intro k hk
      by_cases hlt : k < m
      · have hmk := hms k hlt
        have hnk := hnear (r.1.getD k e0) (by simp [hl, hlt])
        (conv => whnf); repeat' (first | ((with_reducible refine isV ?_); first | ((with_reducible refine nat_idxF ?_); (refine ValX_loadGn _ _ (e0) _ tabOk rfl rfl rfl (ArgSl.row 0 rfl) ?_ ?_ rfl rfl ?_) <;> first | omega | (with_reducible show (_ : Int) ≤ _) | (with_reducible show (_ : Int) < _) | (with_reducible show (_ : Nat) ≤ _) | (with_reducible show (_ : Nat) < _) | (conv => whnf)) | ((refine ValX_loadG _ _ (e0) _ tabOk rfl rfl rfl (ArgSl.row 0 rfl) ?_ ?_ rfl rfl ?_) <;> first | omega | (with_reducible show (_ : Int) ≤ _) | (with_reducible show (_ : Int) < _) | (with_reducible show (_ : Nat) ≤ _) | (with_reducible show (_ : Nat) < _) | (conv => whnf)) | ((with_reducible refine nat_idxF ?_); (refine ValX_loadFn _ _ (e0) _ tabOk rfl rfl rfl (ArgSl.row 0 rfl) ?_ ?_ rfl ?_) <;> first | omega | (simp; omega) | (with_reducible show (_ : Int) ≤ _) | (with_reducible show (_ : Int) < _) | (with_reducible show (_ : Nat) ≤ _) | (with_reducible show (_ : Nat) < _) | (conv => whnf)) | ((refine ValX_loadF _ _ (e0) _ tabOk rfl rfl rfl (ArgSl.row 0 rfl) ?_ ?_ rfl ?_) <;> first | omega | (simp; omega) | (with_reducible show (_ : Int) ≤ _) | (with_reducible show (_ : Int) < _) | (with_reducible show (_ : Nat) ≤ _) | (with_reducible show (_ : Nat) < _) | (conv => whnf)) | ((refine ValX_index tabOk rfl (ArgSl.row 0 rfl) rfl ?_ ?_ ?_) <;> first | omega | (with_reducible show (_ : Int) ≤ _) | (with_reducible show (_ : Int) < _) | (with_reducible show (_ : Nat) ≤ _) | (with_reducible show (_ : Nat) < _) | (conv => whnf)) | ((refine ValX_index tabOk rfl (ArgSl.row 1 rfl) rfl ?_ ?_ ?_) <;> first | omega | (with_reducible show (_ : Int) ≤ _) | (with_reducible show (_ : Int) < _) | (with_reducible show (_ : Nat) ≤ _) | (with_reducible show (_ : Nat) < _) | (conv => whnf)) | ((with_reducible refine nat_idx ?_); (refine ValX_loadEn _ _ (e0) tabOk rfl rfl rfl rfl (ArgSl.row 1 rfl) ?_ ?_ ?_) <;> first | rfl | omega | (with_reducible show (_ : Int) ≤ _) | (with_reducible show (_ : Int) < _) | (with_reducible show (_ : Nat) ≤ _) | (with_reducible show (_ : Nat) < _) | (conv => whnf)) | ((refine ValX_loadE _ _ (e0) tabOk rfl rfl rfl rfl (ArgSl.row 1 rfl) ?_ ?_ ?_) <;> first | rfl | omega | (with_reducible show (_ : Int) ≤ _) | (with_reducible show (_ : Int) < _) | (with_reducible show (_ : Nat) ≤ _) | (with_reducible show (_ : Nat) < _) | (conv => whnf))) | ((with_reducible refine isO ?_); first | ((refine OpX_build0 tabOk rfl rfl rfl ?_); intro bN; conv => whnf) | ((refine OpX_build tabOk rfl rfl rfl rfl rfl ?_); intro bN; conv => whnf)) | ((with_reducible refine isW ?_); first | ((with_reducible refine xwr_ok (by omega) (by omega) ?_); conv => whnf) | ((with_reducible refine xwr_raw ?_); conv => whnf)) | ((with_reducible refine isQ ?_); first | ((with_reducible refine xquo_nn (by omega) (by omega) (by omega) ?_); conv => whnf) | ((with_reducible refine xquo_ok (by omega) (by omega) (by omega) ?_); conv => whnf) | ((with_reducible refine xquo_raw (by omega) ?_); conv => whnf)) | ((with_reducible refine isR ?_); first | ((with_reducible refine xrem_nn (by omega) (by omega) ?_); conv => whnf) | ((with_reducible refine xrem_raw (by omega) ?_); conv => whnf)) | ((with_reducible refine isS ?_); first | ((with_reducible refine xshr_1 ?_); conv => whnf)) | ((with_reducible refine isK ?_); first | ((with_reducible refine xcv_i64 (by omega) (by omega) ?_); conv => whnf) | ((with_reducible refine xcv_u64 (by omega) (by omega) ?_); conv => whnf) | ((with_reducible refine xcv_u8 (by omega) (by omega) ?_); conv => whnf) | ((with_reducible refine xcv_raw ?_); conv => whnf)) | ((with_reducible refine need_i ?_ ?_) <;> first | omega | (conv => whnf)) | ((refine DrawX_s tabOk folOk ?_); conv => whnf) | ((refine DrawS_i (by kernel_rfl) ?_); conv => whnf) | ((with_reducible refine andX_i ?_ ?_) <;> (conv => whnf)) | (with_reducible exact rfl) | ((with_reducible refine xif_kt (by with_reducible assumption) ?_); conv => whnf) | ((with_reducible refine xif_kf (by with_reducible assumption) ?_); conv => whnf) | (((with_reducible refine xif_s ?_ ?_) <;> (intro hb; (try simp (disch := omega) only [wr, ge_dec, gt_dec, decide_eq_true_eq, decide_eq_false_iff_not, beq_iff_eq, bne_iff_ne, beq_eq_false_iff_ne, bne_eq_false_iff_eq, Bool.not_eq_true', Bool.not_eq_false', Bool.and_eq_true, Bool.or_eq_true, Bool.not_not, ne_eq, Decidable.not_not, Int.not_le, Int.not_lt, Int.toNat_natCast, not_true_eq_false, eq_self, Bool.not_true, Bool.not_false, Bool.true_eq_false, Bool.false_eq_true] at hb))) <;> (conv => whnf)))
        all_goals try (exfalso; omega)
        · exfalso
          rw [hmk] at hb
          simp [movE] at hb
        · refine ⟨k + 1, [0, 1], by (try dsimp only); omega, ?_, by (try dsimp only); omega⟩
          ((refine ⟨?_, ?_, ?_, ?_⟩) <;> (repeat' ((conv => whnf); apply And.intro)) <;> (try (first | exact trivial | decide)))
          all_goals first | rfl | exact fun _ _ h => h | (simp [SV.wf, SV.wfs]; done) | trace_state
      · obtain rfl : k = m := by omega
        (conv => whnf); repeat' (first | ((with_reducible refine isO ?_); first | ((refine OpX_build0 tabOk rfl rfl rfl ?_); intro bN; conv => whnf) | ((refine OpX_build tabOk rfl rfl rfl rfl rfl ?_); intro bN; conv => whnf)) | ((with_reducible refine isW ?_); first | ((with_reducible refine xwr_ok (by omega) (by omega) ?_); conv => whnf) | ((with_reducible refine xwr_raw ?_); conv => whnf)) | ((with_reducible refine isQ ?_); first | ((with_reducible refine xquo_nn (by omega) (by omega) (by omega) ?_); conv => whnf) | ((with_reducible refine xquo_ok (by omega) (by omega) (by omega) ?_); conv => whnf) | ((with_reducible refine xquo_raw (by omega) ?_); conv => whnf)) | ((with_reducible refine isR ?_); first | ((with_reducible refine xrem_nn (by omega) (by omega) ?_); conv => whnf) | ((with_reducible refine xrem_raw (by omega) ?_); conv => whnf)) | ((with_reducible refine isS ?_); first | ((with_reducible refine xshr_1 ?_); conv => whnf)) | ((with_reducible refine isK ?_); first | ((with_reducible refine xcv_i64 (by omega) (by omega) ?_); conv => whnf) | ((with_reducible refine xcv_u64 (by omega) (by omega) ?_); conv => whnf) | ((with_reducible refine xcv_u8 (by omega) (by omega) ?_); conv => whnf) | ((with_reducible refine xcv_raw ?_); conv => whnf)) | ((with_reducible refine need_i ?_ ?_) <;> first | omega | (conv => whnf)) | ((refine DrawX_s tabOk folOk ?_); conv => whnf) | ((refine DrawS_i (by kernel_rfl) ?_); conv => whnf) | ((with_reducible refine andX_i ?_ ?_) <;> (conv => whnf)) | (with_reducible exact rfl) | ((with_reducible refine xif_kt (by with_reducible assumption) ?_); conv => whnf) | ((with_reducible refine xif_kf (by with_reducible assumption) ?_); conv => whnf) | (((with_reducible refine xif_s ?_ ?_) <;> (intro hb; (try simp (disch := omega) only [wr, ge_dec, gt_dec, decide_eq_true_eq, decide_eq_false_iff_not, beq_iff_eq, bne_iff_ne, beq_eq_false_iff_ne, bne_eq_false_iff_eq, Bool.not_eq_true', Bool.not_eq_false', Bool.and_eq_true, Bool.or_eq_true, Bool.not_not, ne_eq, Decidable.not_not, Int.not_le, Int.not_lt, Int.toNat_natCast, not_true_eq_false, eq_self, Bool.not_true, Bool.not_false, Bool.true_eq_false, Bool.false_eq_true] at hb))) <;> (conv => whnf)))
        all_goals try (exfalso; omega)
        all_goals exact Fin_pure rfl rfl trivial
  · refine CallW.of Try.func5 rfl tabOk rfl rfl rfl (by simp [SV.wfs, SV.wf]) (by simp [SV.wfs, SV.wf]) fun w hpre => ?_
    (conv => whnf); repeat' (first | ((with_reducible refine isC ?_); first | ((with_reducible refine CallX_pure (awake15_x) ?_) <;> first | omega | (with_reducible show (_ : Int) ≤ _) | (with_reducible show (_ : Int) < _) | (with_reducible show (_ : Nat) ≤ _) | (with_reducible show (_ : Nat) < _) | (conv => whnf))) | ((with_reducible refine isO ?_); first | ((refine OpX_build0 tabOk rfl rfl rfl ?_); intro bN; conv => whnf) | ((refine OpX_build tabOk rfl rfl rfl rfl rfl ?_); intro bN; conv => whnf)) | ((with_reducible refine isW ?_); first | ((with_reducible refine xwr_ok (by omega) (by omega) ?_); conv => whnf) | ((with_reducible refine xwr_raw ?_); conv => whnf)) | ((with_reducible refine isQ ?_); first | ((with_reducible refine xquo_nn (by omega) (by omega) (by omega) ?_); conv => whnf) | ((with_reducible refine xquo_ok (by omega) (by omega) (by omega) ?_); conv => whnf) | ((with_reducible refine xquo_raw (by omega) ?_); conv => whnf)) | ((with_reducible refine isR ?_); first | ((with_reducible refine xrem_nn (by omega) (by omega) ?_); conv => whnf) | ((with_reducible refine xrem_raw (by omega) ?_); conv => whnf)) | ((with_reducible refine isS ?_); first | ((with_reducible refine xshr_1 ?_); conv => whnf)) | ((with_reducible refine isK ?_); first | ((with_reducible refine xcv_i64 (by omega) (by omega) ?_); conv => whnf) | ((with_reducible refine xcv_u64 (by omega) (by omega) ?_); conv => whnf) | ((with_reducible refine xcv_u8 (by omega) (by omega) ?_); conv => whnf) | ((with_reducible refine xcv_raw ?_); conv => whnf)) | ((with_reducible refine need_i ?_ ?_) <;> first | omega | (conv => whnf)) | ((refine DrawX_s tabOk folOk ?_); conv => whnf) | ((refine DrawS_i (by kernel_rfl) ?_); conv => whnf) | ((with_reducible refine andX_i ?_ ?_) <;> (conv => whnf)) | (with_reducible exact rfl) | ((with_reducible refine xif_kt (by with_reducible assumption) ?_); conv => whnf) | ((with_reducible refine xif_kf (by with_reducible assumption) ?_); conv => whnf) | (((with_reducible refine xif_s ?_ ?_) <;> (intro hb; (try simp (disch := omega) only [wr, ge_dec, gt_dec, decide_eq_true_eq, decide_eq_false_iff_not, beq_iff_eq, bne_iff_ne, beq_eq_false_iff_ne, bne_eq_false_iff_eq, Bool.not_eq_true', Bool.not_eq_false', Bool.and_eq_true, Bool.or_eq_true, Bool.not_not, ne_eq, Decidable.not_not, Int.not_le, Int.not_lt, Int.toNat_natCast, not_true_eq_false, eq_self, Bool.not_true, Bool.not_false, Bool.true_eq_false, Bool.false_eq_true] at hb))) <;> (conv => whnf)))
    all_goals first
      | exact Fin_pure rfl rfl trivial
      | (exfalso; omega)
/-- the same, over a slice as it is opened -/
theorem moves_walk (X Y H : Int) (A0 : Option Addr) (n0 c0 : Nat) (V0 : Nat → Nat → Int) (DX DY : Int) (w : World) (h0 : SlO w A0 n0 2 V0) (g0 : n0 ≤ c0) (k0 : c0 ≤ maxLen) :
    Calls Try.prog 5 #[.agg #[.int .i64 X, .int .i64 Y, .int .i64 H], .slice A0 n0 c0, .agg #[.int .i64 DX, .int .i64 DY]] w fun e w' => e = .returned (.bool true) ∧ Below w.heap.size w w' := by
  have a0 := ArgSl.of_SlO encB (fun i => (V0 i 0, V0 i 1)) h0 (by decide) (fun i => rfl)
  generalize e0 : (List.range n0).map (fun i => (V0 i 0, V0 i 1)) = xs at a0
  obtain rfl : xs.length = n0 := by rw [← e0]; simp
  exact (moves_x (X, Y, H) A0 c0 xs (DX, DY) rfl (by omega)).2.2 (fun _ => 0) w a0
end Go.Proofs.Ytdjimfngnhnhnaa.En
