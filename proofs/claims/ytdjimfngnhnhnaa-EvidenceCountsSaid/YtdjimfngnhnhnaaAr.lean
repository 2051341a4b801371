/- plan.Around by the executor, and what a scan adds at the cells around its position -/
import Derived.Test.YtdjimfngnhnhnaaMg
import Derived.Test.YtdjimfngnhnhnaaBa
set_option linter.all false
namespace Go.Proofs.Ytdjimfngnhnhnaa.En
open Go.RowKit
set_option maxRecDepth 100000

theorem rep_at {f : CellT → Int × Int} {l : List EntT} (h : Rep f l) (hv : vE l = true) (c : CellT) : ((atE l c).2.2.1, (atE l c).2.2.2) = f c := by
  by_cases hc : ∃ e ∈ l, e.cell = c
  · obtain ⟨e, he, rfl⟩ := hc
    rw [at_mem hv he]
    exact ((h.2 e).1 he).2.symm
  · have hn : ∀ e ∈ l, e.cell ≠ c := fun e he hx => hc ⟨e, he, hx⟩
    rw [at_none hn]
    refine Classical.byContradiction fun hf => ?_
    refine hn (c.1, c.2, (f c).1, (f c).2) ((h.2 _).2 ⟨?_, rfl⟩) rfl
    rw [Bool.eq_false_iff]
    intro hz
    simp only [zeroE, Bool.and_eq_true, decide_eq_true_eq] at hz
    exact hf (Prod.ext hz.1.symm hz.2.symm)
theorem contB_sum {a : PoseT} {b : BeamT} {c : CellT} (h : c ∈ metL (a.1, a.2.1) (beamF a.2.2 b.1) b) : (contB a b c).1 + (contB a b c).2 = 1 := by
  have hc := count_of (met_nodup (a.1, a.2.1) (beamF a.2.2 b.1) b) c
  rw [if_pos h] at hc
  unfold contB contE
  rw [hc]
  split <;> simp
theorem contS_sum {a : PoseT} {c : CellT} : ∀ {s : List BeamT}, (∀ b ∈ s, c ∈ metL (a.1, a.2.1) (beamF a.2.2 b.1) b) → (contS a s c).1 + (contS a s c).2 = s.length
  | [], _ => rfl
  | b :: s, h => by
    have h1 := contB_sum (h b (List.mem_cons_self ..))
    have h2 := contS_sum (s := s) fun x hx => h x (List.mem_cons_of_mem _ hx)
    unfold contS at *
    simp only [List.map_cons, List.sum_cons, List.length_cons]
    omega
theorem ofOk_pt {a : PoseT} {s : List BeamT} (h : ofOk a s = true) : ptB (a.1, a.2.1) := by
  obtain ⟨h1, h2, -⟩ := ofOk_bd h
  have := szB_bd h1
  have := szB_bd h2
  unfold ptB
  dsimp only
  omega
theorem ofOk_beam {a : PoseT} {s : List BeamT} (h : ofOk a s = true) {b : BeamT} (hb : b ∈ s) : -1 ≤ b.2 ∧ b.2 ≤ 1024 := by
  have := scan_mem (ofOk_bd h).2.2 hb
  omega
/-- every beam hits or passes the cells around its position -/
theorem of_around {a : PoseT} {s : List BeamT} (h : ofOk a s = true) {c : CellT} (h1 : c.1 * 64 ≤ a.1 ∧ a.1 ≤ c.1 * 64 + 64) (h2 : c.2 * 64 ≤ a.2.1 ∧ a.2.1 ≤ c.2 * 64 + 64) :
    (atE (ofE a s).1 c).2.2.1 + (atE (ofE a s).1 c).2.2.2 = s.length := by
  obtain ⟨hr, hv⟩ := ofE_rep h
  have e := rep_at hr hv c
  have e2 := contS_sum (a := a) (c := c) (s := s) fun b hb => around_met (ofOk_pt h) (beam_vec _ _) (ofOk_beam h hb) h1 h2
  rw [← e] at e2
  exact e2
/-! ### plan.Around -/
def allC (_ : CellT) : Bool := true
def aroundL (p : PtT) : List CellT := outK allC (spanF (p.1, p.1)).1 (spanF (p.2, p.2)).1 ((spanF (p.1, p.1)).2 - (spanF (p.1, p.1)).1 + 1).toNat ((spanF (p.2, p.2)).2 - (spanF (p.2, p.2)).1 + 1).toNat
theorem mem_around {p : PtT} {c : CellT} (h : c ∈ aroundL p) : (c.1 * 64 ≤ p.1 ∧ p.1 ≤ c.1 * 64 + 64) ∧ c.2 * 64 ≤ p.2 ∧ p.2 ≤ c.2 * 64 + 64 := by
  unfold aroundL at h
  rw [mem_outK] at h
  obtain ⟨-, h1, h2⟩ := h
  unfold spanF at h1 h2
  dsimp only at h1 h2
  omega
theorem around_pos (p : PtT) : 0 < (aroundL p).length := by
  refine List.length_pos_of_mem (a := (p.1 / 64, p.2 / 64)) ?_
  unfold aroundL
  rw [mem_outK]
  refine ⟨rfl, ?_, ?_⟩ <;> unfold spanF <;> dsimp only <;> omega
theorem validRect_x (p : PtT) (h : ptB p) : PureX Try.prog 116 [.a [I p.1, I p.2, I p.1, I p.2]] (B true) := by
  have hpx := pPoint_x p
  unfold ptB at h
  rw [show (szB p.1 1048576 && szB p.2 1048576) = true by simp [szB]; omega] at hpx
  refine PureX.of Try.func116 rfl tabOk rfl rfl rfl (by simp [SV.wfs, SV.wf]) (by simp [SV.wfs, SV.wf]) fun w => ?_
  (conv => whnf); repeat' (first | ((with_reducible refine isC ?_); first | ((with_reducible refine CallX_pure (hpx) ?_) <;> first | omega | (with_reducible show (_ : Int) ≤ _) | (with_reducible show (_ : Int) < _) | (with_reducible show (_ : Nat) ≤ _) | (with_reducible show (_ : Nat) < _) | (conv => whnf)) | ((with_reducible refine CallX_pure (hpx) ?_) <;> first | omega | (with_reducible show (_ : Int) ≤ _) | (with_reducible show (_ : Int) < _) | (with_reducible show (_ : Nat) ≤ _) | (with_reducible show (_ : Nat) < _) | (conv => whnf))) | ((with_reducible refine isO ?_); first | ((refine OpX_build0 tabOk rfl rfl rfl ?_); intro bN; conv => whnf) | ((refine OpX_build tabOk rfl rfl rfl rfl rfl ?_); intro bN; conv => whnf)) | ((with_reducible refine isW ?_); first | ((with_reducible refine xwr_ok (by omega) (by omega) ?_); conv => whnf) | ((with_reducible refine xwr_raw ?_); conv => whnf)) | ((with_reducible refine isQ ?_); first | ((with_reducible refine xquo_nn (by omega) (by omega) (by omega) ?_); conv => whnf) | ((with_reducible refine xquo_ok (by omega) (by omega) (by omega) ?_); conv => whnf) | ((with_reducible refine xquo_raw (by omega) ?_); conv => whnf)) | ((with_reducible refine isR ?_); first | ((with_reducible refine xrem_nn (by omega) (by omega) ?_); conv => whnf) | ((with_reducible refine xrem_raw (by omega) ?_); conv => whnf)) | ((with_reducible refine isS ?_); first | ((with_reducible refine xshr_1 ?_); conv => whnf)) | ((with_reducible refine isK ?_); first | ((with_reducible refine xcv_i64 (by omega) (by omega) ?_); conv => whnf) | ((with_reducible refine xcv_u64 (by omega) (by omega) ?_); conv => whnf) | ((with_reducible refine xcv_u8 (by omega) (by omega) ?_); conv => whnf) | ((with_reducible refine xcv_raw ?_); conv => whnf)) | ((with_reducible refine need_i ?_ ?_) <;> first | omega | (conv => whnf)) | ((refine DrawX_s tabOk folOk ?_); conv => whnf) | ((refine DrawS_i (by kernel_rfl) ?_); conv => whnf) | ((with_reducible refine andX_i ?_ ?_) <;> (conv => whnf)) | (with_reducible exact rfl) | ((with_reducible refine xif_kt (by with_reducible assumption) ?_); conv => whnf) | ((with_reducible refine xif_kf (by with_reducible assumption) ?_); conv => whnf) | (((with_reducible refine xif_s ?_ ?_) <;> (intro hb; (try simp (disch := omega) only [wr, ge_dec, gt_dec, decide_eq_true_eq, decide_eq_false_iff_not, beq_iff_eq, bne_iff_ne, beq_eq_false_iff_ne, bne_eq_false_iff_eq, Bool.not_eq_true', Bool.not_eq_false', Bool.and_eq_true, Bool.or_eq_true, Bool.not_not, ne_eq, Decidable.not_not, Int.not_le, Int.not_lt, Int.toNat_natCast, not_true_eq_false, eq_self, Bool.not_true, Bool.not_false, Bool.true_eq_false, Bool.false_eq_true] at hb))) <;> (conv => whnf)))
  all_goals try (exfalso; omega)
  exact Fin_pure rfl rfl trivial
theorem Cells_r (p : PtT) (h : ptB p) :
    CallR Try.prog 88 [.a [I p.1, I p.2, I p.1, I p.2]] (fun _ => True) 32 2 ((aroundL p).map encC) (fun A c => .t [.v (.slice A ((aroundL p).map encC).length c), I 0]) := by
  have hv := validRect_x p h
  unfold ptB at h
  have s1 : PureX Try.prog 117 [I p.1, I p.1] (.t [I (spanF (p.1, p.1)).1, I (spanF (p.1, p.1)).2]) := span_x _ _ (by omega)
  have s2 : PureX Try.prog 117 [I p.2, I p.2] (.t [I (spanF (p.2, p.2)).1, I (spanF (p.2, p.2)).2]) := span_x _ _ (by omega)
  have b1 : -100000 ≤ (spanF (p.1, p.1)).1 ∧ (spanF (p.1, p.1)).1 ≤ (spanF (p.1, p.1)).2 ∧ (spanF (p.1, p.1)).2 ≤ (spanF (p.1, p.1)).1 + 1 ∧ (spanF (p.1, p.1)).2 ≤ 100000 := by
    unfold spanF; dsimp only; omega
  have b2 : -100000 ≤ (spanF (p.2, p.2)).1 ∧ (spanF (p.2, p.2)).1 ≤ (spanF (p.2, p.2)).2 ∧ (spanF (p.2, p.2)).2 ≤ (spanF (p.2, p.2)).1 + 1 ∧ (spanF (p.2, p.2)).2 ≤ 100000 := by
    unfold spanF; dsimp only; omega
  unfold aroundL
  generalize spanF (p.1, p.1) = X at *
  generalize spanF (p.2, p.2) = Y at *
  have hout := outK_len allC X.1 Y.1 (X.2 - X.1 + 1).toNat (by omega)
  have hm : (X.2 - X.1 + 1) * (Y.2 - Y.1 + 1) ≤ 4 ∧ 0 ≤ (X.2 - X.1 + 1) * (Y.2 - Y.1 + 1) := by
    have : X.2 - X.1 + 1 = 1 ∨ X.2 - X.1 + 1 = 2 := by omega
    rcases this with e | e <;> rw [e] <;> omega
  refine CallR.of Try.func88 rfl tabOk rfl rfl rfl (by simp [SV.wfs, SV.wf]) (by intro _ _; simp [SV.wfs, SV.wf]) ?_ ?_ ?_ fun w hpre => ?_
  · have := hout (Y.2 - Y.1 + 1).toNat
    rw [List.length_map]
    omega
  · intro q hq
    obtain ⟨e, _, rfl⟩ := List.mem_map.1 hq
    rfl
  · intro q hq
    obtain ⟨l, hl, hql⟩ := List.mem_flatten.1 hq
    obtain ⟨e, _, rfl⟩ := List.mem_map.1 hl
    simp [encC] at hql
    rcases hql with rfl | rfl <;> rfl
  (conv => whnf); repeat' (first | ((with_reducible refine isC ?_); first | ((with_reducible refine CallX_pure (hv) ?_) <;> first | omega | (with_reducible show (_ : Int) ≤ _) | (with_reducible show (_ : Int) < _) | (with_reducible show (_ : Nat) ≤ _) | (with_reducible show (_ : Nat) < _) | (conv => whnf)) | ((with_reducible refine CallX_pure (s1) ?_) <;> first | omega | (with_reducible show (_ : Int) ≤ _) | (with_reducible show (_ : Int) < _) | (with_reducible show (_ : Nat) ≤ _) | (with_reducible show (_ : Nat) < _) | (conv => whnf)) | ((with_reducible refine CallX_pure (s2) ?_) <;> first | omega | (with_reducible show (_ : Int) ≤ _) | (with_reducible show (_ : Int) < _) | (with_reducible show (_ : Nat) ≤ _) | (with_reducible show (_ : Nat) < _) | (conv => whnf))) | ((with_reducible refine isO ?_); first | ((refine OpX_build0 tabOk rfl rfl rfl ?_); intro bN; conv => whnf) | ((refine OpX_build tabOk rfl rfl rfl rfl rfl ?_); intro bN; conv => whnf)) | ((with_reducible refine isW ?_); first | ((with_reducible refine xwr_ok (by omega) (by omega) ?_); conv => whnf) | ((with_reducible refine xwr_raw ?_); conv => whnf)) | ((with_reducible refine isQ ?_); first | ((with_reducible refine xquo_nn (by omega) (by omega) (by omega) ?_); conv => whnf) | ((with_reducible refine xquo_ok (by omega) (by omega) (by omega) ?_); conv => whnf) | ((with_reducible refine xquo_raw (by omega) ?_); conv => whnf)) | ((with_reducible refine isR ?_); first | ((with_reducible refine xrem_nn (by omega) (by omega) ?_); conv => whnf) | ((with_reducible refine xrem_raw (by omega) ?_); conv => whnf)) | ((with_reducible refine isS ?_); first | ((with_reducible refine xshr_1 ?_); conv => whnf)) | ((with_reducible refine isK ?_); first | ((with_reducible refine xcv_i64 (by omega) (by omega) ?_); conv => whnf) | ((with_reducible refine xcv_u64 (by omega) (by omega) ?_); conv => whnf) | ((with_reducible refine xcv_u8 (by omega) (by omega) ?_); conv => whnf) | ((with_reducible refine xcv_raw ?_); conv => whnf)) | ((with_reducible refine need_i ?_ ?_) <;> first | omega | (conv => whnf)) | ((refine DrawX_s tabOk folOk ?_); conv => whnf) | ((refine DrawS_i (by kernel_rfl) ?_); conv => whnf) | ((with_reducible refine andX_i ?_ ?_) <;> (conv => whnf)) | (with_reducible exact rfl) | ((with_reducible refine xif_kt (by with_reducible assumption) ?_); conv => whnf) | ((with_reducible refine xif_kf (by with_reducible assumption) ?_); conv => whnf) | (((with_reducible refine xif_s ?_ ?_) <;> (intro hb; (try simp (disch := omega) only [wr, ge_dec, gt_dec, decide_eq_true_eq, decide_eq_false_iff_not, beq_iff_eq, bne_iff_ne, beq_eq_false_iff_ne, bne_eq_false_iff_eq, Bool.not_eq_true', Bool.not_eq_false', Bool.and_eq_true, Bool.or_eq_true, Bool.not_not, ne_eq, Decidable.not_not, Int.not_le, Int.not_lt, Int.toNat_natCast, not_true_eq_false, eq_self, Bool.not_true, Bool.not_false, Bool.true_eq_false, Bool.false_eq_true] at hb))) <;> (conv => whnf)))
  all_goals try (exfalso; omega)
  refine LoopX_addNil 32 2 ?_
  conv => whnf
  refine LoopX_inv tabOk (α := Nat × Option Addr × Nat) (fun s => (s.1 : Int) ≤ max 0 (Y.2 - Y.1 + 1)) (fun s => [(4, I X.1), (5, I X.2), (7, I Y.2), (8, .v (.slice s.2.1 (outK allC X.1 Y.1 (X.2 - X.1 + 1).toNat s.1).length s.2.2)), (9, I (Y.1 + (s.1 : Int)))])
    (fun s => [.row 32 2 s.2.1 (outK allC X.1 Y.1 (X.2 - X.1 + 1).toNat s.1).length s.2.2 ((outK allC X.1 Y.1 (X.2 - X.1 + 1).toNat s.1).map encC)]) (fun s => (Y.2 - Y.1 + 1).toNat - s.1) (0, none, 0) [1] (by (try dsimp only); omega) ?_ ?_
  · ((refine ⟨?_, ?_, ?_, ?_⟩) <;> (repeat' ((conv => whnf); apply And.intro)) <;> (try (first | exact trivial | decide)))
    all_goals first | rfl | exact fun _ _ h => h | exact I_eq (by simp) | simp [SV.wf, SV.wfs]
  · rintro ⟨k, A, c⟩ hk
    dsimp only at hk ⊢
    have hlen := hout k
    by_cases hy : Y.1 + (k : Int) ≤ Y.2
    · (conv => whnf); repeat' (first | ((with_reducible refine isO ?_); first | ((refine OpX_build0 tabOk rfl rfl rfl ?_); intro bN; conv => whnf) | ((refine OpX_build tabOk rfl rfl rfl rfl rfl ?_); intro bN; conv => whnf)) | ((with_reducible refine isW ?_); first | ((with_reducible refine xwr_ok (by omega) (by omega) ?_); conv => whnf) | ((with_reducible refine xwr_raw ?_); conv => whnf)) | ((with_reducible refine isQ ?_); first | ((with_reducible refine xquo_nn (by omega) (by omega) (by omega) ?_); conv => whnf) | ((with_reducible refine xquo_ok (by omega) (by omega) (by omega) ?_); conv => whnf) | ((with_reducible refine xquo_raw (by omega) ?_); conv => whnf)) | ((with_reducible refine isR ?_); first | ((with_reducible refine xrem_nn (by omega) (by omega) ?_); conv => whnf) | ((with_reducible refine xrem_raw (by omega) ?_); conv => whnf)) | ((with_reducible refine isS ?_); first | ((with_reducible refine xshr_1 ?_); conv => whnf)) | ((with_reducible refine isK ?_); first | ((with_reducible refine xcv_i64 (by omega) (by omega) ?_); conv => whnf) | ((with_reducible refine xcv_u64 (by omega) (by omega) ?_); conv => whnf) | ((with_reducible refine xcv_u8 (by omega) (by omega) ?_); conv => whnf) | ((with_reducible refine xcv_raw ?_); conv => whnf)) | ((with_reducible refine need_i ?_ ?_) <;> first | omega | (conv => whnf)) | ((refine DrawX_s tabOk folOk ?_); conv => whnf) | ((refine DrawS_i (by kernel_rfl) ?_); conv => whnf) | ((with_reducible refine andX_i ?_ ?_) <;> (conv => whnf)) | (with_reducible exact rfl) | ((with_reducible refine xif_kt (by with_reducible assumption) ?_); conv => whnf) | ((with_reducible refine xif_kf (by with_reducible assumption) ?_); conv => whnf) | (((with_reducible refine xif_s ?_ ?_) <;> (intro hb; (try simp (disch := omega) only [wr, ge_dec, gt_dec, decide_eq_true_eq, decide_eq_false_iff_not, beq_iff_eq, bne_iff_ne, beq_eq_false_iff_ne, bne_eq_false_iff_eq, Bool.not_eq_true', Bool.not_eq_false', Bool.and_eq_true, Bool.or_eq_true, Bool.not_not, ne_eq, Decidable.not_not, Int.not_le, Int.not_lt, Int.toNat_natCast, not_true_eq_false, eq_self, Bool.not_true, Bool.not_false, Bool.true_eq_false, Bool.false_eq_true] at hb))) <;> (conv => whnf)))
      all_goals try (exfalso; omega)
      generalize hO : outK allC X.1 Y.1 (X.2 - X.1 + 1).toNat k = O at *
      refine LoopX_inv tabOk (α := Nat × Option Addr × Nat) (fun s => (s.1 : Int) ≤ max 0 (X.2 - X.1 + 1)) (fun s => [(4, I X.1), (5, I X.2), (7, I Y.2), (8, .v (.slice s.2.1 (O ++ rowK allC X.1 (Y.1 + (k : Int)) s.1).length s.2.2)), (9, I (Y.1 + (k : Int))), (10, I (X.1 + (s.1 : Int)))])
        (fun s => [.row 32 2 s.2.1 (O ++ rowK allC X.1 (Y.1 + (k : Int)) s.1).length s.2.2 ((O ++ rowK allC X.1 (Y.1 + (k : Int)) s.1).map encC)]) (fun s => (X.2 - X.1 + 1).toNat - s.1) (0, A, c) [0] (by (try dsimp only); omega) ?_ ?_
      · dsimp only
        rw [show rowK allC X.1 (Y.1 + (k : Int)) 0 = [] from rfl, List.append_nil]
        ((refine ⟨?_, ?_, ?_, ?_⟩) <;> (repeat' ((conv => whnf); apply And.intro)) <;> (try (first | exact trivial | decide)))
        all_goals first | rfl | exact fun _ _ h => h | exact I_eq (by simp) | simp [SV.wf, SV.wfs]
      · rintro ⟨j, A2, c2⟩ hj
        dsimp only at hj ⊢
        have hlj := rowK_len allC X.1 (Y.1 + (k : Int)) j
        have hL : (O ++ rowK allC X.1 (Y.1 + (k : Int)) j).length ≤ 1000000 := by
          rw [List.length_append]
          omega
        by_cases hx : X.1 + (j : Int) ≤ X.2
        · have hsucc := rowK_succ allC X.1 (Y.1 + (k : Int)) j
          generalize hLL : O ++ rowK allC X.1 (Y.1 + (k : Int)) j = L at *
          (conv => whnf); repeat' (first | ((with_reducible refine isO ?_); first | ((refine OpX_append 0 tabOk rfl rfl rfl rfl (ArgSl.row 1 rfl) (by decide) ?_ ?_ ?_) <;> first | omega | (dsimp only; omega) | (intro A' c'; conv => whnf)) | ((refine OpX_build0 tabOk rfl rfl rfl ?_); intro bN; conv => whnf) | ((refine OpX_build tabOk rfl rfl rfl rfl rfl ?_); intro bN; conv => whnf)) | ((with_reducible refine isW ?_); first | ((with_reducible refine xwr_ok (by omega) (by omega) ?_); conv => whnf) | ((with_reducible refine xwr_raw ?_); conv => whnf)) | ((with_reducible refine isQ ?_); first | ((with_reducible refine xquo_nn (by omega) (by omega) (by omega) ?_); conv => whnf) | ((with_reducible refine xquo_ok (by omega) (by omega) (by omega) ?_); conv => whnf) | ((with_reducible refine xquo_raw (by omega) ?_); conv => whnf)) | ((with_reducible refine isR ?_); first | ((with_reducible refine xrem_nn (by omega) (by omega) ?_); conv => whnf) | ((with_reducible refine xrem_raw (by omega) ?_); conv => whnf)) | ((with_reducible refine isS ?_); first | ((with_reducible refine xshr_1 ?_); conv => whnf)) | ((with_reducible refine isK ?_); first | ((with_reducible refine xcv_i64 (by omega) (by omega) ?_); conv => whnf) | ((with_reducible refine xcv_u64 (by omega) (by omega) ?_); conv => whnf) | ((with_reducible refine xcv_u8 (by omega) (by omega) ?_); conv => whnf) | ((with_reducible refine xcv_raw ?_); conv => whnf)) | ((with_reducible refine need_i ?_ ?_) <;> first | omega | (conv => whnf)) | ((refine DrawX_s tabOk folOk ?_); conv => whnf) | ((refine DrawS_i (by kernel_rfl) ?_); conv => whnf) | ((with_reducible refine andX_i ?_ ?_) <;> (conv => whnf)) | (with_reducible exact rfl) | ((with_reducible refine xif_kt (by with_reducible assumption) ?_); conv => whnf) | ((with_reducible refine xif_kf (by with_reducible assumption) ?_); conv => whnf) | (((with_reducible refine xif_s ?_ ?_) <;> (intro hb; (try simp (disch := omega) only [wr, ge_dec, gt_dec, decide_eq_true_eq, decide_eq_false_iff_not, beq_iff_eq, bne_iff_ne, beq_eq_false_iff_ne, bne_eq_false_iff_eq, Bool.not_eq_true', Bool.not_eq_false', Bool.and_eq_true, Bool.or_eq_true, Bool.not_not, ne_eq, Decidable.not_not, Int.not_le, Int.not_lt, Int.toNat_natCast, not_true_eq_false, eq_self, Bool.not_true, Bool.not_false, Bool.true_eq_false, Bool.false_eq_true] at hb))) <;> (conv => whnf)))
          all_goals try (exfalso; omega)
          refine ⟨(j + 1, A', c'), [0], by (try dsimp only); omega, ?_, by (try dsimp only); omega⟩
          dsimp only
          rw [hsucc, if_pos (show allC (X.1 + (j : Int), Y.1 + (k : Int)) = true from rfl), ← List.append_assoc, hLL, List.length_append, List.map_append]
          ((refine ⟨?_, ?_, ?_, ?_⟩) <;> (repeat' ((conv => whnf); apply And.intro)) <;> (try (first | exact trivial | decide)))
          all_goals first | rfl | exact fun _ _ h => h | exact I_eq (by simp; omega) | (simp [SV.wf, SV.wfs]; done) | trace_state
        · have hw : (X.2 - X.1 + 1).toNat = j := by omega
          (conv => whnf); repeat' (first | ((with_reducible refine isO ?_); first | ((refine OpX_build0 tabOk rfl rfl rfl ?_); intro bN; conv => whnf) | ((refine OpX_build tabOk rfl rfl rfl rfl rfl ?_); intro bN; conv => whnf)) | ((with_reducible refine isW ?_); first | ((with_reducible refine xwr_ok (by omega) (by omega) ?_); conv => whnf) | ((with_reducible refine xwr_raw ?_); conv => whnf)) | ((with_reducible refine isQ ?_); first | ((with_reducible refine xquo_nn (by omega) (by omega) (by omega) ?_); conv => whnf) | ((with_reducible refine xquo_ok (by omega) (by omega) (by omega) ?_); conv => whnf) | ((with_reducible refine xquo_raw (by omega) ?_); conv => whnf)) | ((with_reducible refine isR ?_); first | ((with_reducible refine xrem_nn (by omega) (by omega) ?_); conv => whnf) | ((with_reducible refine xrem_raw (by omega) ?_); conv => whnf)) | ((with_reducible refine isS ?_); first | ((with_reducible refine xshr_1 ?_); conv => whnf)) | ((with_reducible refine isK ?_); first | ((with_reducible refine xcv_i64 (by omega) (by omega) ?_); conv => whnf) | ((with_reducible refine xcv_u64 (by omega) (by omega) ?_); conv => whnf) | ((with_reducible refine xcv_u8 (by omega) (by omega) ?_); conv => whnf) | ((with_reducible refine xcv_raw ?_); conv => whnf)) | ((with_reducible refine need_i ?_ ?_) <;> first | omega | (conv => whnf)) | ((refine DrawX_s tabOk folOk ?_); conv => whnf) | ((refine DrawS_i (by kernel_rfl) ?_); conv => whnf) | ((with_reducible refine andX_i ?_ ?_) <;> (conv => whnf)) | (with_reducible exact rfl) | ((with_reducible refine xif_kt (by with_reducible assumption) ?_); conv => whnf) | ((with_reducible refine xif_kf (by with_reducible assumption) ?_); conv => whnf) | (((with_reducible refine xif_s ?_ ?_) <;> (intro hb; (try simp (disch := omega) only [wr, ge_dec, gt_dec, decide_eq_true_eq, decide_eq_false_iff_not, beq_iff_eq, bne_iff_ne, beq_eq_false_iff_ne, bne_eq_false_iff_eq, Bool.not_eq_true', Bool.not_eq_false', Bool.and_eq_true, Bool.or_eq_true, Bool.not_not, ne_eq, Decidable.not_not, Int.not_le, Int.not_lt, Int.toNat_natCast, not_true_eq_false, eq_self, Bool.not_true, Bool.not_false, Bool.true_eq_false, Bool.false_eq_true] at hb))) <;> (conv => whnf)))
          all_goals try (exfalso; omega)
          refine ⟨(k + 1, A2, c2), [0], by (try dsimp only); omega, ?_, by (try dsimp only); omega⟩
          dsimp only
          rw [outK_succ, hO, hw]
          ((refine ⟨?_, ?_, ?_, ?_⟩) <;> (repeat' ((conv => whnf); apply And.intro)) <;> (try (first | exact trivial | decide)))
          all_goals first | rfl | exact fun _ _ h => h | exact I_eq (by simp; omega) | (simp [SV.wf, SV.wfs]; done) | trace_state
    · have hw : (Y.2 - Y.1 + 1).toNat = k := by omega
      (conv => whnf); repeat' (first | ((with_reducible refine isO ?_); first | ((refine OpX_build0 tabOk rfl rfl rfl ?_); intro bN; conv => whnf) | ((refine OpX_build tabOk rfl rfl rfl rfl rfl ?_); intro bN; conv => whnf)) | ((with_reducible refine isW ?_); first | ((with_reducible refine xwr_ok (by omega) (by omega) ?_); conv => whnf) | ((with_reducible refine xwr_raw ?_); conv => whnf)) | ((with_reducible refine isQ ?_); first | ((with_reducible refine xquo_nn (by omega) (by omega) (by omega) ?_); conv => whnf) | ((with_reducible refine xquo_ok (by omega) (by omega) (by omega) ?_); conv => whnf) | ((with_reducible refine xquo_raw (by omega) ?_); conv => whnf)) | ((with_reducible refine isR ?_); first | ((with_reducible refine xrem_nn (by omega) (by omega) ?_); conv => whnf) | ((with_reducible refine xrem_raw (by omega) ?_); conv => whnf)) | ((with_reducible refine isS ?_); first | ((with_reducible refine xshr_1 ?_); conv => whnf)) | ((with_reducible refine isK ?_); first | ((with_reducible refine xcv_i64 (by omega) (by omega) ?_); conv => whnf) | ((with_reducible refine xcv_u64 (by omega) (by omega) ?_); conv => whnf) | ((with_reducible refine xcv_u8 (by omega) (by omega) ?_); conv => whnf) | ((with_reducible refine xcv_raw ?_); conv => whnf)) | ((with_reducible refine need_i ?_ ?_) <;> first | omega | (conv => whnf)) | ((refine DrawX_s tabOk folOk ?_); conv => whnf) | ((refine DrawS_i (by kernel_rfl) ?_); conv => whnf) | ((with_reducible refine andX_i ?_ ?_) <;> (conv => whnf)) | (with_reducible exact rfl) | ((with_reducible refine xif_kt (by with_reducible assumption) ?_); conv => whnf) | ((with_reducible refine xif_kf (by with_reducible assumption) ?_); conv => whnf) | (((with_reducible refine xif_s ?_ ?_) <;> (intro hb; (try simp (disch := omega) only [wr, ge_dec, gt_dec, decide_eq_true_eq, decide_eq_false_iff_not, beq_iff_eq, bne_iff_ne, beq_eq_false_iff_ne, bne_eq_false_iff_eq, Bool.not_eq_true', Bool.not_eq_false', Bool.and_eq_true, Bool.or_eq_true, Bool.not_not, ne_eq, Decidable.not_not, Int.not_le, Int.not_lt, Int.toNat_natCast, not_true_eq_false, eq_self, Bool.not_true, Bool.not_false, Bool.true_eq_false, Bool.false_eq_true] at hb))) <;> (conv => whnf)))
      all_goals try (exfalso; omega)
      rw [hw]
      exact Fin_rowN 0 rfl (by simp) rfl (by simp) (by simp [SV.wf, SV.wfs])
theorem Around_r (p : PtT) (h : ptB p) :
    CallR Try.prog 48 [.a [I p.1, I p.2]] (fun _ => True) 32 2 ((aroundL p).map encC) (fun A c => .v (.slice A ((aroundL p).map encC).length c)) := by
  have hs := Cells_r p h
  have hs' := hs
  obtain ⟨_, _, g1, g2, g3, _⟩ := hs'
  refine CallR.of Try.func48 rfl tabOk rfl rfl rfl (by simp [SV.wfs, SV.wf]) (by intro _ _; simp [SV.wfs, SV.wf]) ?_ ?_ ?_ fun w hpre => ?_
  · exact g1
  · exact g2
  · exact g3
  (conv => whnf); repeat' (first | ((with_reducible refine isC ?_); first | (refine CallX_r hs (fun _ _ _ _ => trivial) ?_; intro A c; conv => whnf)) | ((with_reducible refine isO ?_); first | ((refine OpX_build0 tabOk rfl rfl rfl ?_); intro bN; conv => whnf) | ((refine OpX_build tabOk rfl rfl rfl rfl rfl ?_); intro bN; conv => whnf)) | ((with_reducible refine isW ?_); first | ((with_reducible refine xwr_ok (by omega) (by omega) ?_); conv => whnf) | ((with_reducible refine xwr_raw ?_); conv => whnf)) | ((with_reducible refine isQ ?_); first | ((with_reducible refine xquo_nn (by omega) (by omega) (by omega) ?_); conv => whnf) | ((with_reducible refine xquo_ok (by omega) (by omega) (by omega) ?_); conv => whnf) | ((with_reducible refine xquo_raw (by omega) ?_); conv => whnf)) | ((with_reducible refine isR ?_); first | ((with_reducible refine xrem_nn (by omega) (by omega) ?_); conv => whnf) | ((with_reducible refine xrem_raw (by omega) ?_); conv => whnf)) | ((with_reducible refine isS ?_); first | ((with_reducible refine xshr_1 ?_); conv => whnf)) | ((with_reducible refine isK ?_); first | ((with_reducible refine xcv_i64 (by omega) (by omega) ?_); conv => whnf) | ((with_reducible refine xcv_u64 (by omega) (by omega) ?_); conv => whnf) | ((with_reducible refine xcv_u8 (by omega) (by omega) ?_); conv => whnf) | ((with_reducible refine xcv_raw ?_); conv => whnf)) | ((with_reducible refine need_i ?_ ?_) <;> first | omega | (conv => whnf)) | ((refine DrawX_s tabOk folOk ?_); conv => whnf) | ((refine DrawS_i (by kernel_rfl) ?_); conv => whnf) | ((with_reducible refine andX_i ?_ ?_) <;> (conv => whnf)) | (with_reducible exact rfl) | ((with_reducible refine xif_kt (by with_reducible assumption) ?_); conv => whnf) | ((with_reducible refine xif_kf (by with_reducible assumption) ?_); conv => whnf) | (((with_reducible refine xif_s ?_ ?_) <;> (intro hb; (try simp (disch := omega) only [wr, ge_dec, gt_dec, decide_eq_true_eq, decide_eq_false_iff_not, beq_iff_eq, bne_iff_ne, beq_eq_false_iff_ne, bne_eq_false_iff_eq, Bool.not_eq_true', Bool.not_eq_false', Bool.and_eq_true, Bool.or_eq_true, Bool.not_not, ne_eq, Decidable.not_not, Int.not_le, Int.not_lt, Int.toNat_natCast, not_true_eq_false, eq_self, Bool.not_true, Bool.not_false, Bool.true_eq_false, Bool.false_eq_true] at hb))) <;> (conv => whnf)))
  all_goals try (exfalso; omega)
  exact Fin_row 1 rfl rfl rfl (by simp [SV.wf, SV.wfs])
end Go.Proofs.Ytdjimfngnhnhnaa.En
