/- Package segment by the executor: through, Meets, Minus. -/
import Derived.Test.YtdjimfngnhnhnaaSg
set_option linter.all false
namespace Go.Proofs.Ytdjimfngnhnhnaa.En
open Go.RowKit
set_option maxRecDepth 100000

theorem slabF_sp {s : SpT} {p d a b : Int} (hs : spB s) (hp : -2097152 ≤ p ∧ p ≤ 2097152) (ha : -2097152 ≤ a ∧ a ≤ 2097152) (hb : -2097152 ≤ b ∧ b ≤ 2097152) (hd : -67108864 ≤ d ∧ d ≤ 67108864) : spB (slabF s p d a b).1 := by
  unfold slabF
  split
  · exact hs
  · rename_i h0
    exact ⟨maxF_fr hs.1 (slabLo_fr hp ha hb hd h0), minF_fr hs.2 (slabHi_fr hp ha hb hd h0)⟩
def sp0 : SpT := (0, 1, 8388608, 1)
theorem sp0_sp : spB sp0 := by
  unfold spB frB sp0
  decide
def argsB (p : PtT) (v : VecT) (r : RectT) : Bool := ptL p && vecB v && rectL r
def throughF (p : PtT) (v : VecT) (r : RectT) : SpT × Bool :=
  if argsB p v r then
    if (slabF sp0 p.1 v.1 r.1 r.2.2.1).2 then
      if (slabF (slabF sp0 p.1 v.1 r.1 r.2.2.1).1 p.2 v.2.1 r.2.1 r.2.2.2).2 then ((slabF (slabF sp0 p.1 v.1 r.1 r.2.2.1).1 p.2 v.2.1 r.2.1 r.2.2.2).1, true) else ((0, 0, 0, 0), false)
    else ((0, 0, 0, 0), false)
  else ((0, 0, 0, 0), false)
theorem args_bd {p : PtT} {v : VecT} {r : RectT} (h : argsB p v r = true) : ((-2097152 ≤ p.1 ∧ p.1 ≤ 2097152) ∧ (-2097152 ≤ p.2 ∧ p.2 ≤ 2097152)) ∧ ((-67108864 ≤ v.1 ∧ v.1 ≤ 67108864) ∧ (-67108864 ≤ v.2.1 ∧ v.2.1 ≤ 67108864) ∧ 1 ≤ v.2.2 ∧ v.2.2 ≤ 67108864) ∧
    ((-2097152 ≤ r.1 ∧ r.1 ≤ 2097152) ∧ (-2097152 ≤ r.2.1 ∧ r.2.1 ≤ 2097152) ∧ (-2097152 ≤ r.2.2.1 ∧ r.2.2.1 ≤ 2097152) ∧ (-2097152 ≤ r.2.2.2 ∧ r.2.2.2 ≤ 2097152)) := by
  simp only [argsB, ptL, vecB, rectL, Bool.and_eq_true, nearL_iff, vecIn_iff, decide_eq_true_eq] at h
  omega
set_option maxHeartbeats 1000000 in
theorem through_x (p : PtT) (v : VecT) (r : RectT) : PureX Try.prog 153 [.a [I p.1, I p.2], .a [I v.1, I v.2.1, I v.2.2], .a [I r.1, I r.2.1, I r.2.2.1, I r.2.2.2]] (.t [.a [I (throughF p v r).1.1, I (throughF p v r).1.2.1, I (throughF p v r).1.2.2.1, I (throughF p v r).1.2.2.2], B (throughF p v r).2]) := by
  cases h : argsB p v r with
  | false =>
    have e : throughF p v r = ((0, 0, 0, 0), false) := by simp only [throughF, h, Bool.false_eq_true, if_false]
    rw [e]
    refine PureX.of Try.func153 rfl tabOk rfl rfl rfl (by simp [SV.wfs, SV.wf]) (by simp [SV.wfs, SV.wf]) fun w => ?_
    (conv => whnf); repeat' (first | ((with_reducible refine isC ?_); first | ((with_reducible refine CallX_pure (segPoint_x (_, _)) ?_) <;> first | omega | (with_reducible show (_ : Int) ≤ _) | (with_reducible show (_ : Int) < _) | (with_reducible show (_ : Nat) ≤ _) | (with_reducible show (_ : Nat) < _) | (conv => whnf)) | ((with_reducible refine CallX_pure (segVector_x (_, _, _)) ?_) <;> first | omega | (with_reducible show (_ : Int) ≤ _) | (with_reducible show (_ : Int) < _) | (with_reducible show (_ : Nat) ≤ _) | (with_reducible show (_ : Nat) < _) | (conv => whnf)) | ((with_reducible refine CallX_pure (ValidRect_x (_, _, _, _)) ?_) <;> first | omega | (with_reducible show (_ : Int) ≤ _) | (with_reducible show (_ : Int) < _) | (with_reducible show (_ : Nat) ≤ _) | (with_reducible show (_ : Nat) < _) | (conv => whnf))) | ((with_reducible refine isO ?_); first | ((refine OpX_build0 tabOk rfl rfl rfl ?_); intro bN; conv => whnf) | ((refine OpX_build tabOk rfl rfl rfl rfl rfl ?_); intro bN; conv => whnf)) | ((with_reducible refine isW ?_); first | ((with_reducible refine xwr_ok (by omega) (by omega) ?_); conv => whnf) | ((with_reducible refine xwr_raw ?_); conv => whnf)) | ((with_reducible refine isQ ?_); first | ((with_reducible refine xquo_nn (by omega) (by omega) (by omega) ?_); conv => whnf) | ((with_reducible refine xquo_ok (by omega) (by omega) (by omega) ?_); conv => whnf) | ((with_reducible refine xquo_raw (by omega) ?_); conv => whnf)) | ((with_reducible refine isR ?_); first | ((with_reducible refine xrem_nn (by omega) (by omega) ?_); conv => whnf) | ((with_reducible refine xrem_raw (by omega) ?_); conv => whnf)) | ((with_reducible refine isS ?_); first | ((with_reducible refine xshr_1 ?_); conv => whnf)) | ((with_reducible refine isK ?_); first | ((with_reducible refine xcv_i64 (by omega) (by omega) ?_); conv => whnf) | ((with_reducible refine xcv_u64 (by omega) (by omega) ?_); conv => whnf) | ((with_reducible refine xcv_u8 (by omega) (by omega) ?_); conv => whnf) | ((with_reducible refine xcv_raw ?_); conv => whnf)) | ((with_reducible refine need_i ?_ ?_) <;> first | omega | (conv => whnf)) | ((refine DrawX_s tabOk folOk ?_); conv => whnf) | ((refine DrawS_i (by kernel_rfl) ?_); conv => whnf) | ((with_reducible refine andX_i ?_ ?_) <;> (conv => whnf)) | (with_reducible exact rfl) | ((with_reducible refine xif_kt (by with_reducible assumption) ?_); conv => whnf) | ((with_reducible refine xif_kf (by with_reducible assumption) ?_); conv => whnf) | (((with_reducible refine xif_s ?_ ?_) <;> (intro hb; (try simp (disch := omega) only [wr, ge_dec, gt_dec, decide_eq_true_eq, decide_eq_false_iff_not, beq_iff_eq, bne_iff_ne, beq_eq_false_iff_ne, bne_eq_false_iff_eq, Bool.not_eq_true', Bool.not_eq_false', Bool.and_eq_true, Bool.or_eq_true, Bool.not_not, ne_eq, Decidable.not_not, Int.not_le, Int.not_lt, Int.toNat_natCast, not_true_eq_false, eq_self, Bool.not_true, Bool.not_false, Bool.true_eq_false, Bool.false_eq_true] at hb))) <;> (conv => whnf)))
    all_goals first
      | exact Fin_pure rfl rfl (by simp [SV.wf, SV.wfs])
      | (exfalso; simp_all [argsB]; done)
      | trace_state
  | true =>
    obtain ⟨⟨p1, p2⟩, ⟨v1, v2, v3, v4⟩, r1, r2, r3, r4⟩ := args_bd h
    have c1 := slab_m sp0 p.1 v.1 r.1 r.2.2.1 sp0_sp p1 r1 r3 v1
    have hs1 := slabF_sp (s := sp0) sp0_sp p1 r1 r3 v1
    have c2 := slab_m (slabF sp0 p.1 v.1 r.1 r.2.2.1).1 p.2 v.2.1 r.2.1 r.2.2.2 hs1 p2 r2 r4 v2
    unfold throughF
    rw [h, if_pos rfl]
    generalize slabF sp0 p.1 v.1 r.1 r.2.2.1 = s1 at *
    generalize slabF s1.1 p.2 v.2.1 r.2.1 r.2.2.2 = s2 at *
    simp only [argsB, Bool.and_eq_true] at h
    obtain ⟨⟨g1, g2⟩, g3⟩ := h
    refine PureX.of Try.func153 rfl tabOk rfl rfl rfl (by simp [SV.wfs, SV.wf]) (by simp [SV.wfs, SV.wf]) fun w => ?_
    (conv => whnf); repeat' (first | ((with_reducible refine isC ?_); first | ((with_reducible refine CallX_pure (segPoint_x (_, _)) ?_) <;> first | omega | (with_reducible show (_ : Int) ≤ _) | (with_reducible show (_ : Int) < _) | (with_reducible show (_ : Nat) ≤ _) | (with_reducible show (_ : Nat) < _) | (conv => whnf)) | ((with_reducible refine CallX_pure (segVector_x (_, _, _)) ?_) <;> first | omega | (with_reducible show (_ : Int) ≤ _) | (with_reducible show (_ : Int) < _) | (with_reducible show (_ : Nat) ≤ _) | (with_reducible show (_ : Nat) < _) | (conv => whnf)) | ((with_reducible refine CallX_pure (ValidRect_x (_, _, _, _)) ?_) <;> first | omega | (with_reducible show (_ : Int) ≤ _) | (with_reducible show (_ : Int) < _) | (with_reducible show (_ : Nat) ≤ _) | (with_reducible show (_ : Nat) < _) | (conv => whnf)) | (refine CallX_m c1 [4] rfl ⟨⟨rfl, rfl, by simp [SV.wf, SV.wfs]⟩, trivial⟩ (by decide) (fun _ _ _ _ => trivial) ?_; intro p; conv => whnf) | (refine CallX_m c2 [4] rfl ⟨⟨rfl, rfl, by simp [SV.wf, SV.wfs]⟩, trivial⟩ (by decide) (fun _ _ _ _ => trivial) ?_; intro p; conv => whnf)) | ((with_reducible refine isO ?_); first | ((refine OpX_build0 tabOk rfl rfl rfl ?_); intro bN; conv => whnf) | ((refine OpX_build tabOk rfl rfl rfl rfl rfl ?_); intro bN; conv => whnf)) | ((with_reducible refine isW ?_); first | ((with_reducible refine xwr_ok (by omega) (by omega) ?_); conv => whnf) | ((with_reducible refine xwr_raw ?_); conv => whnf)) | ((with_reducible refine isQ ?_); first | ((with_reducible refine xquo_nn (by omega) (by omega) (by omega) ?_); conv => whnf) | ((with_reducible refine xquo_ok (by omega) (by omega) (by omega) ?_); conv => whnf) | ((with_reducible refine xquo_raw (by omega) ?_); conv => whnf)) | ((with_reducible refine isR ?_); first | ((with_reducible refine xrem_nn (by omega) (by omega) ?_); conv => whnf) | ((with_reducible refine xrem_raw (by omega) ?_); conv => whnf)) | ((with_reducible refine isS ?_); first | ((with_reducible refine xshr_1 ?_); conv => whnf)) | ((with_reducible refine isK ?_); first | ((with_reducible refine xcv_i64 (by omega) (by omega) ?_); conv => whnf) | ((with_reducible refine xcv_u64 (by omega) (by omega) ?_); conv => whnf) | ((with_reducible refine xcv_u8 (by omega) (by omega) ?_); conv => whnf) | ((with_reducible refine xcv_raw ?_); conv => whnf)) | ((with_reducible refine need_i ?_ ?_) <;> first | omega | (conv => whnf)) | ((refine DrawX_s tabOk folOk ?_); conv => whnf) | ((refine DrawS_i (by kernel_rfl) ?_); conv => whnf) | ((with_reducible refine andX_i ?_ ?_) <;> (conv => whnf)) | (with_reducible exact rfl) | ((with_reducible refine xif_kt (by with_reducible assumption) ?_); conv => whnf) | ((with_reducible refine xif_kf (by with_reducible assumption) ?_); conv => whnf) | (((with_reducible refine xif_s ?_ ?_) <;> (intro hb; (try simp (disch := omega) only [wr, ge_dec, gt_dec, decide_eq_true_eq, decide_eq_false_iff_not, beq_iff_eq, bne_iff_ne, beq_eq_false_iff_ne, bne_eq_false_iff_eq, Bool.not_eq_true', Bool.not_eq_false', Bool.and_eq_true, Bool.or_eq_true, Bool.not_not, ne_eq, Decidable.not_not, Int.not_le, Int.not_lt, Int.toNat_natCast, not_true_eq_false, eq_self, Bool.not_true, Bool.not_false, Bool.true_eq_false, Bool.false_eq_true] at hb))) <;> (conv => whnf)))
    · exact (Bool.false_ne_true (hb.symm.trans g1)).elim
    · exact (Bool.false_ne_true (hb.symm.trans g2)).elim
    · exact (Bool.false_ne_true (hb.symm.trans g3)).elim
    · simp only [hb, Bool.false_eq_true, if_false]
      exact Fin_pure rfl rfl (by simp [SV.wf, SV.wfs])
    · rename_i h1
      simp only [h1, hb, Bool.false_eq_true, if_false, if_true]
      exact Fin_pure rfl rfl (by simp [SV.wf, SV.wfs])
    · rename_i h1
      simp only [h1, hb, if_true]
      exact Fin_pure rfl rfl (by simp [SV.wf, SV.wfs])

/-- what Meets computes -/
def meetsS (p : PtT) (v : VecT) (lo hi : Int) (r : RectT) : Bool :=
  decide (0 ≤ lo) && decide (lo ≤ hi) && decide (hi ≤ 65536) && (throughF p v r).2 && decide (lo * (throughF p v r).1.2.2.2 ≤ (throughF p v r).1.2.2.1 * v.2.2) && decide ((throughF p v r).1.1 * v.2.2 ≤ hi * (throughF p v r).1.2.1)
theorem through_bd {p : PtT} {v : VecT} {r : RectT} (h : (throughF p v r).2 = true) : spB (throughF p v r).1 ∧ argsB p v r = true := by
  cases h0 : argsB p v r with
  | false => simp only [throughF, h0, Bool.false_eq_true, if_false] at h
  | true =>
    obtain ⟨⟨p1, p2⟩, ⟨v1, v2, v3, v4⟩, r1, r2, r3, r4⟩ := args_bd h0
    have hs1 := slabF_sp (s := sp0) sp0_sp p1 r1 r3 v1
    have hs2 := slabF_sp (s := (slabF sp0 p.1 v.1 r.1 r.2.2.1).1) hs1 p2 r2 r4 v2
    refine ⟨?_, rfl⟩
    unfold throughF at h ⊢
    rw [h0, if_pos rfl] at h ⊢
    split
    · rename_i h1
      rw [if_pos h1] at h
      split
      · exact hs2
      · rename_i h2
        rw [if_neg h2] at h
        cases h
    · rename_i h1
      rw [if_neg h1] at h
      cases h
theorem Meets_x (p : PtT) (v : VecT) (lo hi : Int) (r : RectT) : PureX Try.prog 137 [.a [I p.1, I p.2], .a [I v.1, I v.2.1, I v.2.2], I lo, I hi, .a [I r.1, I r.2.1, I r.2.2.1, I r.2.2.2]] (B (meetsS p v lo hi r)) := by
  have ht := through_x p v r
  unfold meetsS
  by_cases hg : 0 ≤ lo ∧ lo ≤ hi ∧ hi ≤ 65536
  · obtain ⟨g1, g2, g3⟩ := hg
    cases h : (throughF p v r).2 with
    | false =>
      rw [h] at ht
      refine PureX.of Try.func137 rfl tabOk rfl rfl rfl (by simp [SV.wfs, SV.wf]) (by simp [SV.wfs, SV.wf]) fun w => ?_
      (conv => whnf); repeat' (first | ((with_reducible refine isC ?_); first | ((with_reducible refine CallX_pure (ht) ?_) <;> first | omega | (with_reducible show (_ : Int) ≤ _) | (with_reducible show (_ : Int) < _) | (with_reducible show (_ : Nat) ≤ _) | (with_reducible show (_ : Nat) < _) | (conv => whnf))) | ((with_reducible refine isO ?_); first | ((refine OpX_build0 tabOk rfl rfl rfl ?_); intro bN; conv => whnf) | ((refine OpX_build tabOk rfl rfl rfl rfl rfl ?_); intro bN; conv => whnf)) | ((with_reducible refine isW ?_); first | ((with_reducible refine xwr_ok (by omega) (by omega) ?_); conv => whnf) | ((with_reducible refine xwr_raw ?_); conv => whnf)) | ((with_reducible refine isQ ?_); first | ((with_reducible refine xquo_nn (by omega) (by omega) (by omega) ?_); conv => whnf) | ((with_reducible refine xquo_ok (by omega) (by omega) (by omega) ?_); conv => whnf) | ((with_reducible refine xquo_raw (by omega) ?_); conv => whnf)) | ((with_reducible refine isR ?_); first | ((with_reducible refine xrem_nn (by omega) (by omega) ?_); conv => whnf) | ((with_reducible refine xrem_raw (by omega) ?_); conv => whnf)) | ((with_reducible refine isS ?_); first | ((with_reducible refine xshr_1 ?_); conv => whnf)) | ((with_reducible refine isK ?_); first | ((with_reducible refine xcv_i64 (by omega) (by omega) ?_); conv => whnf) | ((with_reducible refine xcv_u64 (by omega) (by omega) ?_); conv => whnf) | ((with_reducible refine xcv_u8 (by omega) (by omega) ?_); conv => whnf) | ((with_reducible refine xcv_raw ?_); conv => whnf)) | ((with_reducible refine need_i ?_ ?_) <;> first | omega | (conv => whnf)) | ((refine DrawX_s tabOk folOk ?_); conv => whnf) | ((refine DrawS_i (by kernel_rfl) ?_); conv => whnf) | ((with_reducible refine andX_i ?_ ?_) <;> (conv => whnf)) | (with_reducible exact rfl) | ((with_reducible refine xif_kt (by with_reducible assumption) ?_); conv => whnf) | ((with_reducible refine xif_kf (by with_reducible assumption) ?_); conv => whnf) | (((with_reducible refine xif_s ?_ ?_) <;> (intro hb; (try simp (disch := omega) only [wr, ge_dec, gt_dec, decide_eq_true_eq, decide_eq_false_iff_not, beq_iff_eq, bne_iff_ne, beq_eq_false_iff_ne, bne_eq_false_iff_eq, Bool.not_eq_true', Bool.not_eq_false', Bool.and_eq_true, Bool.or_eq_true, Bool.not_not, ne_eq, Decidable.not_not, Int.not_le, Int.not_lt, Int.toNat_natCast, not_true_eq_false, eq_self, Bool.not_true, Bool.not_false, Bool.true_eq_false, Bool.false_eq_true] at hb))) <;> (conv => whnf)))
      all_goals try (exfalso; omega)
      exact Fin_pure rfl (by simp) trivial
    | true =>
      obtain ⟨⟨⟨b1, b2, b3, b4⟩, b5, b6, b7, b8⟩, hab⟩ := through_bd h
      obtain ⟨_, ⟨_, _, v3, v4⟩, _⟩ := args_bd hab
      rw [h] at ht
      generalize (throughF p v r).1 = s at *
      dsimp only at b1 b2 b3 b4 b5 b6 b7 b8
      have m1 := mul_bd (a := lo) (b := s.2.2.2) (A := 65536) (B := 67108864) (by omega) (by omega)
      have m2 := mul_bd (a := s.2.2.1) (b := v.2.2) (A := 8388608) (B := 67108864) (by omega) (by omega)
      have m3 := mul_bd (a := s.1) (b := v.2.2) (A := 8388608) (B := 67108864) (by omega) (by omega)
      have m4 := mul_bd (a := hi) (b := s.2.1) (A := 65536) (B := 67108864) (by omega) (by omega)
      refine PureX.of Try.func137 rfl tabOk rfl rfl rfl (by simp [SV.wfs, SV.wf]) (by simp [SV.wfs, SV.wf]) fun w => ?_
      (conv => whnf); repeat' (first | ((with_reducible refine isC ?_); first | ((with_reducible refine CallX_pure (ht) ?_) <;> first | omega | (with_reducible show (_ : Int) ≤ _) | (with_reducible show (_ : Int) < _) | (with_reducible show (_ : Nat) ≤ _) | (with_reducible show (_ : Nat) < _) | (conv => whnf))) | ((with_reducible refine isO ?_); first | ((refine OpX_build0 tabOk rfl rfl rfl ?_); intro bN; conv => whnf) | ((refine OpX_build tabOk rfl rfl rfl rfl rfl ?_); intro bN; conv => whnf)) | ((with_reducible refine isW ?_); first | ((with_reducible refine xwr_ok (by omega) (by omega) ?_); conv => whnf) | ((with_reducible refine xwr_raw ?_); conv => whnf)) | ((with_reducible refine isQ ?_); first | ((with_reducible refine xquo_nn (by omega) (by omega) (by omega) ?_); conv => whnf) | ((with_reducible refine xquo_ok (by omega) (by omega) (by omega) ?_); conv => whnf) | ((with_reducible refine xquo_raw (by omega) ?_); conv => whnf)) | ((with_reducible refine isR ?_); first | ((with_reducible refine xrem_nn (by omega) (by omega) ?_); conv => whnf) | ((with_reducible refine xrem_raw (by omega) ?_); conv => whnf)) | ((with_reducible refine isS ?_); first | ((with_reducible refine xshr_1 ?_); conv => whnf)) | ((with_reducible refine isK ?_); first | ((with_reducible refine xcv_i64 (by omega) (by omega) ?_); conv => whnf) | ((with_reducible refine xcv_u64 (by omega) (by omega) ?_); conv => whnf) | ((with_reducible refine xcv_u8 (by omega) (by omega) ?_); conv => whnf) | ((with_reducible refine xcv_raw ?_); conv => whnf)) | ((with_reducible refine need_i ?_ ?_) <;> first | omega | (conv => whnf)) | ((refine DrawX_s tabOk folOk ?_); conv => whnf) | ((refine DrawS_i (by kernel_rfl) ?_); conv => whnf) | ((with_reducible refine andX_i ?_ ?_) <;> (conv => whnf)) | (with_reducible exact rfl) | ((with_reducible refine xif_kt (by with_reducible assumption) ?_); conv => whnf) | ((with_reducible refine xif_kf (by with_reducible assumption) ?_); conv => whnf) | (((with_reducible refine xif_s ?_ ?_) <;> (intro hb; (try simp (disch := omega) only [wr, ge_dec, gt_dec, decide_eq_true_eq, decide_eq_false_iff_not, beq_iff_eq, bne_iff_ne, beq_eq_false_iff_ne, bne_eq_false_iff_eq, Bool.not_eq_true', Bool.not_eq_false', Bool.and_eq_true, Bool.or_eq_true, Bool.not_not, ne_eq, Decidable.not_not, Int.not_le, Int.not_lt, Int.toNat_natCast, not_true_eq_false, eq_self, Bool.not_true, Bool.not_false, Bool.true_eq_false, Bool.false_eq_true] at hb))) <;> (conv => whnf)))
      all_goals try (exfalso; omega)
      all_goals refine Fin_pure rfl (B_eq ?_) trivial
      all_goals first | (simp [g1, g2, g3, hb]; done) | (simp [g1, g2, g3, hb]; omega)
  · refine PureX.of Try.func137 rfl tabOk rfl rfl rfl (by simp [SV.wfs, SV.wf]) (by simp [SV.wfs, SV.wf]) fun w => ?_
    (conv => whnf); repeat' (first | ((with_reducible refine isO ?_); first | ((refine OpX_build0 tabOk rfl rfl rfl ?_); intro bN; conv => whnf) | ((refine OpX_build tabOk rfl rfl rfl rfl rfl ?_); intro bN; conv => whnf)) | ((with_reducible refine isW ?_); first | ((with_reducible refine xwr_ok (by omega) (by omega) ?_); conv => whnf) | ((with_reducible refine xwr_raw ?_); conv => whnf)) | ((with_reducible refine isQ ?_); first | ((with_reducible refine xquo_nn (by omega) (by omega) (by omega) ?_); conv => whnf) | ((with_reducible refine xquo_ok (by omega) (by omega) (by omega) ?_); conv => whnf) | ((with_reducible refine xquo_raw (by omega) ?_); conv => whnf)) | ((with_reducible refine isR ?_); first | ((with_reducible refine xrem_nn (by omega) (by omega) ?_); conv => whnf) | ((with_reducible refine xrem_raw (by omega) ?_); conv => whnf)) | ((with_reducible refine isS ?_); first | ((with_reducible refine xshr_1 ?_); conv => whnf)) | ((with_reducible refine isK ?_); first | ((with_reducible refine xcv_i64 (by omega) (by omega) ?_); conv => whnf) | ((with_reducible refine xcv_u64 (by omega) (by omega) ?_); conv => whnf) | ((with_reducible refine xcv_u8 (by omega) (by omega) ?_); conv => whnf) | ((with_reducible refine xcv_raw ?_); conv => whnf)) | ((with_reducible refine need_i ?_ ?_) <;> first | omega | (conv => whnf)) | ((refine DrawX_s tabOk folOk ?_); conv => whnf) | ((refine DrawS_i (by kernel_rfl) ?_); conv => whnf) | ((with_reducible refine andX_i ?_ ?_) <;> (conv => whnf)) | (with_reducible exact rfl) | ((with_reducible refine xif_kt (by with_reducible assumption) ?_); conv => whnf) | ((with_reducible refine xif_kf (by with_reducible assumption) ?_); conv => whnf) | (((with_reducible refine xif_s ?_ ?_) <;> (intro hb; (try simp (disch := omega) only [wr, ge_dec, gt_dec, decide_eq_true_eq, decide_eq_false_iff_not, beq_iff_eq, bne_iff_ne, beq_eq_false_iff_ne, bne_eq_false_iff_eq, Bool.not_eq_true', Bool.not_eq_false', Bool.and_eq_true, Bool.or_eq_true, Bool.not_not, ne_eq, Decidable.not_not, Int.not_le, Int.not_lt, Int.toNat_natCast, not_true_eq_false, eq_self, Bool.not_true, Bool.not_false, Bool.true_eq_false, Bool.false_eq_true] at hb))) <;> (conv => whnf)))
    all_goals first
      | (refine Fin_pure rfl (B_eq ?_) trivial; symm; rw [Bool.eq_false_iff]; intro hx; simp only [Bool.and_eq_true, decide_eq_true_eq] at hx; omega)
      | (exfalso; omega)
theorem Minus_x (q r : RectT) (h1 : rectL q = true) (h2 : rectL r = true) : PureX Try.prog 135 [.a [I q.1, I q.2.1, I q.2.2.1, I q.2.2.2], .a [I r.1, I r.2.1, I r.2.2.1, I r.2.2.2]]
    (if rectL (q.1 - r.2.2.1, q.2.1 - r.2.2.2, q.2.2.1 - r.1, q.2.2.2 - r.2.1) then .t [.a [I (q.1 - r.2.2.1), I (q.2.1 - r.2.2.2), I (q.2.2.1 - r.1), I (q.2.2.2 - r.2.1)], B true] else .t [.a [I 0, I 0, I 0, I 0], B false]) := by
  have b1 := h1
  have b2 := h2
  simp only [rectL, Bool.and_eq_true, nearL_iff, decide_eq_true_eq] at b1 b2
  cases h : rectL (q.1 - r.2.2.1, q.2.1 - r.2.2.2, q.2.2.1 - r.1, q.2.2.2 - r.2.1) with
  | true =>
    rw [if_pos rfl]
    refine PureX.of Try.func135 rfl tabOk rfl rfl rfl (by simp [SV.wfs, SV.wf]) (by simp [SV.wfs, SV.wf]) fun w => ?_
    (conv => whnf); repeat' (first | ((with_reducible refine isC ?_); first | ((with_reducible refine CallX_pure (ValidRect_x (_, _, _, _)) ?_) <;> first | omega | (with_reducible show (_ : Int) ≤ _) | (with_reducible show (_ : Int) < _) | (with_reducible show (_ : Nat) ≤ _) | (with_reducible show (_ : Nat) < _) | (conv => whnf))) | ((with_reducible refine isO ?_); first | ((refine OpX_build0 tabOk rfl rfl rfl ?_); intro bN; conv => whnf) | ((refine OpX_build tabOk rfl rfl rfl rfl rfl ?_); intro bN; conv => whnf)) | ((with_reducible refine isW ?_); first | ((with_reducible refine xwr_ok (by omega) (by omega) ?_); conv => whnf) | ((with_reducible refine xwr_raw ?_); conv => whnf)) | ((with_reducible refine isQ ?_); first | ((with_reducible refine xquo_nn (by omega) (by omega) (by omega) ?_); conv => whnf) | ((with_reducible refine xquo_ok (by omega) (by omega) (by omega) ?_); conv => whnf) | ((with_reducible refine xquo_raw (by omega) ?_); conv => whnf)) | ((with_reducible refine isR ?_); first | ((with_reducible refine xrem_nn (by omega) (by omega) ?_); conv => whnf) | ((with_reducible refine xrem_raw (by omega) ?_); conv => whnf)) | ((with_reducible refine isS ?_); first | ((with_reducible refine xshr_1 ?_); conv => whnf)) | ((with_reducible refine isK ?_); first | ((with_reducible refine xcv_i64 (by omega) (by omega) ?_); conv => whnf) | ((with_reducible refine xcv_u64 (by omega) (by omega) ?_); conv => whnf) | ((with_reducible refine xcv_u8 (by omega) (by omega) ?_); conv => whnf) | ((with_reducible refine xcv_raw ?_); conv => whnf)) | ((with_reducible refine need_i ?_ ?_) <;> first | omega | (conv => whnf)) | ((refine DrawX_s tabOk folOk ?_); conv => whnf) | ((refine DrawS_i (by kernel_rfl) ?_); conv => whnf) | ((with_reducible refine andX_i ?_ ?_) <;> (conv => whnf)) | (with_reducible exact rfl) | ((with_reducible refine xif_kt (by with_reducible assumption) ?_); conv => whnf) | ((with_reducible refine xif_kf (by with_reducible assumption) ?_); conv => whnf) | (((with_reducible refine xif_s ?_ ?_) <;> (intro hb; (try simp (disch := omega) only [wr, ge_dec, gt_dec, decide_eq_true_eq, decide_eq_false_iff_not, beq_iff_eq, bne_iff_ne, beq_eq_false_iff_ne, bne_eq_false_iff_eq, Bool.not_eq_true', Bool.not_eq_false', Bool.and_eq_true, Bool.or_eq_true, Bool.not_not, ne_eq, Decidable.not_not, Int.not_le, Int.not_lt, Int.toNat_natCast, not_true_eq_false, eq_self, Bool.not_true, Bool.not_false, Bool.true_eq_false, Bool.false_eq_true] at hb))) <;> (conv => whnf)))
    all_goals first
      | exact Fin_pure rfl rfl (by simp [SV.wf, SV.wfs])
      | exact (Bool.false_ne_true (hb.symm.trans h1)).elim
      | exact (Bool.false_ne_true (hb.symm.trans h2)).elim
      | exact (Bool.false_ne_true (hb.symm.trans h)).elim
  | false =>
    rw [if_neg (by simp)]
    refine PureX.of Try.func135 rfl tabOk rfl rfl rfl (by simp [SV.wfs, SV.wf]) (by simp [SV.wfs, SV.wf]) fun w => ?_
    (conv => whnf); repeat' (first | ((with_reducible refine isC ?_); first | ((with_reducible refine CallX_pure (ValidRect_x (_, _, _, _)) ?_) <;> first | omega | (with_reducible show (_ : Int) ≤ _) | (with_reducible show (_ : Int) < _) | (with_reducible show (_ : Nat) ≤ _) | (with_reducible show (_ : Nat) < _) | (conv => whnf))) | ((with_reducible refine isO ?_); first | ((refine OpX_build0 tabOk rfl rfl rfl ?_); intro bN; conv => whnf) | ((refine OpX_build tabOk rfl rfl rfl rfl rfl ?_); intro bN; conv => whnf)) | ((with_reducible refine isW ?_); first | ((with_reducible refine xwr_ok (by omega) (by omega) ?_); conv => whnf) | ((with_reducible refine xwr_raw ?_); conv => whnf)) | ((with_reducible refine isQ ?_); first | ((with_reducible refine xquo_nn (by omega) (by omega) (by omega) ?_); conv => whnf) | ((with_reducible refine xquo_ok (by omega) (by omega) (by omega) ?_); conv => whnf) | ((with_reducible refine xquo_raw (by omega) ?_); conv => whnf)) | ((with_reducible refine isR ?_); first | ((with_reducible refine xrem_nn (by omega) (by omega) ?_); conv => whnf) | ((with_reducible refine xrem_raw (by omega) ?_); conv => whnf)) | ((with_reducible refine isS ?_); first | ((with_reducible refine xshr_1 ?_); conv => whnf)) | ((with_reducible refine isK ?_); first | ((with_reducible refine xcv_i64 (by omega) (by omega) ?_); conv => whnf) | ((with_reducible refine xcv_u64 (by omega) (by omega) ?_); conv => whnf) | ((with_reducible refine xcv_u8 (by omega) (by omega) ?_); conv => whnf) | ((with_reducible refine xcv_raw ?_); conv => whnf)) | ((with_reducible refine need_i ?_ ?_) <;> first | omega | (conv => whnf)) | ((refine DrawX_s tabOk folOk ?_); conv => whnf) | ((refine DrawS_i (by kernel_rfl) ?_); conv => whnf) | ((with_reducible refine andX_i ?_ ?_) <;> (conv => whnf)) | (with_reducible exact rfl) | ((with_reducible refine xif_kt (by with_reducible assumption) ?_); conv => whnf) | ((with_reducible refine xif_kf (by with_reducible assumption) ?_); conv => whnf) | (((with_reducible refine xif_s ?_ ?_) <;> (intro hb; (try simp (disch := omega) only [wr, ge_dec, gt_dec, decide_eq_true_eq, decide_eq_false_iff_not, beq_iff_eq, bne_iff_ne, beq_eq_false_iff_ne, bne_eq_false_iff_eq, Bool.not_eq_true', Bool.not_eq_false', Bool.and_eq_true, Bool.or_eq_true, Bool.not_not, ne_eq, Decidable.not_not, Int.not_le, Int.not_lt, Int.toNat_natCast, not_true_eq_false, eq_self, Bool.not_true, Bool.not_false, Bool.true_eq_false, Bool.false_eq_true] at hb))) <;> (conv => whnf)))
    all_goals first
      | exact Fin_pure rfl rfl (by simp [SV.wf, SV.wfs])
      | exact (Bool.false_ne_true (hb.symm.trans h1)).elim
      | exact (Bool.false_ne_true (hb.symm.trans h2)).elim
      | exact (Bool.false_ne_true (h.symm.trans hb)).elim
end Go.Proofs.Ytdjimfngnhnhnaa.En
