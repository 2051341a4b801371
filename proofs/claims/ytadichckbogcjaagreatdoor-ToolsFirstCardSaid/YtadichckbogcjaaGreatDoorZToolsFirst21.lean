import Derived.Test.YtadichckbogcjaaGreatDoorZToolsFirst20
set_option linter.all false
section
namespace Go.Proofs.YtadichckbogcjaaGreatDoor.En
open Go.RowKit
set_option maxRecDepth 100000
theorem times_ex (p : PtT) (v : VecT) (r : RectT) (b : SpT) (e2 a2 : Bool) (kx : PureX Tryz.prog 174 [I p.1, I v.1, I r.1, I r.2.2.1] (axV (0, 0, 0, 0) true false)) (ky : PureX Tryz.prog 174 [I p.2, I v.2.1, I r.2.1, I r.2.2.2] (axV b e2 a2)) :
    PureX Tryz.prog 149 [.a [I p.1, I p.2], .a [I v.1, I v.2.1, I v.2.2], .a [I r.1, I r.2.1, I r.2.2.1, I r.2.2.2]] (axV (0, 0, 0, 0) true false) := by
  refine PureX.of Tryz.func149 rfl tabOk rfl rfl rfl (by simp [SV.wfs, SV.wf]) (by simp [SV.wfs, SV.wf]) fun w => ?_
  (conv=>whnf);repeat' (first|((with_reducible refine isC ?_);first|((first|with_reducible refine CallX_pure (kx) ?_|with_reducible refine CallX_pure (ky) ?_)<;>first|omega|with_reducible refine isP ?_|conv=>whnf))|((with_reducible refine isW ?_;first|refine xwr_ok (by omega) (by omega) ?_|refine xwr_raw ?_);conv=>whnf)|((first|refine DrawX_s tabOk folOk ?_|refine DrawS_i (by kernel_rfl) ?_|with_reducible refine andX_i ?_ ?_)<;>conv=>whnf)|with_reducible exact rfl|((with_reducible first|refine xif_kt (by assumption) ?_|refine xif_kf (by assumption) ?_);conv=>whnf)|((with_reducible refine xif_s ?_ ?_)<;>(intro hb;(try simp (disch:=omega) only [hbS] at hb)<;>conv=>whnf)))
  all_goals exact Fin_pure rfl rfl (by simp [SV.wf, SV.wfs])
theorem times_ey (p : PtT) (v : VecT) (r : RectT) (a : SpT) (a1 : Bool) (kx : PureX Tryz.prog 174 [I p.1, I v.1, I r.1, I r.2.2.1] (axV a false a1)) (ky : PureX Tryz.prog 174 [I p.2, I v.2.1, I r.2.1, I r.2.2.2] (axV (0, 0, 0, 0) true false)) :
    PureX Tryz.prog 149 [.a [I p.1, I p.2], .a [I v.1, I v.2.1, I v.2.2], .a [I r.1, I r.2.1, I r.2.2.1, I r.2.2.2]] (axV (0, 0, 0, 0) true false) := by
  refine PureX.of Tryz.func149 rfl tabOk rfl rfl rfl (by simp [SV.wfs, SV.wf]) (by simp [SV.wfs, SV.wf]) fun w => ?_
  (conv=>whnf);repeat' (first|((with_reducible refine isC ?_);first|((first|with_reducible refine CallX_pure (kx) ?_|with_reducible refine CallX_pure (ky) ?_)<;>first|omega|with_reducible refine isP ?_|conv=>whnf))|((with_reducible refine isW ?_;first|refine xwr_ok (by omega) (by omega) ?_|refine xwr_raw ?_);conv=>whnf)|((first|refine DrawX_s tabOk folOk ?_|refine DrawS_i (by kernel_rfl) ?_|with_reducible refine andX_i ?_ ?_)<;>conv=>whnf)|with_reducible exact rfl|((with_reducible first|refine xif_kt (by assumption) ?_|refine xif_kf (by assumption) ?_);conv=>whnf)|((with_reducible refine xif_s ?_ ?_)<;>(intro hb;(try simp (disch:=omega) only [hbS] at hb)<;>conv=>whnf)))
  all_goals exact Fin_pure rfl rfl (by simp [SV.wf, SV.wfs])
theorem axis_z (p d a b : Int) (h : d = 0) : PureX Tryz.prog 174 [I p, I d, I a, I b] (axV (0, 0, 0, 0) (axE p d a b) (!axE p d a b)) := by
  subst h
  exact axis_0 p a b
def timesV (p : PtT) (v : VecT) (r : RectT) : SV := if tmE p v r then axV (0, 0, 0, 0) true false else axV (tmS p v r) false false
theorem Times_x {p : PtT} {v : VecT} {r : RectT} (h : argsB p v r = true) : PureX Tryz.prog 149 [.a [I p.1, I p.2], .a [I v.1, I v.2.1, I v.2.2], .a [I r.1, I r.2.1, I r.2.2.1, I r.2.2.2]] (timesV p v r) := by
  obtain ⟨⟨p1, p2⟩, ⟨v1, v2, v3, v4⟩, r1, r2, r3, r4⟩ := args_bd h
  simp only [argsB, Bool.and_eq_true] at h
  have hnz := vec_nz h.1.2
  unfold timesV tmE tmS tmA tmB
  have qx : v.1 ≠ 0 → PureX Tryz.prog 174 [I p.1, I v.1, I r.1, I r.2.2.1] (axV (axS p.1 v.1 r.1 r.2.2.1) false false) := fun h0 => axis_nz _ _ _ _ (by omega) h0
  have qy : v.2.1 ≠ 0 → PureX Tryz.prog 174 [I p.2, I v.2.1, I r.2.1, I r.2.2.2] (axV (axS p.2 v.2.1 r.2.1 r.2.2.2) false false) := fun h0 => axis_nz _ _ _ _ (by omega) h0
  have sx : v.1 ≠ 0 → spB (axS p.1 v.1 r.1 r.2.2.1) := fun h0 => axS_sp p1 r1 r3 v1 h0
  have sy : v.2.1 ≠ 0 → spB (axS p.2 v.2.1 r.2.1 r.2.2.2) := fun h0 => axS_sp p2 r2 r4 v2 h0
  by_cases hx : v.1 = 0
  · have hy : v.2.1 ≠ 0 := by omega
    have k0 := axis_z p.1 v.1 r.1 r.2.2.1 hx
    rw [if_pos hx, if_neg hy, show axE p.2 v.2.1 r.2.1 r.2.2.2 = false by simp [axE, hy]]
    cases he : axE p.1 v.1 r.1 r.2.2.1 with
    | true =>
      rw [he] at k0
      exact times_ex p v r _ _ _ k0 (qy hy)
    | false =>
      rw [he] at k0
      exact times_y p v r _ (sy hy) k0 (qy hy)
  · rw [if_neg hx, show axE p.1 v.1 r.1 r.2.2.1 = false by simp [axE, hx]]
    by_cases hy : v.2.1 = 0
    · have k0 := axis_z p.2 v.2.1 r.2.1 r.2.2.2 hy
      rw [if_pos hy]
      cases he : axE p.2 v.2.1 r.2.1 r.2.2.2 with
      | true =>
        rw [he] at k0
        exact times_ey p v r _ _ (qx hx) k0
      | false =>
        rw [he] at k0
        exact times_x p v r _ (sx hx) (qx hx) k0
    · rw [if_neg hy, show axE p.2 v.2.1 r.2.1 r.2.2.2 = false by simp [axE, hy]]
      exact times_2 p v r _ _ (sx hx) (sy hy) (qx hx) (qy hy)
set_option maxHeartbeats 2000000 in
theorem gcd5_x (a b : Nat) (ha : a ≤ 1000000000000000) (hb0 : b ≤ 1000000000000000) : PureX Tryz.prog 175 [I a, I b] (I (Nat.gcd a b : Nat)) := by
  generalize hK : Nat.gcd a b = K
  refine PureX.of Tryz.func175 rfl tabOk rfl rfl rfl (by simp [SV.wfs, SV.wf]) (by simp [SV.wfs, SV.wf]) fun w => ?_
  (conv=>whnf);repeat' (first|((with_reducible refine isR ?_;first|refine xrem_nn (by omega) (by omega) ?_|refine xrem_raw (by omega) ?_);conv=>whnf)|((with_reducible refine need_i ?_ ?_)<;>first|omega|conv=>whnf)|((first|refine DrawX_s tabOk folOk ?_|refine DrawS_i (by kernel_rfl) ?_|with_reducible refine andX_i ?_ ?_)<;>conv=>whnf)|with_reducible exact rfl|((with_reducible first|refine xif_kt (by assumption) ?_|refine xif_kf (by assumption) ?_);conv=>whnf)|((with_reducible refine xif_s ?_ ?_)<;>(intro hb;(try simp (disch:=omega) only [hbS] at hb)<;>conv=>whnf)))
  refine LoopX_inv tabOk (α := Nat × Nat) (fun s => (s.1 ≤ 1000000000000000 ∧ s.2 ≤ 1000000000000000) ∧ Nat.gcd s.1 s.2 = K) (fun s => [(0, I s.1), (1, I s.2)]) (fun _ => []) (fun s => s.2) (a, b) [] ⟨by dsimp only; omega, hK⟩ ?_ ?_
  · ((refine ⟨?_, ?_, ?_, ?_⟩) <;> (repeat' ((conv => whnf); apply And.intro)) <;> (try (first | exact trivial | decide)))
    all_goals first | rfl | exact fun _ _ h => h | simp [SV.wf, SV.wfs]
  · rintro ⟨g, n⟩ ⟨hj, hgk⟩
    dsimp only at hj hgk ⊢
    by_cases hn : n = 0
    · subst hn
      rw [Nat.gcd_zero_right] at hgk
      subst hgk
      (conv=>whnf);repeat' (first|((with_reducible refine isR ?_;first|refine xrem_nn (by omega) (by omega) ?_|refine xrem_raw (by omega) ?_);conv=>whnf)|((with_reducible refine need_i ?_ ?_)<;>first|omega|conv=>whnf)|((first|refine DrawX_s tabOk folOk ?_|refine DrawS_i (by kernel_rfl) ?_|with_reducible refine andX_i ?_ ?_)<;>conv=>whnf)|with_reducible exact rfl|((with_reducible first|refine xif_kt (by assumption) ?_|refine xif_kf (by assumption) ?_);conv=>whnf)|((with_reducible refine xif_s ?_ ?_)<;>(intro hb;(try simp (disch:=omega) only [hbS] at hb)<;>conv=>whnf)))
      all_goals try (exfalso; omega)
      exact Fin_pure rfl rfl trivial
    · have hr2 := Nat.mod_lt g (show n > 0 by omega)
      have e : (g : Int) % (n : Int) = ((g % n : Nat) : Int) := rfl
      (conv=>whnf);repeat' (first|((with_reducible refine isR ?_;first|refine xrem_nn (by omega) (by omega) ?_|refine xrem_raw (by omega) ?_);conv=>whnf)|((with_reducible refine need_i ?_ ?_)<;>first|omega|conv=>whnf)|((first|refine DrawX_s tabOk folOk ?_|refine DrawS_i (by kernel_rfl) ?_|with_reducible refine andX_i ?_ ?_)<;>conv=>whnf)|with_reducible exact rfl|((with_reducible first|refine xif_kt (by assumption) ?_|refine xif_kf (by assumption) ?_);conv=>whnf)|((with_reducible refine xif_s ?_ ?_)<;>(intro hb;(try simp (disch:=omega) only [hbS] at hb)<;>conv=>whnf)))
      all_goals try (exfalso; omega)
      refine ⟨(n, g % n), [], ⟨by dsimp only; omega, ?_⟩, ?_, by (try dsimp only); omega⟩
      · dsimp only
        rw [← hgk, Nat.gcd_comm g n, Nat.gcd_rec n g, Nat.gcd_comm]
      · ((refine ⟨?_, ?_, ?_, ?_⟩) <;> (repeat' ((conv => whnf); apply And.intro)) <;> (try (first | exact trivial | decide)))
        all_goals first | rfl | exact fun _ _ h => h | simp [SV.wf, SV.wfs]
def lowG (n d : Int) : Int := (Nat.gcd n.natAbs d.natAbs : Nat)
theorem lowG_ok {n d : Int} (hn : 0 ≤ n) (hd : 1 ≤ d) : 1 ≤ lowG n d ∧ lowG n d ≤ d ∧ n / lowG n d * lowG n d = n ∧ d / lowG n d * lowG n d = d ∧ 0 ≤ n / lowG n d ∧ 1 ≤ d / lowG n d ∧ n / lowG n d ≤ n ∧ d / lowG n d ≤ d := by
  obtain ⟨a, rfl⟩ := Int.eq_ofNat_of_zero_le hn
  obtain ⟨b, rfl⟩ := Int.eq_ofNat_of_zero_le (show 0 ≤ d by omega)
  unfold lowG
  simp only [Int.natAbs_natCast]
  have hb : 0 < b := by omega
  have h1 : 0 < Nat.gcd a b := Nat.gcd_pos_of_pos_right _ hb
  have h2 := Nat.gcd_le_right a hb
  have h3 := Nat.div_mul_cancel (Nat.gcd_dvd_left a b)
  have h4 := Nat.div_mul_cancel (Nat.gcd_dvd_right a b)
  have h5 := Nat.div_pos h2 h1
  have h6 := Nat.div_le_self a (Nat.gcd a b)
  have h7 := Nat.div_le_self b (Nat.gcd a b)
  exact ⟨by exact_mod_cast h1, by exact_mod_cast h2, by exact_mod_cast h3, by exact_mod_cast h4, by exact_mod_cast Nat.zero_le _, by exact_mod_cast h5, by exact_mod_cast h6, by exact_mod_cast h7⟩
theorem Lowest_x {n d : Int} (hn : 0 ≤ n ∧ n ≤ 1000000000000000) (hd : 1 ≤ d ∧ d ≤ 1000000000000000) : PureX Tryz.prog 150 [I n, I d] (.a [I (n / lowG n d), I (d / lowG n d)]) := by
  have k := gcd5_x n.natAbs d.natAbs (by omega) (by omega)
  rw [show ((n.natAbs : Nat) : Int) = n by omega, show ((d.natAbs : Nat) : Int) = d by omega] at k
  have hk := lowG_ok hn.1 hd.1
  unfold lowG at *
  generalize ((Nat.gcd n.natAbs d.natAbs : Nat) : Int) = g at *
  refine PureX.of Tryz.func150 rfl tabOk rfl rfl rfl (by simp [SV.wfs, SV.wf]) (by simp [SV.wfs, SV.wf]) fun w => ?_
  (conv=>whnf);repeat' (first|((with_reducible refine isC ?_);first|((with_reducible refine CallX_pure (k) ?_)<;>first|omega|with_reducible refine isP ?_|conv=>whnf))|((with_reducible refine isQ ?_;first|refine xquo_nn (by omega) (by omega) (by omega) ?_|refine xquo_ok (by omega) (by omega) (by omega) ?_|refine xquo_raw (by omega) ?_);conv=>whnf)|((with_reducible refine need_i ?_ ?_)<;>first|omega|conv=>whnf)|((first|refine DrawX_s tabOk folOk ?_|refine DrawS_i (by kernel_rfl) ?_|with_reducible refine andX_i ?_ ?_)<;>conv=>whnf)|with_reducible exact rfl|((with_reducible first|refine xif_kt (by assumption) ?_|refine xif_kf (by assumption) ?_);conv=>whnf)|((with_reducible refine xif_s ?_ ?_)<;>(intro hb;(try simp (disch:=omega) only [hbS] at hb)<;>conv=>whnf)))
  all_goals try (exfalso; omega)
  exact Fin_pure rfl rfl (by simp [SV.wf, SV.wfs])
theorem Enter_x {p : PtT} {v : VecT} {r : RectT} (h : argsB p v r = true) : PureX Tryz.prog 113 [.a [I p.1, I p.2], .a [I v.1, I v.2.1, I v.2.2], .a [I r.1, I r.2.1, I r.2.2.1, I r.2.2.2]]
    (if tmE p v r then .t [.a [I 0, I 0], B false] else .t [.a [I ((tmS p v r).1 * v.2.2 / lowG ((tmS p v r).1 * v.2.2) (tmS p v r).2.1), I ((tmS p v r).2.1 / lowG ((tmS p v r).1 * v.2.2) (tmS p v r).2.1)], B true]) := by
  have k1 := rArgs_x h
  have k2 := Times_x h
  obtain ⟨⟨s1, s2, s3, s4⟩, s5, s6, s7, s8⟩ := tmS_sp h
  have h' := h
  simp only [argsB, Bool.and_eq_true] at h'
  have hp := tm_pos (p := p) (r := r) h'.1.2
  have hd := (args_bd h).2.1.2.2
  unfold timesV at k2
  generalize tmS p v r = s at *
  dsimp only at s1 s2 s3 s4 s5 s6 s7 s8
  have hm := sp_prod (x := s.1) (y := v.2.2) ⟨s1, s2⟩ ⟨hd.1, hd.2⟩
  have hm0 : 0 ≤ s.1 * v.2.2 := Int.mul_nonneg hp.2 (by omega)
  have k3 := Lowest_x (n := s.1 * v.2.2) (d := s.2.1) (by omega) (by omega)
  have hw := lowG_ok (n := s.1 * v.2.2) (d := s.2.1) hm0 s3
  cases he : tmE p v r with
  | true =>
    rw [he, if_pos rfl] at k2
    rw [if_pos rfl]
    refine PureX.of Tryz.func113 rfl tabOk rfl rfl rfl (by simp [SV.wfs, SV.wf]) (by simp [SV.wfs, SV.wf]) fun w => ?_
    (conv=>whnf);repeat' (first|((with_reducible refine isC ?_);first|((first|with_reducible refine CallX_pure (k1) ?_|with_reducible refine CallX_pure (k2) ?_)<;>first|omega|with_reducible refine isP ?_|conv=>whnf))|((with_reducible refine isW ?_;first|refine xwr_ok (by omega) (by omega) ?_|refine xwr_raw ?_);conv=>whnf)|with_reducible exact rfl|((with_reducible first|refine xif_kt (by assumption) ?_|refine xif_kf (by assumption) ?_);conv=>whnf)|((with_reducible refine xif_s ?_ ?_)<;>(intro hb;(try simp (disch:=omega) only [hbS] at hb)<;>conv=>whnf)))
    exact Fin_pure rfl rfl (by simp [SV.wf, SV.wfs])
  | false =>
    rw [he, if_neg (by simp)] at k2
    rw [if_neg (by simp)]
    generalize lowG (s.1 * v.2.2) s.2.1 = g at *
    refine PureX.of Tryz.func113 rfl tabOk rfl rfl rfl (by simp [SV.wfs, SV.wf]) (by simp [SV.wfs, SV.wf]) fun w => ?_
    (conv=>whnf);repeat' (first|((with_reducible refine isC ?_);first|((first|with_reducible refine CallX_pure (k1) ?_|with_reducible refine CallX_pure (k2) ?_|with_reducible refine CallX_pure (k3) ?_)<;>first|omega|with_reducible refine isP ?_|conv=>whnf))|((with_reducible refine isW ?_;first|refine xwr_ok (by omega) (by omega) ?_|refine xwr_raw ?_);conv=>whnf)|with_reducible exact rfl|((with_reducible first|refine xif_kt (by assumption) ?_|refine xif_kf (by assumption) ?_);conv=>whnf)|((with_reducible refine xif_s ?_ ?_)<;>(intro hb;(try simp (disch:=omega) only [hbS] at hb)<;>conv=>whnf)))
    all_goals try (exfalso; omega)
    exact Fin_pure rfl rfl (by simp [SV.wf, SV.wfs])
theorem tm_hi {p : PtT} {v : VecT} {r : RectT} (hv : vecB v = true) (he : tmE p v r = false) : 0 ≤ (tmS p v r).2.2.1 := by
  have hp := tm_pos (p := p) (r := r) hv
  simp only [tmE, Bool.or_eq_false_iff] at he
  have := lessB_not.1 he.2
  unfold frLe at this
  dsimp only at this
  have h1 : 0 ≤ (tmS p v r).1 * (tmS p v r).2.2.2 := Int.mul_nonneg hp.2 (by have := hp.1.2; omega)
  exact Int.nonneg_of_mul_nonneg_left (b := (tmS p v r).2.1) (by omega) hp.1.1
theorem Leave_x {p : PtT} {v : VecT} {r : RectT} (h : argsB p v r = true) : PureX Tryz.prog 114 [.a [I p.1, I p.2], .a [I v.1, I v.2.1, I v.2.2], .a [I r.1, I r.2.1, I r.2.2.1, I r.2.2.2]]
    (if tmE p v r then .t [.a [I 0, I 0], B false] else .t [.a [I ((tmS p v r).2.2.1 * v.2.2 / lowG ((tmS p v r).2.2.1 * v.2.2) (tmS p v r).2.2.2), I ((tmS p v r).2.2.2 / lowG ((tmS p v r).2.2.1 * v.2.2) (tmS p v r).2.2.2)], B true]) := by
  have k1 := rArgs_x h
  have k2 := Times_x h
  obtain ⟨⟨s1, s2, s3, s4⟩, s5, s6, s7, s8⟩ := tmS_sp h
  have h' := h
  simp only [argsB, Bool.and_eq_true] at h'
  have hp := tm_pos (p := p) (r := r) h'.1.2
  have hh := tm_hi (p := p) (r := r) h'.1.2
  have hd := (args_bd h).2.1.2.2
  unfold timesV at k2
  generalize tmS p v r = s at *
  dsimp only at s1 s2 s3 s4 s5 s6 s7 s8
  have hm := sp_prod (x := s.2.2.1) (y := v.2.2) ⟨s5, s6⟩ ⟨hd.1, hd.2⟩
  cases he : tmE p v r with
  | true =>
    rw [he, if_pos rfl] at k2
    rw [if_pos rfl]
    refine PureX.of Tryz.func114 rfl tabOk rfl rfl rfl (by simp [SV.wfs, SV.wf]) (by simp [SV.wfs, SV.wf]) fun w => ?_
    (conv=>whnf);repeat' (first|((with_reducible refine isC ?_);first|((first|with_reducible refine CallX_pure (k1) ?_|with_reducible refine CallX_pure (k2) ?_)<;>first|omega|with_reducible refine isP ?_|conv=>whnf))|((with_reducible refine isW ?_;first|refine xwr_ok (by omega) (by omega) ?_|refine xwr_raw ?_);conv=>whnf)|with_reducible exact rfl|((with_reducible first|refine xif_kt (by assumption) ?_|refine xif_kf (by assumption) ?_);conv=>whnf)|((with_reducible refine xif_s ?_ ?_)<;>(intro hb;(try simp (disch:=omega) only [hbS] at hb)<;>conv=>whnf)))
    exact Fin_pure rfl rfl (by simp [SV.wf, SV.wfs])
  | false =>
    rw [he, if_neg (by simp)] at k2
    rw [if_neg (by simp)]
    have hm0 : 0 ≤ s.2.2.1 * v.2.2 := Int.mul_nonneg (hh he) (by omega)
    have k3 := Lowest_x (n := s.2.2.1 * v.2.2) (d := s.2.2.2) (by omega) (by omega)
    have hw := lowG_ok (n := s.2.2.1 * v.2.2) (d := s.2.2.2) hm0 s7
    generalize lowG (s.2.2.1 * v.2.2) s.2.2.2 = g at *
    refine PureX.of Tryz.func114 rfl tabOk rfl rfl rfl (by simp [SV.wfs, SV.wf]) (by simp [SV.wfs, SV.wf]) fun w => ?_
    (conv=>whnf);repeat' (first|((with_reducible refine isC ?_);first|((first|with_reducible refine CallX_pure (k1) ?_|with_reducible refine CallX_pure (k2) ?_|with_reducible refine CallX_pure (k3) ?_)<;>first|omega|with_reducible refine isP ?_|conv=>whnf))|((with_reducible refine isW ?_;first|refine xwr_ok (by omega) (by omega) ?_|refine xwr_raw ?_);conv=>whnf)|with_reducible exact rfl|((with_reducible first|refine xif_kt (by assumption) ?_|refine xif_kf (by assumption) ?_);conv=>whnf)|((with_reducible refine xif_s ?_ ?_)<;>(intro hb;(try simp (disch:=omega) only [hbS] at hb)<;>conv=>whnf)))
    all_goals try (exfalso; omega)
    exact Fin_pure rfl rfl (by simp [SV.wf, SV.wfs])
theorem low_le {n d g a b k : Int} (hg : 1 ≤ g) (h1 : a * g = n) (h2 : b * g = d) : (a ≤ k * b ↔ n ≤ k * d) ∧ (k * b ≤ a ↔ k * d ≤ n) := by
  rw [← h1, ← h2, ← Int.mul_assoc]
  exact ⟨(mul_pos_le (by omega)).symm, (mul_pos_le (by omega)).symm⟩
set_option maxHeartbeats 1000000 in
theorem rMeets_x {p : PtT} {v : VecT} {r : RectT} (lo hi : Int) (h : argsB p v r = true) (hl : 0 ≤ lo ∧ lo ≤ hi ∧ hi ≤ 65536) : PureX Tryz.prog 68 [.a [I p.1, I p.2], .a [I v.1, I v.2.1, I v.2.2], I lo, I hi, .a [I r.1, I r.2.1, I r.2.2.1, I r.2.2.2]] (B (rMeetF p v lo hi r)) := by
  obtain ⟨l1, l2, l3⟩ := hl
  have k1 := Enter_x h
  have k2 := Leave_x h
  obtain ⟨⟨s1, s2, s3, s4⟩, s5, s6, s7, s8⟩ := tmS_sp h
  have h' := h
  simp only [argsB, Bool.and_eq_true] at h'
  have hp := tm_pos (p := p) (r := r) h'.1.2
  have hh := tm_hi (p := p) (r := r) h'.1.2
  have hd := (args_bd h).2.1.2.2
  unfold rMeetF
  generalize tmS p v r = s at *
  dsimp only at s1 s2 s3 s4 s5 s6 s7 s8
  cases he : tmE p v r with
  | true =>
    rw [he, if_pos rfl] at k1 k2
    refine PureX.of Tryz.func68 rfl tabOk rfl rfl rfl (by simp [SV.wfs, SV.wf]) (by simp [SV.wfs, SV.wf]) fun w => ?_
    (conv=>whnf);repeat' (first|((with_reducible refine isC ?_);first|((first|with_reducible refine CallX_pure (k1) ?_|with_reducible refine CallX_pure (k2) ?_)<;>first|omega|with_reducible refine isP ?_|conv=>whnf))|((with_reducible refine isW ?_;first|refine xwr_ok (by omega) (by omega) ?_|refine xwr_raw ?_);conv=>whnf)|with_reducible exact rfl|((with_reducible first|refine xif_kt (by assumption) ?_|refine xif_kf (by assumption) ?_);conv=>whnf)|((with_reducible refine xif_s ?_ ?_)<;>(intro hb;(try simp (disch:=omega) only [hbS] at hb)<;>conv=>whnf)))
    all_goals try (exfalso; omega)
    all_goals
      refine Fin_pure rfl (B_eq ?_) trivial
      simp
  | false =>
    rw [he, if_neg (by simp)] at k1 k2
    have hm1 := sp_prod (x := s.1) (y := v.2.2) ⟨s1, s2⟩ ⟨hd.1, hd.2⟩
    have hm2 := sp_prod (x := s.2.2.1) (y := v.2.2) ⟨s5, s6⟩ ⟨hd.1, hd.2⟩
    have hw1 := lowG_ok (n := s.1 * v.2.2) (d := s.2.1) (Int.mul_nonneg hp.2 (by omega)) s3
    have hw2 := lowG_ok (n := s.2.2.1 * v.2.2) (d := s.2.2.2) (Int.mul_nonneg (hh he) (by omega)) s7
    have e1 := (low_le (k := hi) hw1.1 hw1.2.2.1 hw1.2.2.2.1).1
    have e2 := (low_le (k := lo) hw2.1 hw2.2.2.1 hw2.2.2.2.1).2
    generalize s.1 * v.2.2 / lowG (s.1 * v.2.2) s.2.1 = a1 at *
    generalize s.2.1 / lowG (s.1 * v.2.2) s.2.1 = b1 at *
    generalize s.2.2.1 * v.2.2 / lowG (s.2.2.1 * v.2.2) s.2.2.2 = a2 at *
    generalize s.2.2.2 / lowG (s.2.2.1 * v.2.2) s.2.2.2 = b2 at *
    have q1 : decide (s.1 * v.2.2 ≤ hi * s.2.1) = decide (a1 ≤ hi * b1) := decide_eq_decide.2 e1.symm
    have q2 : decide (lo * s.2.2.2 ≤ s.2.2.1 * v.2.2) = decide (lo * b2 ≤ a2) := decide_eq_decide.2 e2.symm
    rw [q1, q2]
    have hk1 := mul_bd (a := hi) (b := b1) (A := 65536) (B := 67108864) (by omega) (by omega)
    have hk2 := mul_bd (a := lo) (b := b2) (A := 65536) (B := 67108864) (by omega) (by omega)
    refine PureX.of Tryz.func68 rfl tabOk rfl rfl rfl (by simp [SV.wfs, SV.wf]) (by simp [SV.wfs, SV.wf]) fun w => ?_
    (conv=>whnf);repeat' (first|((with_reducible refine isC ?_);first|((first|with_reducible refine CallX_pure (k1) ?_|with_reducible refine CallX_pure (k2) ?_)<;>first|omega|with_reducible refine isP ?_|conv=>whnf))|((with_reducible refine isW ?_;first|refine xwr_ok (by omega) (by omega) ?_|refine xwr_raw ?_);conv=>whnf)|with_reducible exact rfl|((with_reducible first|refine xif_kt (by assumption) ?_|refine xif_kf (by assumption) ?_);conv=>whnf)|((with_reducible refine xif_s ?_ ?_)<;>(intro hb;(try simp (disch:=omega) only [hbS] at hb)<;>conv=>whnf)))
    all_goals try (exfalso; omega)
    all_goals refine Fin_pure rfl (B_eq ?_) trivial
    all_goals simp
    all_goals omega
end Go.Proofs.YtadichckbogcjaaGreatDoor.En
end
