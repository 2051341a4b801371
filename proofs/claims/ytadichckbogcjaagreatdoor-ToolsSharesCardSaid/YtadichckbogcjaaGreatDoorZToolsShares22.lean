import Derived.Test.YtadichckbogcjaaGreatDoorZToolsShares16
set_option linter.all false
section
namespace Go.Proofs.YtadichckbogcjaaGreatDoor.En
open Go.RowKit
set_option maxRecDepth 100000
theorem abs4_x (n : Int) (h : -1000000000000 ≤ n ∧ n ≤ 1000000000000) : PureX Tryz.prog 171 [I n] (I (n.natAbs : Nat)) := by
  refine PureX.of Tryz.func171 rfl tabOk rfl rfl rfl (by simp [SV.wfs, SV.wf]) (by simp [SV.wfs, SV.wf]) fun w => ?_
  (conv=>whnf);repeat' (first|((with_reducible refine isW ?_;first|refine xwr_ok (by omega) (by omega) ?_|refine xwr_raw ?_);conv=>whnf)|with_reducible exact rfl|((with_reducible first|refine xif_kt (by assumption) ?_|refine xif_kf (by assumption) ?_);conv=>whnf)|((with_reducible refine xif_s ?_ ?_)<;>(intro hb;(try simp (disch:=omega) only [hbS] at hb)<;>conv=>whnf)))
  all_goals exact Fin_pure rfl (I_eq (by omega)) trivial
set_option maxHeartbeats 2000000 in
theorem gcd4_x (a b c : Nat) (ha : a ≤ 1000000000000) (hb0 : b ≤ 1000000000000) (hc : c ≤ 1000000000000) : PureX Tryz.prog 170 [I a, I b, I c] (I (Nat.gcd (Nat.gcd a b) c : Nat)) := by
  generalize hK1 : Nat.gcd a b = K1
  generalize hK : Nat.gcd K1 c = K
  have hb1 : K1 ≤ 1000000000000 := by
    rw [← hK1]
    rcases Nat.eq_zero_or_pos a with h | h
    · rw [h, Nat.gcd_zero_left]; omega
    · have := Nat.gcd_le_left b h; omega
  refine PureX.of Tryz.func170 rfl tabOk rfl rfl rfl (by simp [SV.wfs, SV.wf]) (by simp [SV.wfs, SV.wf]) fun w => ?_
  (conv=>whnf);repeat' (first|((with_reducible refine isR ?_;first|refine xrem_nn (by omega) (by omega) ?_|refine xrem_raw (by omega) ?_);conv=>whnf)|((with_reducible refine need_i ?_ ?_)<;>first|omega|conv=>whnf)|with_reducible exact rfl|((with_reducible first|refine xif_kt (by assumption) ?_|refine xif_kf (by assumption) ?_);conv=>whnf)|((with_reducible refine xif_s ?_ ?_)<;>(intro hb;(try simp (disch:=omega) only [hbS] at hb)<;>conv=>whnf)))
  refine LoopX_inv tabOk (α := Nat × Nat) (fun s => (s.1 ≤ 1000000000000 ∧ s.2 ≤ 1000000000000) ∧ Nat.gcd s.1 s.2 = K1) (fun s => [(0, I s.1), (1, I s.2), (2, I c)]) (fun _ => []) (fun s => s.2) (a, b) [] ⟨by dsimp only; omega, hK1⟩ ?_ ?_
  · ((refine ⟨?_, ?_, ?_, ?_⟩) <;> (repeat' ((conv => whnf); apply And.intro)) <;> (try (first | exact trivial | decide)))
    all_goals first | rfl | exact fun _ _ h => h | simp [SV.wf, SV.wfs]
  · rintro ⟨g, n⟩ ⟨hj, hgk⟩
    dsimp only at hj hgk ⊢
    by_cases hn : n = 0
    · subst hn
      rw [Nat.gcd_zero_right] at hgk
      subst hgk
      (conv=>whnf);repeat' (first|((with_reducible refine isR ?_;first|refine xrem_nn (by omega) (by omega) ?_|refine xrem_raw (by omega) ?_);conv=>whnf)|((with_reducible refine need_i ?_ ?_)<;>first|omega|conv=>whnf)|with_reducible exact rfl|((with_reducible first|refine xif_kt (by assumption) ?_|refine xif_kf (by assumption) ?_);conv=>whnf)|((with_reducible refine xif_s ?_ ?_)<;>(intro hb;(try simp (disch:=omega) only [hbS] at hb)<;>conv=>whnf)))
      all_goals try (exfalso; omega)
      refine LoopX_inv tabOk (α := Nat × Nat) (fun s => (s.1 ≤ 1000000000000 ∧ s.2 ≤ 1000000000000) ∧ Nat.gcd s.1 s.2 = K) (fun s => [(0, I s.1), (2, I s.2)]) (fun _ => []) (fun s => s.2) (g, c) [] ⟨by dsimp only; omega, hK⟩ ?_ ?_
      · ((refine ⟨?_, ?_, ?_, ?_⟩) <;> (repeat' ((conv => whnf); apply And.intro)) <;> (try (first | exact trivial | decide)))
        all_goals first | rfl | exact fun _ _ h => h | simp [SV.wf, SV.wfs]
      · rintro ⟨g2, m⟩ ⟨hj2, hgk2⟩
        dsimp only at hj2 hgk2 ⊢
        by_cases hm : m = 0
        · subst hm
          rw [Nat.gcd_zero_right] at hgk2
          (conv=>whnf);repeat' (first|((with_reducible refine isR ?_;first|refine xrem_nn (by omega) (by omega) ?_|refine xrem_raw (by omega) ?_);conv=>whnf)|((with_reducible refine need_i ?_ ?_)<;>first|omega|conv=>whnf)|with_reducible exact rfl|((with_reducible first|refine xif_kt (by assumption) ?_|refine xif_kf (by assumption) ?_);conv=>whnf)|((with_reducible refine xif_s ?_ ?_)<;>(intro hb;(try simp (disch:=omega) only [hbS] at hb)<;>conv=>whnf)))
          all_goals try (exfalso; omega)
          exact Fin_pure rfl (I_eq (by omega)) trivial
        · have hr2 := Nat.mod_lt g2 (show m > 0 by omega)
          have e : (g2 : Int) % (m : Int) = ((g2 % m : Nat) : Int) := rfl
          (conv=>whnf);repeat' (first|((with_reducible refine isR ?_;first|refine xrem_nn (by omega) (by omega) ?_|refine xrem_raw (by omega) ?_);conv=>whnf)|((with_reducible refine need_i ?_ ?_)<;>first|omega|conv=>whnf)|with_reducible exact rfl|((with_reducible first|refine xif_kt (by assumption) ?_|refine xif_kf (by assumption) ?_);conv=>whnf)|((with_reducible refine xif_s ?_ ?_)<;>(intro hb;(try simp (disch:=omega) only [hbS] at hb)<;>conv=>whnf)))
          all_goals try (exfalso; omega)
          refine ⟨(m, g2 % m), [], ⟨by dsimp only; omega, ?_⟩, ?_, by (try dsimp only); omega⟩
          · dsimp only
            rw [← hgk2, Nat.gcd_comm g2 m, Nat.gcd_rec m g2, Nat.gcd_comm]
          · ((refine ⟨?_, ?_, ?_, ?_⟩) <;> (repeat' ((conv => whnf); apply And.intro)) <;> (try (first | exact trivial | decide)))
            all_goals first | rfl | exact fun _ _ h => h | simp [SV.wf, SV.wfs]
    · have hr2 := Nat.mod_lt g (show n > 0 by omega)
      have e : (g : Int) % (n : Int) = ((g % n : Nat) : Int) := rfl
      (conv=>whnf);repeat' (first|((with_reducible refine isR ?_;first|refine xrem_nn (by omega) (by omega) ?_|refine xrem_raw (by omega) ?_);conv=>whnf)|((with_reducible refine need_i ?_ ?_)<;>first|omega|conv=>whnf)|with_reducible exact rfl|((with_reducible first|refine xif_kt (by assumption) ?_|refine xif_kf (by assumption) ?_);conv=>whnf)|((with_reducible refine xif_s ?_ ?_)<;>(intro hb;(try simp (disch:=omega) only [hbS] at hb)<;>conv=>whnf)))
      all_goals try (exfalso; omega)
      refine ⟨(n, g % n), [], ⟨by dsimp only; omega, ?_⟩, ?_, by (try dsimp only); omega⟩
      · dsimp only
        rw [← hgk, Nat.gcd_comm g n, Nat.gcd_rec n g, Nat.gcd_comm]
      · ((refine ⟨?_, ?_, ?_, ?_⟩) <;> (repeat' ((conv => whnf); apply And.intro)) <;> (try (first | exact trivial | decide)))
        all_goals first | rfl | exact fun _ _ h => h | simp [SV.wf, SV.wfs]
theorem low4_x (x y d : Int) (hx : -1000000000000 ≤ x ∧ x ≤ 1000000000000) (hy : -1000000000000 ≤ y ∧ y ≤ 1000000000000) (hd : 1 ≤ d ∧ d ≤ 1000000000000) : PureX Tryz.prog 146 [I x, I y, I d] (.a [I (lowF x y d).1, I (lowF x y d).2.1, I (lowF x y d).2.2]) := by
  have k1 := abs4_x x hx
  have k2 := abs4_x y hy
  have k3 : PureX Tryz.prog 171 [I d] (I (d.natAbs : Nat)) := abs4_x d (by omega)
  have kg := gcd4_x x.natAbs y.natAbs d.natAbs (by omega) (by omega) (by omega)
  have ed : ((d.natAbs : Nat) : Int) = d := by omega
  rw [ed] at kg
  have hg := gsI_pos x y d hd.1 2
  have e : ((Nat.gcd (Nat.gcd x.natAbs y.natAbs) d.natAbs : Nat) : Int) = gsI x y d 2 := by
    rw [Nat.gcd_comm (Nat.gcd x.natAbs y.natAbs), ← Nat.gcd_assoc]
    rfl
  rw [e] at kg
  have b1 := tdiv_le x (gsI x y d 2)
  have b2 := tdiv_le y (gsI x y d 2)
  unfold lowF
  generalize gsI x y d 2 = g at *
  refine PureX.of Tryz.func146 rfl tabOk rfl rfl rfl (by simp [SV.wfs, SV.wf]) (by simp [SV.wfs, SV.wf]) fun w => ?_
  (conv=>whnf);repeat' (first|((with_reducible refine isC ?_);first|((first|with_reducible refine CallX_pure (k1) ?_|with_reducible refine CallX_pure (k2) ?_|with_reducible refine CallX_pure (kg) ?_)<;>first|omega|with_reducible refine isP ?_|conv=>whnf))|((with_reducible refine isQ ?_;first|refine xquo_nn (by omega) (by omega) (by omega) ?_|refine xquo_ok (by omega) (by omega) (by omega) ?_|refine xquo_raw (by omega) ?_);conv=>whnf)|((with_reducible refine need_i ?_ ?_)<;>first|omega|conv=>whnf)|((first|refine DrawX_s tabOk folOk ?_|refine DrawS_i (by kernel_rfl) ?_|with_reducible refine andX_i ?_ ?_)<;>conv=>whnf)|with_reducible exact rfl|((with_reducible first|refine xif_kt (by assumption) ?_|refine xif_kf (by assumption) ?_);conv=>whnf)|((with_reducible refine xif_s ?_ ?_)<;>(intro hb;(try simp (disch:=omega) only [hbS] at hb)<;>conv=>whnf)))
  all_goals try (exfalso; omega)
  exact Fin_pure rfl rfl (by simp [SV.wf, SV.wfs])
set_option maxHeartbeats 1000000 in
theorem bVector_x (v : VecT) : PureX Tryz.prog 169 [.a [I v.1, I v.2.1, I v.2.2]] (B (vecB v)) := by
  have hsz := vecIn_sz v
  cases h : vecIn v with
  | true =>
    obtain ⟨q1, q2, q3⟩ := vec_sq h
    have h' := vecIn_iff.1 h
    rw [h] at hsz
    simp only [Bool.true_eq, Bool.and_eq_true, decide_eq_true_eq] at hsz
    obtain ⟨⟨_, s1⟩, s2⟩ := hsz
    refine PureX.of Tryz.func169 rfl tabOk rfl rfl rfl (by simp [SV.wfs, SV.wf]) (by simp [SV.wfs, SV.wf]) fun w => ?_
    (conv=>whnf);repeat' (first|((with_reducible refine isC ?_);first|((with_reducible refine CallX_pure (Size_x _ _ ?_ ?_) ?_)<;>first|omega|with_reducible refine isP ?_|conv=>whnf))|((with_reducible refine isW ?_;first|refine xwr_ok (by omega) (by omega) ?_|refine xwr_raw ?_);conv=>whnf)|with_reducible exact rfl|((with_reducible first|refine xif_kt (by assumption) ?_|refine xif_kf (by assumption) ?_);conv=>whnf)|((with_reducible refine xif_s ?_ ?_)<;>(intro hb;(try simp (disch:=omega) only [hbS] at hb)<;>conv=>whnf)))
    all_goals try (exfalso; omega)
    all_goals try exact (Bool.false_ne_true (hb.symm.trans s1)).elim
    all_goals try exact (Bool.false_ne_true (hb.symm.trans s2)).elim
    all_goals refine Fin_pure rfl (B_eq ?_) trivial
    all_goals simp [vecB, h]
    all_goals rfl
  | false =>
    have h' : ¬ (1 ≤ v.2.2 ∧ v.2.2 ≤ 67108864 ∧ szB v.1 v.2.2 = true ∧ szB v.2.1 v.2.2 = true) := by
      rintro ⟨a1, a2, a3, a4⟩
      rw [h] at hsz
      simp [a1, a2, a3, a4] at hsz
    refine PureX.of Tryz.func169 rfl tabOk rfl rfl rfl (by simp [SV.wfs, SV.wf]) (by simp [SV.wfs, SV.wf]) fun w => ?_
    (conv=>whnf);repeat' (first|((with_reducible refine isC ?_);first|((with_reducible refine CallX_pure (Size_x _ _ ?_ ?_) ?_)<;>first|omega|with_reducible refine isP ?_|conv=>whnf))|((with_reducible refine isW ?_;first|refine xwr_ok (by omega) (by omega) ?_|refine xwr_raw ?_);conv=>whnf)|with_reducible exact rfl|((with_reducible first|refine xif_kt (by assumption) ?_|refine xif_kf (by assumption) ?_);conv=>whnf)|((with_reducible refine xif_s ?_ ?_)<;>(intro hb;(try simp (disch:=omega) only [hbS] at hb)<;>conv=>whnf)))
    all_goals first
      | (refine Fin_pure rfl (B_eq ?_) trivial; simp [vecB, h]; done)
      | exact (h' ⟨by omega, by omega, by assumption, by assumption⟩).elim
theorem rvValid_x (v : VecT) : PureX Tryz.prog 145 [.a [I v.1, I v.2.1, I v.2.2]] (B (vecB v)) := by
  have h := bVector_x v
  refine PureX.of Tryz.func145 rfl tabOk rfl rfl rfl (by simp [SV.wfs, SV.wf]) (by simp [SV.wfs, SV.wf]) fun w => ?_
  (conv=>whnf);repeat' (first|((with_reducible refine isC ?_);first|((with_reducible refine CallX_pure (h) ?_)<;>first|omega|with_reducible refine isP ?_|conv=>whnf))|with_reducible exact rfl|((with_reducible first|refine xif_kt (by assumption) ?_|refine xif_kf (by assumption) ?_);conv=>whnf)|((with_reducible refine xif_s ?_ ?_)<;>(intro hb;(try simp (disch:=omega) only [hbS] at hb)<;>conv=>whnf)))
  exact Fin_pure rfl rfl trivial
theorem rTurn_x (a b : VecT) (ha : vecB a = true) (hb' : vecB b = true) (hD : a.2.2 * b.2.2 ≤ 67108864) : PureX Tryz.prog 111 [.a [I a.1, I a.2.1, I a.2.2], .a [I b.1, I b.2.1, I b.2.2]] (.t [.a [I (turnF a b).1, I (turnF a b).2.1, I (turnF a b).2.2], I 0]) := by
  obtain ⟨m1, m2, m3, m4, m5⟩ := turn_bd ha hb' hD
  have hl := low4_x (a.1 * b.1 - a.2.1 * b.2.1) (a.1 * b.2.1 + a.2.1 * b.1) (a.2.2 * b.2.2) (by omega) (by omega) (by omega)
  have hd : (turnF a b).2.2 ≤ 67108864 := by
    have hg := gsI_pos (a.1 * b.1 - a.2.1 * b.2.1) (a.1 * b.2.1 + a.2.1 * b.1) (a.2.2 * b.2.2) m5 2
    show (a.2.2 * b.2.2) / _ ≤ 67108864
    have := Int.ediv_le_self (gsI (a.1 * b.1 - a.2.1 * b.2.1) (a.1 * b.2.1 + a.2.1 * b.1) (a.2.2 * b.2.2) 2) (show 0 ≤ a.2.2 * b.2.2 by omega)
    omega
  have hl' : PureX Tryz.prog 146 [I (a.1 * b.1 - a.2.1 * b.2.1), I (a.1 * b.2.1 + a.2.1 * b.1), I (a.2.2 * b.2.2)] (.a [I (turnF a b).1, I (turnF a b).2.1, I (turnF a b).2.2]) := hl
  clear hl
  have hv1 := rvValid_x a
  have hv2 := rvValid_x b
  rw [ha] at hv1
  rw [hb'] at hv2
  generalize turnF a b = v at *
  refine PureX.of Tryz.func111 rfl tabOk rfl rfl rfl (by simp [SV.wfs, SV.wf]) (by simp [SV.wfs, SV.wf]) fun w => ?_
  (conv=>whnf);repeat' (first|((with_reducible refine isC ?_);first|((first|with_reducible refine CallX_pure (hv1) ?_|with_reducible refine CallX_pure (hv2) ?_|with_reducible refine CallX_pure (hl') ?_)<;>first|omega|with_reducible refine isP ?_|conv=>whnf))|((with_reducible refine isW ?_;first|refine xwr_ok (by omega) (by omega) ?_|refine xwr_raw ?_);conv=>whnf)|with_reducible exact rfl|((with_reducible first|refine xif_kt (by assumption) ?_|refine xif_kf (by assumption) ?_);conv=>whnf)|((with_reducible refine xif_s ?_ ?_)<;>(intro hb;(try simp (disch:=omega) only [hbS] at hb)<;>conv=>whnf)))
  all_goals try (exfalso; omega)
  exact Fin_pure rfl rfl (by simp [SV.wf, SV.wfs])
theorem rDir_x (h : Int) : PureX Tryz.prog 112 [I h] (.a [I (dirF h).1, I (dirF h).2.1, I (dirF h).2.2]) := by
  unfold dirF
  have hk0 : 0 ≤ h % 256 ∧ h % 256 < 256 := by omega
  have hk1 : 0 ≤ h % 256 % 64 ∧ h % 256 % 64 < 64 := by omega
  have hq1 : 0 ≤ h % 256 / 64 ∧ h % 256 / 64 < 4 := by omega
  have kk := mul_bd (a := h % 256 % 64) (b := h % 256 % 64) (A := 63) (B := 63) (by omega) (by omega)
  have kk0 : 0 ≤ (h % 256 % 64) * (h % 256 % 64) := Int.mul_nonneg hk1.1 hk1.1
  have hl := low4_x (4096 - (h % 256 % 64) * (h % 256 % 64)) (128 * (h % 256 % 64)) (4096 + (h % 256 % 64) * (h % 256 % 64)) (by omega) (by omega) (by omega)
  have b1 := tdiv_le (4096 - (h % 256 % 64) * (h % 256 % 64)) (gsI (4096 - (h % 256 % 64) * (h % 256 % 64)) (128 * (h % 256 % 64)) (4096 + (h % 256 % 64) * (h % 256 % 64)) 2)
  have b2 := tdiv_le (128 * (h % 256 % 64)) (gsI (4096 - (h % 256 % 64) * (h % 256 % 64)) (128 * (h % 256 % 64)) (4096 + (h % 256 % 64) * (h % 256 % 64)) 2)
  have b3 : (quF (h % 256 % 64)).1.natAbs ≤ 10000 ∧ (quF (h % 256 % 64)).2.1.natAbs ≤ 10000 := by
    show ((4096 - (h % 256 % 64) * (h % 256 % 64)).tdiv _).natAbs ≤ 10000 ∧ ((128 * (h % 256 % 64)).tdiv _).natAbs ≤ 10000
    omega
  have hl' : PureX Tryz.prog 146 [I (4096 - (h % 256 % 64) * (h % 256 % 64)), I (128 * (h % 256 % 64)), I (4096 + (h % 256 % 64) * (h % 256 % 64))] (.a [I (quF (h % 256 % 64)).1, I (quF (h % 256 % 64)).2.1, I (quF (h % 256 % 64)).2.2]) := hl
  clear hl b1 b2
  generalize quF (h % 256 % 64) = v at *
  refine PureX.of Tryz.func112 rfl tabOk rfl rfl rfl (by simp [SV.wfs, SV.wf]) (by simp [SV.wfs, SV.wf]) fun w => ?_
  (conv=>whnf);repeat' (first|((with_reducible refine isC ?_);first|((first|with_reducible refine CallX_pure (mod_x _ _ ?_ ?_) ?_|with_reducible refine CallX_pure (hl') ?_)<;>first|omega|with_reducible refine isP ?_|conv=>whnf))|((with_reducible refine isW ?_;first|refine xwr_ok (by omega) (by omega) ?_|refine xwr_raw ?_);conv=>whnf)|((with_reducible refine isQ ?_;first|refine xquo_nn (by omega) (by omega) (by omega) ?_|refine xquo_ok (by omega) (by omega) (by omega) ?_|refine xquo_raw (by omega) ?_);conv=>whnf)|((with_reducible refine isR ?_;first|refine xrem_nn (by omega) (by omega) ?_|refine xrem_raw (by omega) ?_);conv=>whnf)|((with_reducible refine need_i ?_ ?_)<;>first|omega|conv=>whnf)|with_reducible exact rfl|((with_reducible first|refine xif_kt (by assumption) ?_|refine xif_kf (by assumption) ?_);conv=>whnf)|((with_reducible refine xif_s ?_ ?_)<;>(intro hb;(try simp (disch:=omega) only [hbS] at hb)<;>conv=>whnf)))
  all_goals try (exfalso; omega)
  clear hl'
  generalize hH : h % 256 = H at *
  refine LoopX_inv tabOk (α := Nat) (fun i => (i : Int) ≤ H / 64) (fun i => [(0, I H), (2, .p 0 0), (4, .p 1 0), (5, I i)]) (fun i => [.box 100 [I 0, I 0, I 0], .box 100 [I (tX i v.1 v.2.1), I (tY i v.1 v.2.1), I v.2.2]]) (fun i => (H / 64).toNat - i) 0 [0, 1] (by omega) ?_ ?_
  · ((refine ⟨?_, ?_, ?_, ?_⟩) <;> (repeat' ((conv => whnf); apply And.intro)) <;> (try (first | exact trivial | decide)))
    all_goals first | rfl | exact fun _ _ h => h | (simp [tX, tY, SV.ren, SV.rens]; done) | (simp [SV.wf, SV.wfs]; done) | trace_state
  · intro i hi
    have tb := tXY_bd (q := (i : Int)) (x := v.1) (y := v.2.1) (m := 10000) (by omega)
    by_cases hlt : (i : Int) < H / 64
    · (conv=>whnf);repeat' (first|((with_reducible refine isW ?_;first|refine xwr_ok (by omega) (by omega) ?_|refine xwr_raw ?_);conv=>whnf)|((with_reducible refine isQ ?_;first|refine xquo_nn (by omega) (by omega) (by omega) ?_|refine xquo_ok (by omega) (by omega) (by omega) ?_|refine xquo_raw (by omega) ?_);conv=>whnf)|((with_reducible refine isR ?_;first|refine xrem_nn (by omega) (by omega) ?_|refine xrem_raw (by omega) ?_);conv=>whnf)|((with_reducible refine need_i ?_ ?_)<;>first|omega|conv=>whnf)|with_reducible exact rfl|((with_reducible first|refine xif_kt (by assumption) ?_|refine xif_kf (by assumption) ?_);conv=>whnf)|((with_reducible refine xif_s ?_ ?_)<;>(intro hb;(try simp (disch:=omega) only [hbS] at hb)<;>conv=>whnf)))
      all_goals try (exfalso; omega)
      refine ⟨i + 1, [0, 1], by omega, ?_, by (try dsimp only); omega⟩
      have e : tX ((i + 1 : Nat) : Int) v.1 v.2.1 = 0 - tY i v.1 v.2.1 ∧ tY ((i + 1 : Nat) : Int) v.1 v.2.1 = tX i v.1 v.2.1 := by
        rcases (by omega : i = 0 ∨ i = 1 ∨ i = 2) with rfl | rfl | rfl <;> simp [tX, tY] <;> omega
      dsimp only
      rw [e.1, e.2]
      ((refine ⟨?_, ?_, ?_, ?_⟩) <;> (repeat' ((conv => whnf); apply And.intro)) <;> (try (first | exact trivial | decide)))
      all_goals first | rfl | exact fun _ _ h => h | exact I_eq (by simp) | (simp [SV.wf, SV.wfs]; done) | trace_state
    · obtain hq : (i : Int) = H / 64 := by omega
      (conv=>whnf);repeat' (first|((with_reducible refine isW ?_;first|refine xwr_ok (by omega) (by omega) ?_|refine xwr_raw ?_);conv=>whnf)|((with_reducible refine isQ ?_;first|refine xquo_nn (by omega) (by omega) (by omega) ?_|refine xquo_ok (by omega) (by omega) (by omega) ?_|refine xquo_raw (by omega) ?_);conv=>whnf)|((with_reducible refine isR ?_;first|refine xrem_nn (by omega) (by omega) ?_|refine xrem_raw (by omega) ?_);conv=>whnf)|((with_reducible refine need_i ?_ ?_)<;>first|omega|conv=>whnf)|with_reducible exact rfl|((with_reducible first|refine xif_kt (by assumption) ?_|refine xif_kf (by assumption) ?_);conv=>whnf)|((with_reducible refine xif_s ?_ ?_)<;>(intro hb;(try simp (disch:=omega) only [hbS] at hb)<;>conv=>whnf)))
      all_goals try (exfalso; omega)
      rw [hq]
      exact Fin_pure rfl rfl (by simp [SV.wf, SV.wfs])
theorem rvBeam_x (h m : Int) : PureX Tryz.prog 66 [I h, I m] (.a [I (beamF h m).1, I (beamF h m).2.1, I (beamF h m).2.2]) := by
  have hd1 := rDir_x h
  have hd2 := rDir_x m
  have ht := rTurn_x (dirF h) (dirF m) (dir_ok h).1 (dir_ok m).1 (dir_prod h m)
  unfold beamF
  generalize turnF (dirF h) (dirF m) = v at *
  generalize dirF h = a at *
  generalize dirF m = b at *
  refine PureX.of Tryz.func66 rfl tabOk rfl rfl rfl (by simp [SV.wfs, SV.wf]) (by simp [SV.wfs, SV.wf]) fun w => ?_
  (conv=>whnf);repeat' (first|((with_reducible refine isC ?_);first|((first|with_reducible refine CallX_pure (hd1) ?_|with_reducible refine CallX_pure (hd2) ?_|with_reducible refine CallX_pure (ht) ?_)<;>first|omega|with_reducible refine isP ?_|conv=>whnf))|with_reducible exact rfl|((with_reducible first|refine xif_kt (by assumption) ?_|refine xif_kf (by assumption) ?_);conv=>whnf)|((with_reducible refine xif_s ?_ ?_)<;>(intro hb;(try simp (disch:=omega) only [hbS] at hb)<;>conv=>whnf)))
  exact Fin_pure rfl rfl (by simp [SV.wf, SV.wfs])
end Go.Proofs.YtadichckbogcjaaGreatDoor.En
end
