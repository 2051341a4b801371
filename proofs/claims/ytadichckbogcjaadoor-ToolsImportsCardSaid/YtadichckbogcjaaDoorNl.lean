/- The reference's integers: Small; reading a number. -/
import Derived.Test.YtadichckbogcjaaDoorNk
set_option linter.all false
namespace Go.Proofs.YtadichckbogcjaaDoor.En
open Go.RowKit
set_option maxRecDepth 100000

set_option maxHeartbeats 2000000 in
theorem Small_m (N : Bool) (A : Option Addr) (c : Nat) (v : Int) (h0 : 0 ≤ v) (h1 : v < 1000000000000000000) (hN : N = true → v ≠ 0) {n : Nat} (hn : (wN v).length = n) :
    CallM Tryd.prog 55 [nI N A n c] (fun w M => ArgN w M A n 1 ((wN v).map encW) ∧ n ≤ c) [] (fun _ : Nat => .t [I (if N then -v else v), B true]) (fun _ => []) := by
  have kO1 : CallM Tryd.prog 53 [I (-9223372036854775808)] (fun _ _ => True) [] (fun q : Option Addr × Nat => nI true q.1 (wN 9223372036854775808).length q.2) (fun q => [.row 102 1 q.1 (wN 9223372036854775808).length q.2 ((wN 9223372036854775808).map encW)]) := Of_m _ (by decide) (by decide)
  have kO2 : CallM Tryd.prog 53 [I 9223372036854775807] (fun _ _ => True) [] (fun q : Option Addr × Nat => nI false q.1 (wN 9223372036854775807).length q.2) (fun q => [.row 102 1 q.1 (wN 9223372036854775807).length q.2 ((wN 9223372036854775807).map encW)]) := Of_m _ (by decide) (by decide)
  have kC1 := fun A2 c2 => Cmp1_m N A A2 c c2 v 9223372036854775808 h0 h1 hN (by decide) hn rfl
  have kC2 := fun A2 c2 => Cmp2_m N A A2 c c2 v 9223372036854775807 h0 h1 hN (by decide) hn rfl
  have kt := trim_m A c (wN v) hn (by have := wN_len v; omega)
  rw [wN_trim h0, hn] at kt
  refine CallM.of (m := 0) Tryd.func55 rfl tabOk rfl rfl rfl rfl (by simp [SV.wfs, SV.wf]) fun w M π hpre => ?_
  obtain ⟨hp, hc⟩ := hpre
  generalize wN 9223372036854775808 = W1 at *
  generalize wN 9223372036854775807 = W2 at *
  (conv=>whnf);repeat' (first|((with_reducible refine isC ?_);first|((first|(with_reducible refine isF 53 ?_);((first | (refine CallX_m kO1 [] rfl trivial (by decide) (fun _ _ _ _ => trivial) ?_; intro q; obtain ⟨A1, c1⟩ := q; dsimp only) | (refine CallX_m kO2 [] rfl trivial (by decide) (fun _ _ _ _ => trivial) ?_; intro q; obtain ⟨A2, c2⟩ := q; dsimp only)))|(with_reducible refine isF 76 ?_);((first | (refine CallX_m (kC1 _ _) [] rfl trivial (by decide) (fun σ fp w' hm => ⟨⟨ArgN.on hp (by decide) (m := 0) (fun j hj => by omega) σ fp w' hm, hc⟩, ArgN.row 1 rfl (m := 0) (fun j hj => by omega) σ fp w' hm, row_capN 1 rfl σ fp w' hm⟩) ?_; intro q; dsimp only) | (refine CallX_m (kC2 _ _) [] rfl trivial (by decide) (fun σ fp w' hm => ⟨⟨ArgN.on hp (by decide) (m := 0) (fun j hj => by omega) σ fp w' hm, hc⟩, ArgN.row 2 rfl (m := 0) (fun j hj => by omega) σ fp w' hm, row_capN 2 rfl σ fp w' hm⟩) ?_; intro q; dsimp only))));conv=>whnf))|((with_reducible refine isW ?_;first|refine xwr_ok (by omega) (by omega) ?_|refine xwr_raw ?_);conv=>whnf)|((with_reducible refine isK ?_;first|refine xcv_i64 (by omega) (by omega) ?_|refine xcv_u64 (by omega) (by omega) ?_|refine xcv_u8 (by omega) (by omega) ?_|refine xcv_raw ?_);conv=>whnf)|((first|refine DrawX_s tabOk folOk ?_|refine DrawS_i (by kernel_rfl) ?_|with_reducible refine andX_i ?_ ?_)<;>conv=>whnf)|with_reducible exact rfl|((with_reducible first|refine xif_kt (by assumption) ?_|refine xif_kf (by assumption) ?_);conv=>whnf)|((with_reducible refine xif_s ?_ ?_)<;>(intro hb;(try simp (disch:=omega) only [hbS] at hb)<;>conv=>whnf)))
  all_goals try (exfalso; omega)
  refine CallX_m kt [] rfl trivial (by decide) (fun σ fp w' hm => ⟨ArgN.on hp (by decide) (m := 0) (fun j hj => by omega) σ fp w' hm, hc⟩) ?_
  intro q
  obtain ⟨A4, c4⟩ := q
  dsimp only
  clear kO1 kO2 kC1 kC2 kt
  by_cases hz : v = 0
  · subst hz
    rw [wN_0] at hn ⊢
    simp only [List.length_nil] at hn
    subst hn
    cases N
    · (conv=>whnf);repeat' (first|((with_reducible refine isW ?_;first|refine xwr_ok (by omega) (by omega) ?_|refine xwr_raw ?_);conv=>whnf)|((with_reducible refine isK ?_;first|refine xcv_i64 (by omega) (by omega) ?_|refine xcv_u64 (by omega) (by omega) ?_|refine xcv_u8 (by omega) (by omega) ?_|refine xcv_raw ?_);conv=>whnf)|((first|refine DrawX_s tabOk folOk ?_|refine DrawS_i (by kernel_rfl) ?_|with_reducible refine andX_i ?_ ?_)<;>conv=>whnf)|with_reducible exact rfl|((with_reducible first|refine xif_kt (by assumption) ?_|refine xif_kf (by assumption) ?_);conv=>whnf)|((with_reducible refine xif_s ?_ ?_)<;>(intro hb;(try simp (disch:=omega) only [hbS] at hb)<;>conv=>whnf)))
      refine LoopX_n 1 tabOk ?_
      (conv=>whnf);repeat' (first|((with_reducible refine isW ?_;first|refine xwr_ok (by omega) (by omega) ?_|refine xwr_raw ?_);conv=>whnf)|((with_reducible refine isK ?_;first|refine xcv_i64 (by omega) (by omega) ?_|refine xcv_u64 (by omega) (by omega) ?_|refine xcv_u8 (by omega) (by omega) ?_|refine xcv_raw ?_);conv=>whnf)|((first|refine DrawX_s tabOk folOk ?_|refine DrawS_i (by kernel_rfl) ?_|with_reducible refine andX_i ?_ ?_)<;>conv=>whnf)|with_reducible exact rfl|((with_reducible first|refine xif_kt (by assumption) ?_|refine xif_kf (by assumption) ?_);conv=>whnf)|((with_reducible refine xif_s ?_ ?_)<;>(intro hb;(try simp (disch:=omega) only [hbS] at hb)<;>conv=>whnf)))
      exact Fin_m 0 [] ⟨rfl, by simp [SV.wf, SV.wfs]⟩ trivial (by decide) rfl
    · exact absurd rfl (hN rfl)
  · by_cases h32 : v < 4294967296
    · rw [show (wN v).length = 1 by rw [wN_1 (by omega) h32]; rfl] at hn
      rw [show (wN v).map encW = [[.int .u32 v]] by rw [wN_1 (by omega) h32]; rfl]
      subst hn
      cases N
      all_goals
        (conv=>whnf);repeat' (first|((with_reducible refine isW ?_;first|refine xwr_ok (by omega) (by omega) ?_|refine xwr_raw ?_);conv=>whnf)|((with_reducible refine isK ?_;first|refine xcv_i64 (by omega) (by omega) ?_|refine xcv_u64 (by omega) (by omega) ?_|refine xcv_u8 (by omega) (by omega) ?_|refine xcv_raw ?_);conv=>whnf)|((first|refine DrawX_s tabOk folOk ?_|refine DrawS_i (by kernel_rfl) ?_|with_reducible refine andX_i ?_ ?_)<;>conv=>whnf)|with_reducible exact rfl|((with_reducible first|refine xif_kt (by assumption) ?_|refine xif_kf (by assumption) ?_);conv=>whnf)|((with_reducible refine xif_s ?_ ?_)<;>(intro hb;(try simp (disch:=omega) only [hbS] at hb)<;>conv=>whnf)))
        refine LoopX_n 2 tabOk ?_
        (conv=>whnf);repeat' (first|((with_reducible refine isV ?_);first|(refine ValX_loadL _ tabOk rfl rfl rfl (ArgSl.row 3 rfl) (by decide) rfl ?_; conv => whnf)|((refine ValX_index tabOk rfl (ArgSl.row 3 rfl) rfl ?_ ?_ ?_) <;> first | omega | (conv => whnf)))|((with_reducible refine isW ?_;first|refine xwr_ok (by omega) (by omega) ?_|refine xwr_raw ?_);conv=>whnf)|((with_reducible refine isK ?_;first|refine xcv_i64 (by omega) (by omega) ?_|refine xcv_u64 (by omega) (by omega) ?_|refine xcv_u8 (by omega) (by omega) ?_|refine xcv_raw ?_);conv=>whnf)|((first|refine DrawX_s tabOk folOk ?_|refine DrawS_i (by kernel_rfl) ?_|with_reducible refine andX_i ?_ ?_)<;>conv=>whnf)|with_reducible exact rfl|((with_reducible first|refine xif_kt (by assumption) ?_|refine xif_kf (by assumption) ?_);conv=>whnf)|((with_reducible refine xif_s ?_ ?_)<;>(intro hb;(try simp (disch:=omega) only [hbS] at hb)<;>conv=>whnf)))
        all_goals try (exfalso; omega)
        exact Fin_m 0 [] ⟨t_eq (by simp only [Bool.false_eq_true, if_false, if_true]; omega), by simp [SV.wf, SV.wfs]⟩ trivial (by decide) rfl
    · rw [show (wN v).length = 2 by rw [wN_2 (by omega)]; rfl] at hn
      rw [show (wN v).map encW = [[.int .u32 (v % 4294967296)], [.int .u32 (v / 4294967296)]] by rw [wN_2 (by omega)]; rfl]
      subst hn
      cases N
      all_goals
        (conv=>whnf);repeat' (first|((with_reducible refine isW ?_;first|refine xwr_ok (by omega) (by omega) ?_|refine xwr_raw ?_);conv=>whnf)|((with_reducible refine isK ?_;first|refine xcv_i64 (by omega) (by omega) ?_|refine xcv_u64 (by omega) (by omega) ?_|refine xcv_u8 (by omega) (by omega) ?_|refine xcv_raw ?_);conv=>whnf)|((first|refine DrawX_s tabOk folOk ?_|refine DrawS_i (by kernel_rfl) ?_|with_reducible refine andX_i ?_ ?_)<;>conv=>whnf)|with_reducible exact rfl|((with_reducible first|refine xif_kt (by assumption) ?_|refine xif_kf (by assumption) ?_);conv=>whnf)|((with_reducible refine xif_s ?_ ?_)<;>(intro hb;(try simp (disch:=omega) only [hbS] at hb)<;>conv=>whnf)))
        refine LoopX_n 3 tabOk ?_
        (conv=>whnf);repeat' (first|((with_reducible refine isV ?_);first|(refine ValX_loadL _ tabOk rfl rfl rfl (ArgSl.row 3 rfl) (by decide) rfl ?_; conv => whnf)|((refine ValX_index tabOk rfl (ArgSl.row 3 rfl) rfl ?_ ?_ ?_) <;> first | omega | (conv => whnf)))|((with_reducible refine isW ?_;first|refine xwr_ok (by omega) (by omega) ?_|refine xwr_raw ?_);conv=>whnf)|((with_reducible refine isK ?_;first|refine xcv_i64 (by omega) (by omega) ?_|refine xcv_u64 (by omega) (by omega) ?_|refine xcv_u8 (by omega) (by omega) ?_|refine xcv_raw ?_);conv=>whnf)|((first|refine DrawX_s tabOk folOk ?_|refine DrawS_i (by kernel_rfl) ?_|with_reducible refine andX_i ?_ ?_)<;>conv=>whnf)|with_reducible exact rfl|((with_reducible first|refine xif_kt (by assumption) ?_|refine xif_kf (by assumption) ?_);conv=>whnf)|((with_reducible refine xif_s ?_ ?_)<;>(intro hb;(try simp (disch:=omega) only [hbS] at hb)<;>conv=>whnf)))
        all_goals try (exfalso; omega)
        exact Fin_m 0 [] ⟨t_eq (by simp only [Bool.false_eq_true, if_false, if_true]; omega), by simp [SV.wf, SV.wfs]⟩ trivial (by decide) rfl
theorem prN_bd {s : List UInt8} (hs : s.length ≤ 18) : 0 ≤ (prN s).2 ∧ (prN s).2 < 1000000000000000000 ∧ ((prN s).1 = true → (prN s).2 ≠ 0) := by
  cases h : prF s with
  | none =>
    rw [(pr_none h).1]
    simp
  | some x =>
    rw [(pr_some h).1]
    unfold prF at h
    cases hv : vD 0 (s.drop (if s.head? = some 45 then 1 else 0)) with
    | none =>
      rw [hv] at h
      cases h
    | some v =>
      rw [hv] at h
      simp only [Option.bind_some] at h
      split at h
      · obtain rfl := Option.some.inj h
        have hb := vD_bd _ 0 v 0 (Int.le_refl _) (by decide) hv
        have hp := pow18 (k := 0 + (s.drop (if s.head? = some 45 then 1 else 0)).length) (by rw [List.length_drop]; omega)
        refine ⟨hb.1, by dsimp only; omega, fun hh => ?_⟩
        dsimp only at hh ⊢
        simp only [Bool.and_eq_true, decide_eq_true_eq] at hh
        exact hh.2
      · cases h
/-- what read reads -/
def rdF (s : List UInt8) : Int := if s.length ≤ 18 then (if (prN s).1 then -(prN s).2 else (prN s).2) else 0
theorem rdF_bd (s : List UInt8) : -1000000000000000000 ≤ rdF s ∧ rdF s ≤ 1000000000000000000 := by
  unfold rdF
  split
  · rename_i h
    have := prN_bd h
    split <;> omega
  · omega
theorem head_dig (v : Int) : (dig v).head? ≠ some 45 := by
  unfold dig
  intro h
  have hv := vD_dig v.toNat
  cases hd : Lib.decDigits v.toNat with
  | nil => rw [hd] at h; cases h
  | cons x r =>
    rw [hd] at h hv
    simp only [List.head?_cons, Option.some.injEq] at h
    subst h
    simp [vD] at hv
theorem prF_txt {N : Bool} {v : Int} (h0 : 0 ≤ v) (hN : N = true → v ≠ 0) : prF (txt N v) = some (N, v) := by
  by_cases hz : v = 0
  · subst hz
    have : N = false := by
      cases N
      · rfl
      · exact absurd rfl (hN rfl)
    subst this
    rfl
  · have hd := vD_dig v.toNat
    rw [show ((v.toNat : Nat) : Int) = v by omega] at hd
    have hh := head_dig v
    unfold prF
    cases N
    · have ht : txt false v = dig v := by
        unfold txt
        rw [if_neg hz]
        rfl
      rw [ht]
      simp only [if_neg hh, decide_eq_false hh, List.drop_zero, Bool.false_and]
      unfold dig at *
      rw [hd]
      simp only [Option.bind_some]
      rw [if_pos ht]
    · have ht : txt true v = 45 :: dig v := by
        unfold txt
        rw [if_neg hz]
        rfl
      rw [ht]
      simp only [List.head?_cons, if_true, decide_true, Bool.true_and, List.drop_succ_cons, List.drop_zero]
      unfold dig at *
      rw [hd]
      simp only [Option.bind_some, decide_eq_true hz]
      rw [if_pos ht]
theorem txt_len {N : Bool} {v : Int} (h0 : 0 ≤ v) (h1 : v < 10000000000000000) : (txt N v).length ≤ 17 := by
  unfold txt dig
  have := digN_len 15 v.toNat (by omega)
  split
  · simp
  · split
    · rw [List.length_cons]
      omega
    · omega
/-- it reads what is written -/
theorem rdF_itoa {n : Int} (h0 : -10000000000000000 < n) (h1 : n < 10000000000000000) : rdF (Lib.itoa n) = n := by
  rw [← txt_itoa]
  have hp := prF_txt (N := decide (n < 0)) (v := if n < 0 then -n else n) (by split <;> omega) (fun h => by
    have := of_decide_eq_true h
    rw [if_pos this]
    omega)
  have hl := txt_len (N := decide (n < 0)) (v := if n < 0 then -n else n) (by split <;> omega) (by split <;> omega)
  unfold rdF
  rw [if_pos (by omega), (pr_some hp).1]
  by_cases h : n < 0
  · simp only [decide_eq_true h, if_true, if_pos h]
    omega
  · simp only [decide_eq_false h, Bool.false_eq_true, if_false, if_neg h]
theorem read_x (s : List UInt8) : PureX Tryd.prog 37 [S s] (I (rdF s)) := by
  by_cases h : s.length ≤ 18
  · obtain ⟨b0, b1, b2⟩ := prN_bd h
    have hr : rdF s = if (prN s).1 then -(prN s).2 else (prN s).2 := by
      unfold rdF
      rw [if_pos h]
    rw [hr]
    have kp := Parse_m s h
    have ks := fun A c => Small_m (prN s).1 A c (prN s).2 b0 b1 b2 rfl
    generalize (if (prN s).1 then -(prN s).2 else (prN s).2) = R at *
    generalize prN s = z at *
    refine PureX.of Tryd.func37 rfl tabOk rfl rfl rfl (by simp [SV.wfs, SV.wf]) (by simp [SV.wfs, SV.wf]) fun w => ?_
    (conv=>whnf);repeat' (first|((with_reducible refine isC ?_);first|((first|(with_reducible refine isF 54 ?_);((refine CallX_m kp [] rfl trivial (by decide) (fun _ _ _ _ => trivial) ?_; intro q; obtain ⟨A1, c1⟩ := q; dsimp only))|(with_reducible refine isF 55 ?_);((refine CallX_m (ks A1 c1) [] rfl trivial (by decide) (fun σ fp w' hm => ⟨ArgN.row 0 rfl (m := 0) (fun j hj => by omega) σ fp w' hm, row_capN 0 rfl σ fp w' hm⟩) ?_; intro q2)));conv=>whnf))|((with_reducible refine isV ?_);first|((refine ValX_sLen rfl Tryd.underlying9 ?_); conv => whnf))|with_reducible exact rfl|((with_reducible first|refine xif_kt (by assumption) ?_|refine xif_kf (by assumption) ?_);conv=>whnf)|((with_reducible refine xif_s ?_ ?_)<;>(intro hb;(try simp (disch:=omega) only [hbS] at hb)<;>conv=>whnf)))
    all_goals try (exfalso; omega)
    all_goals trace_state
    exact Fin_pure rfl rfl trivial
  · have hr : rdF s = 0 := by
      unfold rdF
      rw [if_neg h]
    rw [hr]
    refine PureX.of Tryd.func37 rfl tabOk rfl rfl rfl (by simp [SV.wfs, SV.wf]) (by simp [SV.wfs, SV.wf]) fun w => ?_
    (conv=>whnf);repeat' (first|((with_reducible refine isV ?_);first|((refine ValX_sLen rfl Tryd.underlying9 ?_); conv => whnf))|with_reducible exact rfl|((with_reducible first|refine xif_kt (by assumption) ?_|refine xif_kf (by assumption) ?_);conv=>whnf)|((with_reducible refine xif_s ?_ ?_)<;>(intro hb;(try simp (disch:=omega) only [hbS] at hb)<;>conv=>whnf)))
    all_goals try (exfalso; omega)
    exact Fin_pure rfl rfl trivial
end Go.Proofs.YtadichckbogcjaaDoor.En
