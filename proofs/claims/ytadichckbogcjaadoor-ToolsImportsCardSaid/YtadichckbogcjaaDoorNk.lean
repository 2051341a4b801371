/- The reference's integers: cmp, Cmp, Small; reading a number. -/
import Derived.Test.YtadichckbogcjaaDoorNh
set_option linter.all false
namespace Go.Proofs.YtadichckbogcjaaDoor.En
open Go.RowKit
set_option maxRecDepth 100000

theorem t_eq {a b : Int} {x : SV} (h : a = b) : SV.t [I a, x] = SV.t [I b, x] := by rw [h]
theorem cmp_lt (A A2 : Option Addr) (c c2 : Nat) (v V : Int) (h0 : 0 ≤ v) (h1 : v < 1000000000000000000) (h2 : 4611686018427387904 ≤ V) {n m : Nat} (hn : (wN v).length = n) (hm : (wN V).length = m) :
    CallW Tryd.prog 92 [.v (.slice A n c), .v (.slice A2 m c2)] (fun w => ArgSl w A n 1 ((wN v).map encW) ∧ ArgSl w A2 m 1 ((wN V).map encW)) (I (-1)) := by
  rw [show (wN V).length = 2 by rw [wN_2 (by omega)]; rfl] at hm
  rw [show (wN V).map encW = [[.int .u32 (V % 4294967296)], [.int .u32 (V / 4294967296)]] by rw [wN_2 (by omega)]; rfl]
  subst hm
  by_cases hz : v = 0
  · subst hz
    rw [wN_0] at hn ⊢
    simp only [List.length_nil] at hn
    subst hn
    refine CallW.of Tryd.func92 rfl tabOk rfl rfl rfl (by simp [SV.wfs, SV.wf]) (by simp [SV.wfs, SV.wf]) fun w hpre => ?_
    (conv=>whnf);repeat' (first|((with_reducible refine isW ?_;first|refine xwr_ok (by omega) (by omega) ?_|refine xwr_raw ?_);conv=>whnf)|((first|refine DrawX_s tabOk folOk ?_|refine DrawS_i (by kernel_rfl) ?_|with_reducible refine andX_i ?_ ?_)<;>conv=>whnf)|with_reducible exact rfl|((with_reducible first|refine xif_kt (by assumption) ?_|refine xif_kf (by assumption) ?_);conv=>whnf)|((with_reducible refine xif_s ?_ ?_)<;>(intro hb;(try simp (disch:=omega) only [hbS] at hb)<;>conv=>whnf)))
    exact Fin_pure rfl rfl trivial
  · by_cases h32 : v < 4294967296
    · rw [show (wN v).length = 1 by rw [wN_1 (by omega) h32]; rfl] at hn
      subst hn
      refine CallW.of Tryd.func92 rfl tabOk rfl rfl rfl (by simp [SV.wfs, SV.wf]) (by simp [SV.wfs, SV.wf]) fun w hpre => ?_
      (conv=>whnf);repeat' (first|((with_reducible refine isW ?_;first|refine xwr_ok (by omega) (by omega) ?_|refine xwr_raw ?_);conv=>whnf)|((first|refine DrawX_s tabOk folOk ?_|refine DrawS_i (by kernel_rfl) ?_|with_reducible refine andX_i ?_ ?_)<;>conv=>whnf)|with_reducible exact rfl|((with_reducible first|refine xif_kt (by assumption) ?_|refine xif_kf (by assumption) ?_);conv=>whnf)|((with_reducible refine xif_s ?_ ?_)<;>(intro hb;(try simp (disch:=omega) only [hbS] at hb)<;>conv=>whnf)))
      exact Fin_pure rfl rfl trivial
    · rw [show (wN v).length = 2 by rw [wN_2 (by omega)]; rfl] at hn
      rw [show (wN v).map encW = [[.int .u32 (v % 4294967296)], [.int .u32 (v / 4294967296)]] by rw [wN_2 (by omega)]; rfl]
      subst hn
      refine CallW.of Tryd.func92 rfl tabOk rfl rfl rfl (by simp [SV.wfs, SV.wf]) (by simp [SV.wfs, SV.wf]) fun w hpre => ?_
      (conv=>whnf);repeat' (first|((with_reducible refine isW ?_;first|refine xwr_ok (by omega) (by omega) ?_|refine xwr_raw ?_);conv=>whnf)|((first|refine DrawX_s tabOk folOk ?_|refine DrawS_i (by kernel_rfl) ?_|with_reducible refine andX_i ?_ ?_)<;>conv=>whnf)|with_reducible exact rfl|((with_reducible first|refine xif_kt (by assumption) ?_|refine xif_kf (by assumption) ?_);conv=>whnf)|((with_reducible refine xif_s ?_ ?_)<;>(intro hb;(try simp (disch:=omega) only [hbS] at hb)<;>conv=>whnf)))
      refine LoopX_n 1 tabOk ?_
      (conv=>whnf);repeat' (first|((with_reducible refine isV ?_);first|((first | refine ValX_loadL _ tabOk rfl rfl rfl (hpre.1.mem (by decide) rfl) (by decide) rfl ?_ | refine ValX_loadL _ tabOk rfl rfl rfl (hpre.2.mem (by decide) rfl) (by decide) rfl ?_); conv => whnf)|((first | refine ValX_index tabOk rfl (hpre.1.mem (by decide) rfl) rfl ?_ ?_ ?_ | refine ValX_index tabOk rfl (hpre.2.mem (by decide) rfl) rfl ?_ ?_ ?_) <;> first | omega | (conv => whnf)))|((with_reducible refine isW ?_;first|refine xwr_ok (by omega) (by omega) ?_|refine xwr_raw ?_);conv=>whnf)|((first|refine DrawX_s tabOk folOk ?_|refine DrawS_i (by kernel_rfl) ?_|with_reducible refine andX_i ?_ ?_)<;>conv=>whnf)|with_reducible exact rfl|((with_reducible first|refine xif_kt (by assumption) ?_|refine xif_kf (by assumption) ?_);conv=>whnf)|((with_reducible refine xif_s ?_ ?_)<;>(intro hb;(try simp (disch:=omega) only [hbS] at hb)<;>conv=>whnf)))
      all_goals try (exfalso; omega)
      exact Fin_pure rfl rfl trivial
theorem cmp_gt (A A2 : Option Addr) (c c2 : Nat) (v V : Int) (h0 : 0 ≤ v) (h1 : v < 1000000000000000000) (h2 : 4611686018427387904 ≤ V) {n m : Nat} (hn : (wN v).length = n) (hm : (wN V).length = m) :
    CallW Tryd.prog 92 [.v (.slice A2 m c2), .v (.slice A n c)] (fun w => ArgSl w A n 1 ((wN v).map encW) ∧ ArgSl w A2 m 1 ((wN V).map encW)) (I 1) := by
  rw [show (wN V).length = 2 by rw [wN_2 (by omega)]; rfl] at hm
  rw [show (wN V).map encW = [[.int .u32 (V % 4294967296)], [.int .u32 (V / 4294967296)]] by rw [wN_2 (by omega)]; rfl]
  subst hm
  by_cases hz : v = 0
  · subst hz
    rw [wN_0] at hn ⊢
    simp only [List.length_nil] at hn
    subst hn
    refine CallW.of Tryd.func92 rfl tabOk rfl rfl rfl (by simp [SV.wfs, SV.wf]) (by simp [SV.wfs, SV.wf]) fun w hpre => ?_
    (conv=>whnf);repeat' (first|((with_reducible refine isW ?_;first|refine xwr_ok (by omega) (by omega) ?_|refine xwr_raw ?_);conv=>whnf)|((first|refine DrawX_s tabOk folOk ?_|refine DrawS_i (by kernel_rfl) ?_|with_reducible refine andX_i ?_ ?_)<;>conv=>whnf)|with_reducible exact rfl|((with_reducible first|refine xif_kt (by assumption) ?_|refine xif_kf (by assumption) ?_);conv=>whnf)|((with_reducible refine xif_s ?_ ?_)<;>(intro hb;(try simp (disch:=omega) only [hbS] at hb)<;>conv=>whnf)))
    exact Fin_pure rfl rfl trivial
  · by_cases h32 : v < 4294967296
    · rw [show (wN v).length = 1 by rw [wN_1 (by omega) h32]; rfl] at hn
      subst hn
      refine CallW.of Tryd.func92 rfl tabOk rfl rfl rfl (by simp [SV.wfs, SV.wf]) (by simp [SV.wfs, SV.wf]) fun w hpre => ?_
      (conv=>whnf);repeat' (first|((with_reducible refine isW ?_;first|refine xwr_ok (by omega) (by omega) ?_|refine xwr_raw ?_);conv=>whnf)|((first|refine DrawX_s tabOk folOk ?_|refine DrawS_i (by kernel_rfl) ?_|with_reducible refine andX_i ?_ ?_)<;>conv=>whnf)|with_reducible exact rfl|((with_reducible first|refine xif_kt (by assumption) ?_|refine xif_kf (by assumption) ?_);conv=>whnf)|((with_reducible refine xif_s ?_ ?_)<;>(intro hb;(try simp (disch:=omega) only [hbS] at hb)<;>conv=>whnf)))
      exact Fin_pure rfl rfl trivial
    · rw [show (wN v).length = 2 by rw [wN_2 (by omega)]; rfl] at hn
      rw [show (wN v).map encW = [[.int .u32 (v % 4294967296)], [.int .u32 (v / 4294967296)]] by rw [wN_2 (by omega)]; rfl]
      subst hn
      refine CallW.of Tryd.func92 rfl tabOk rfl rfl rfl (by simp [SV.wfs, SV.wf]) (by simp [SV.wfs, SV.wf]) fun w hpre => ?_
      (conv=>whnf);repeat' (first|((with_reducible refine isW ?_;first|refine xwr_ok (by omega) (by omega) ?_|refine xwr_raw ?_);conv=>whnf)|((first|refine DrawX_s tabOk folOk ?_|refine DrawS_i (by kernel_rfl) ?_|with_reducible refine andX_i ?_ ?_)<;>conv=>whnf)|with_reducible exact rfl|((with_reducible first|refine xif_kt (by assumption) ?_|refine xif_kf (by assumption) ?_);conv=>whnf)|((with_reducible refine xif_s ?_ ?_)<;>(intro hb;(try simp (disch:=omega) only [hbS] at hb)<;>conv=>whnf)))
      refine LoopX_n 1 tabOk ?_
      (conv=>whnf);repeat' (first|((with_reducible refine isV ?_);first|((first | refine ValX_loadL _ tabOk rfl rfl rfl (hpre.1.mem (by decide) rfl) (by decide) rfl ?_ | refine ValX_loadL _ tabOk rfl rfl rfl (hpre.2.mem (by decide) rfl) (by decide) rfl ?_); conv => whnf)|((first | refine ValX_index tabOk rfl (hpre.1.mem (by decide) rfl) rfl ?_ ?_ ?_ | refine ValX_index tabOk rfl (hpre.2.mem (by decide) rfl) rfl ?_ ?_ ?_) <;> first | omega | (conv => whnf)))|((with_reducible refine isW ?_;first|refine xwr_ok (by omega) (by omega) ?_|refine xwr_raw ?_);conv=>whnf)|((first|refine DrawX_s tabOk folOk ?_|refine DrawS_i (by kernel_rfl) ?_|with_reducible refine andX_i ?_ ?_)<;>conv=>whnf)|with_reducible exact rfl|((with_reducible first|refine xif_kt (by assumption) ?_|refine xif_kf (by assumption) ?_);conv=>whnf)|((with_reducible refine xif_s ?_ ?_)<;>(intro hb;(try simp (disch:=omega) only [hbS] at hb)<;>conv=>whnf)))
      all_goals try (exfalso; omega)
      exact Fin_pure rfl rfl trivial
theorem and_pos {N : Bool} {v : Int} (h : N = true → v ≠ 0) : (N && decide (v ≠ 0)) = N := by
  cases N with
  | false => rfl
  | true => rw [decide_eq_true (h rfl)]; rfl
theorem Cmp1_m (N : Bool) (A A2 : Option Addr) (c c2 : Nat) (v V : Int) (h0 : 0 ≤ v) (h1 : v < 1000000000000000000) (hN : N = true → v ≠ 0) (h2 : 4611686018427387904 ≤ V) {n m : Nat} (hn : (wN v).length = n) (hm : (wN V).length = m) :
    CallM Tryd.prog 76 [nI N A n c, nI true A2 m c2] (fun w M => (ArgN w M A n 1 ((wN v).map encW) ∧ n ≤ c) ∧ ArgN w M A2 m 1 ((wN V).map encW) ∧ m ≤ c2) [] (fun _ : Nat => I 1) (fun _ => []) := by
  have k1 := Norm_m N A c (wN v) hn (by have := wN_len v; omega)
  have k2 := Norm_m true A2 c2 (wN V) hm (by have := wN_len V; omega)
  rw [wN_trim h0, wN_dec h0, and_pos hN, hn] at k1
  rw [wN_trim (by omega), wN_dec (by omega), and_pos (fun _ => by omega), hm] at k2
  have k3 := fun A' A2' c' c2' => cmp_gt A' A2' c' c2' v V h0 h1 h2 hn hm
  refine CallM.of (m := 0) Tryd.func76 rfl tabOk rfl rfl rfl rfl (by simp [SV.wfs, SV.wf]) fun w M π hpre => ?_
  obtain ⟨⟨hp1, hc1⟩, hp2, hc2⟩ := hpre
  cases N
  · (conv=>whnf);repeat' (first|((with_reducible refine isC ?_);first|(((with_reducible refine isF 75 ?_);((first | (refine CallX_m k1 [] rfl trivial (by decide) (fun σ fp w' hm => ⟨ArgN.on hp1 (by decide) (m := 0) (fun j hj => by omega) σ fp w' hm, hc1⟩) ?_; intro q; obtain ⟨A1, c1⟩ := q; dsimp only) | (refine CallX_m k2 [] rfl trivial (by decide) (fun σ fp w' hm => ⟨ArgN.on hp2 (by decide) (m := 0) (fun j hj => by omega) σ fp w' hm, hc2⟩) ?_; intro q; obtain ⟨A3, c3⟩ := q; dsimp only))));conv=>whnf))|with_reducible exact rfl|((with_reducible first|refine xif_kt (by assumption) ?_|refine xif_kf (by assumption) ?_);conv=>whnf)|((with_reducible refine xif_s ?_ ?_)<;>(intro hb;(try simp (disch:=omega) only [hbS] at hb)<;>conv=>whnf)))
    exact Fin_m 0 [] ⟨rfl, by simp [SV.wf, SV.wfs]⟩ trivial (by decide) rfl
  · (conv=>whnf);repeat' (first|((with_reducible refine isC ?_);first|((first|(with_reducible refine isF 75 ?_);((first | (refine CallX_m k1 [] rfl trivial (by decide) (fun σ fp w' hm => ⟨ArgN.on hp1 (by decide) (m := 0) (fun j hj => by omega) σ fp w' hm, hc1⟩) ?_; intro q; obtain ⟨A1, c1⟩ := q; dsimp only) | (refine CallX_m k2 [] rfl trivial (by decide) (fun σ fp w' hm => ⟨ArgN.on hp2 (by decide) (m := 0) (fun j hj => by omega) σ fp w' hm, hc2⟩) ?_; intro q; obtain ⟨A3, c3⟩ := q; dsimp only)))|(with_reducible refine isF 92 ?_;refine CallX_w (k3 _ _ _ _) ?_ ?_);(focus exact fun σ fp w' hm => ⟨ArgSl.row 2 rfl σ fp w' hm, ArgSl.row 3 rfl σ fp w' hm⟩));conv=>whnf))|with_reducible exact rfl|((with_reducible first|refine xif_kt (by assumption) ?_|refine xif_kf (by assumption) ?_);conv=>whnf)|((with_reducible refine xif_s ?_ ?_)<;>(intro hb;(try simp (disch:=omega) only [hbS] at hb)<;>conv=>whnf)))
    exact Fin_m 0 [] ⟨rfl, by simp [SV.wf, SV.wfs]⟩ trivial (by decide) rfl
theorem Cmp2_m (N : Bool) (A A2 : Option Addr) (c c2 : Nat) (v V : Int) (h0 : 0 ≤ v) (h1 : v < 1000000000000000000) (hN : N = true → v ≠ 0) (h2 : 4611686018427387904 ≤ V) {n m : Nat} (hn : (wN v).length = n) (hm : (wN V).length = m) :
    CallM Tryd.prog 76 [nI N A n c, nI false A2 m c2] (fun w M => (ArgN w M A n 1 ((wN v).map encW) ∧ n ≤ c) ∧ ArgN w M A2 m 1 ((wN V).map encW) ∧ m ≤ c2) [] (fun _ : Nat => I (-1)) (fun _ => []) := by
  have k1 := Norm_m N A c (wN v) hn (by have := wN_len v; omega)
  have k2 := Norm_m false A2 c2 (wN V) hm (by have := wN_len V; omega)
  rw [wN_trim h0, wN_dec h0, and_pos hN, hn] at k1
  rw [wN_trim (by omega), wN_dec (by omega), and_pos (fun h => by cases h), hm] at k2
  have k3 := fun A' A2' c' c2' => cmp_lt A' A2' c' c2' v V h0 h1 h2 hn hm
  refine CallM.of (m := 0) Tryd.func76 rfl tabOk rfl rfl rfl rfl (by simp [SV.wfs, SV.wf]) fun w M π hpre => ?_
  obtain ⟨⟨hp1, hc1⟩, hp2, hc2⟩ := hpre
  cases N
  · (conv=>whnf);repeat' (first|((with_reducible refine isC ?_);first|((first|(with_reducible refine isF 75 ?_);((first | (refine CallX_m k1 [] rfl trivial (by decide) (fun σ fp w' hm => ⟨ArgN.on hp1 (by decide) (m := 0) (fun j hj => by omega) σ fp w' hm, hc1⟩) ?_; intro q; obtain ⟨A1, c1⟩ := q; dsimp only) | (refine CallX_m k2 [] rfl trivial (by decide) (fun σ fp w' hm => ⟨ArgN.on hp2 (by decide) (m := 0) (fun j hj => by omega) σ fp w' hm, hc2⟩) ?_; intro q; obtain ⟨A3, c3⟩ := q; dsimp only)))|(with_reducible refine isF 92 ?_;refine CallX_w (k3 _ _ _ _) ?_ ?_);(focus exact fun σ fp w' hm => ⟨ArgSl.row 2 rfl σ fp w' hm, ArgSl.row 3 rfl σ fp w' hm⟩));conv=>whnf))|with_reducible exact rfl|((with_reducible first|refine xif_kt (by assumption) ?_|refine xif_kf (by assumption) ?_);conv=>whnf)|((with_reducible refine xif_s ?_ ?_)<;>(intro hb;(try simp (disch:=omega) only [hbS] at hb)<;>conv=>whnf)))
    exact Fin_m 0 [] ⟨rfl, by simp [SV.wf, SV.wfs]⟩ trivial (by decide) rfl
  · (conv=>whnf);repeat' (first|((with_reducible refine isC ?_);first|(((with_reducible refine isF 75 ?_);((first | (refine CallX_m k1 [] rfl trivial (by decide) (fun σ fp w' hm => ⟨ArgN.on hp1 (by decide) (m := 0) (fun j hj => by omega) σ fp w' hm, hc1⟩) ?_; intro q; obtain ⟨A1, c1⟩ := q; dsimp only) | (refine CallX_m k2 [] rfl trivial (by decide) (fun σ fp w' hm => ⟨ArgN.on hp2 (by decide) (m := 0) (fun j hj => by omega) σ fp w' hm, hc2⟩) ?_; intro q; obtain ⟨A3, c3⟩ := q; dsimp only))));conv=>whnf))|with_reducible exact rfl|((with_reducible first|refine xif_kt (by assumption) ?_|refine xif_kf (by assumption) ?_);conv=>whnf)|((with_reducible refine xif_s ?_ ?_)<;>(intro hb;(try simp (disch:=omega) only [hbS] at hb)<;>conv=>whnf)))
    exact Fin_m 0 [] ⟨rfl, by simp [SV.wf, SV.wfs]⟩ trivial (by decide) rfl
end Go.Proofs.YtadichckbogcjaaDoor.En
