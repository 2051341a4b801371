/- Lists of entries: the reference's Valid, base.Before, base.Entries; images of lists. -/
import Derived.Test.YtadichckbogcjaaDoorFx1
import Derived.Test.YtadichckbogcjaaDoorEp
set_option linter.all false
namespace Go.Proofs.YtadichckbogcjaaDoor.En
open Go.RowKit
set_option maxRecDepth 100000

theorem Before_x (a b : CellT) : PureX Tryd.prog 36 [.a [I a.1, I a.2], .a [I b.1, I b.2]] (B (befB a b)) := by
  refine PureX.of Tryd.func36 rfl tabOk rfl rfl rfl (by simp [SV.wfs, SV.wf]) (by simp [SV.wfs, SV.wf]) fun w => ?_
  (conv=>whnf);repeat' (first|with_reducible exact rfl|((with_reducible first|refine xif_kt (by assumption) ?_|refine xif_kf (by assumption) ?_);conv=>whnf)|((with_reducible refine xif_s ?_ ?_)<;>(intro hb;(try simp (disch:=omega) only [hbS] at hb)<;>conv=>whnf)))
  all_goals refine Fin_pure rfl ?_ trivial
  all_goals refine congrArg (fun b => SV.v (Value.bool b)) ?_
  all_goals rw [Bool.eq_iff_iff, befB_iff]
  all_goals try simp only [decide_eq_true_eq, Bool.false_eq_true, true_iff, false_iff]
  all_goals omega
theorem rV_bad {l : List EntT} {k : Nat} (hk : k < l.length) (h : goodB (l.getD k e0) = false ∨ (k ≠ 0 ∧ befB (l.getD (k - 1) e0).cell (l.getD k e0).cell = false)) : B false = B (vE l) := by
  rw [vE_bad hk]
  rcases h with h | ⟨h1, h2⟩
  · simp only [okAt, h, Bool.false_and]
  · simp only [okAt, h2, h1, decide_false, Bool.or_self, Bool.and_false]
theorem step_ok {l : List EntT} {k : Nat} (hz : ∀ j, j < k → okAt l j = true) (h : goodB (l.getD k e0) = true ∧ (k ≠ 0 → befB (l.getD (k - 1) e0).cell (l.getD k e0).cell = true)) : ∀ j, j < k + 1 → okAt l j = true := by
  intro j hj
  by_cases e : j = k
  · subst e
    by_cases h0 : j = 0
    · simp only [okAt, h.1, h0, decide_true, Bool.true_or, Bool.and_true]
      rw [← h0]
      exact h.1
    · simp only [okAt, h.1, h.2 h0, Bool.or_true, Bool.and_self]
  · exact hz j (by omega)
theorem rV_end {l : List EntT} (h : l.length ≤ 1048576) (hz : ∀ j, j < l.length → okAt l j = true) : B true = B (vE l) := by
  rw [vE_end hz, decide_eq_true h]
theorem rVE_w (A : Option Addr) (c : Nat) (l : List EntT) {n : Nat} (hl : l.length = n) (hn : n ≤ maxLen) :
    CallW Tryd.prog 15 [.v (.slice A n c)] (fun w => ArgSl w A n 4 (l.map encE)) (B (vE l)) := by
  unfold maxLen at hn
  refine CallW.of Tryd.func15 rfl tabOk rfl rfl rfl (by simp [SV.wfs, SV.wf]) (by simp [SV.wfs, SV.wf]) fun w hpre => ?_
  (conv=>whnf);repeat' (first|((with_reducible refine isW ?_;first|refine xwr_ok (by omega) (by omega) ?_|refine xwr_raw ?_);conv=>whnf)|((first|refine DrawX_s tabOk folOk ?_|refine DrawS_i (by kernel_rfl) ?_|with_reducible refine andX_i ?_ ?_)<;>conv=>whnf)|with_reducible exact rfl|((with_reducible first|refine xif_kt (by assumption) ?_|refine xif_kf (by assumption) ?_);conv=>whnf)|((with_reducible refine xif_s ?_ ?_)<;>(intro hb;(try simp (disch:=omega) only [hbS] at hb)<;>conv=>whnf)))
  · refine Fin_pure rfl ?_ trivial
    rw [vE_long (by omega)]
  refine LoopX_inv tabOk (α := Nat) (fun k => k ≤ n ∧ ∀ j, j < k → okAt l j = true) (fun k => [(3, I k), (0, .v (.slice A n c))]) (fun _ => []) (fun k => n - k) 0 [] ⟨Nat.zero_le _, fun i hi => by omega⟩ ?_ ?_
  · ((refine ⟨?_, ?_, ?_, ?_⟩) <;> (repeat' ((conv => whnf); apply And.intro)) <;> (try (first | exact trivial | decide)))
    all_goals first | rfl | exact fun _ _ h => h | simp [SV.wf, SV.wfs]
  · rintro k ⟨hk, hz⟩
    have bad : goodB (l.getD k e0) = false → k < n → vE l = false := fun h hk' => vE_bad (k := k) (by omega) (by simp only [okAt, h, Bool.false_and])
    (conv=>whnf);repeat' (first|((with_reducible refine isC ?_);first|((first|with_reducible refine CallX_pure (Size_x _ _ ?_ ?_) ?_|with_reducible refine CallX_pure (Before_x (_, _) (_, _)) ?_)<;>first|omega|with_reducible refine isP ?_|conv=>whnf))|((with_reducible refine isV ?_);first|((first|refine ValX_index tabOk rfl (hpre.mem (by decide) rfl) rfl ?_ ?_ ?_|(with_reducible refine nat_idx ?_);refine ValX_loadEn _ _ (e0) tabOk rfl rfl rfl rfl (hpre.mem (by decide) rfl) ?_ ?_ ?_|refine ValX_loadE _ _ (e0) tabOk rfl rfl rfl rfl (hpre.mem (by decide) rfl) ?_ ?_ ?_)<;>first|rfl|omega|with_reducible refine isP ?_|conv=>whnf)|((first|(with_reducible refine nat_idxF ?_);refine ValX_loadGn _ _ (e0) _ tabOk rfl rfl rfl (hpre.mem (by decide) rfl) ?_ ?_ rfl rfl ?_|refine ValX_loadG _ _ (e0) _ tabOk rfl rfl rfl (hpre.mem (by decide) rfl) ?_ ?_ rfl rfl ?_)<;>first|omega|with_reducible refine isP ?_|conv=>whnf))|((with_reducible refine isW ?_;first|refine xwr_ok (by omega) (by omega) ?_|refine xwr_raw ?_);conv=>whnf)|((first|refine DrawX_s tabOk folOk ?_|refine DrawS_i (by kernel_rfl) ?_|with_reducible refine andX_i ?_ ?_)<;>conv=>whnf)|with_reducible exact rfl|((with_reducible first|refine xif_kt (by assumption) ?_|refine xif_kf (by assumption) ?_);conv=>whnf)|((with_reducible refine xif_s ?_ ?_)<;>(intro hb;(try simp (disch:=omega) only [hbS] at hb)<;>conv=>whnf)))
    all_goals try rw [show ((k : Int) - 1).toNat = k - 1 by omega] at hb
    all_goals try (refine Fin_pure rfl (rV_bad (k := k) (l := l) ?_ ?_) trivial <;> first | omega | (left; simp only [goodB, countB, *]; simp; done) | (right; exact ⟨by omega, hb⟩))
    all_goals try (refine Fin_pure rfl (rV_end (l := l) ?_ ?_) trivial <;> first | omega | (intro j hj; exact hz j (by omega)))
    all_goals
      refine ⟨k + 1, [], ⟨?_, step_ok hz ⟨?_, ?_⟩⟩, ?_, ?_⟩
    all_goals first
      | omega
      | (dsimp only; omega)
      | (((refine ⟨?_, ?_, ?_, ?_⟩) <;> (repeat' ((conv => whnf); apply And.intro)) <;> (try (first | exact trivial | decide))) <;> first | rfl | exact fun _ _ h => h | simp [SV.wf, SV.wfs])
      | (intro h0; first | (exfalso; omega) | exact hb)
      | (simp only [goodB, countB, *]; simp; done)
      | (simp_all [goodB, countB]; done)

theorem Entries_w (A1 A2 : Option Addr) (c1 c2 : Nat) (xs ys : List EntT) {n m : Nat} (hx : xs.length = n) (hy : ys.length = m) (h1 : n ≤ 1000000000) (h2 : m ≤ 1000000000) :
    CallW Tryd.prog 16 [.v (.slice A1 n c1), .v (.slice A2 m c2)] (fun w => ArgSl w A1 n 4 (xs.map encE) ∧ ArgSl w A2 m 4 (ys.map encE)) (B (decide (xs = ys))) := by
  refine CallW.of Tryd.func16 rfl tabOk rfl rfl rfl (by simp [SV.wfs, SV.wf]) (by simp [SV.wfs, SV.wf]) fun w hpre => ?_
  obtain ⟨hA1, hA2⟩ := hpre
  (conv=>whnf);repeat' (first|((with_reducible refine isW ?_;first|refine xwr_ok (by omega) (by omega) ?_|refine xwr_raw ?_);conv=>whnf)|((first|refine DrawX_s tabOk folOk ?_|refine DrawS_i (by kernel_rfl) ?_|with_reducible refine andX_i ?_ ?_)<;>conv=>whnf)|with_reducible exact rfl|((with_reducible first|refine xif_kt (by assumption) ?_|refine xif_kf (by assumption) ?_);conv=>whnf)|((with_reducible refine xif_s ?_ ?_)<;>(intro hb;(try simp (disch:=omega) only [hbS] at hb)<;>conv=>whnf)))
  · refine Fin_pure rfl ?_ trivial
    have : ¬ xs = ys := by
      rintro rfl
      exact hb (by rw [← hx, ← hy])
    simp [this]
  · refine LoopX_inv tabOk (fun k : Nat => k ≤ n ∧ xs.take k = ys.take k) (fun k => [(5, I k), (0, SV.v (Value.slice A1 n c1)), (1, SV.v (Value.slice A2 m c2))]) (fun _ => []) (fun k => n - k) 0 [] (by simp) ?_ ?_
    · ((refine ⟨?_, ?_, ?_, ?_⟩) <;> (repeat' ((conv => whnf); apply And.intro)) <;> (try (first | exact trivial | decide)))
      all_goals rfl
    · intro k hk
      (conv=>whnf);repeat' (first|((with_reducible refine isV ?_);first|((first|refine ValX_index tabOk rfl (hA1.mem (by decide) rfl) rfl ?_ ?_ ?_|(with_reducible refine nat_idx ?_);refine ValX_loadEn _ _ (e0) tabOk rfl rfl rfl rfl (hA1.mem (by decide) rfl) ?_ ?_ ?_|refine ValX_loadE _ _ (e0) tabOk rfl rfl rfl rfl (hA1.mem (by decide) rfl) ?_ ?_ ?_|refine ValX_index tabOk rfl (hA2.mem (by decide) rfl) rfl ?_ ?_ ?_|(with_reducible refine nat_idx ?_);refine ValX_loadEn _ _ (e0) tabOk rfl rfl rfl rfl (hA2.mem (by decide) rfl) ?_ ?_ ?_|refine ValX_loadE _ _ (e0) tabOk rfl rfl rfl rfl (hA2.mem (by decide) rfl) ?_ ?_ ?_)<;>first|rfl|omega|with_reducible refine isP ?_|conv=>whnf))|((with_reducible refine isW ?_;first|refine xwr_ok (by omega) (by omega) ?_|refine xwr_raw ?_);conv=>whnf)|((first|refine DrawX_s tabOk folOk ?_|refine DrawS_i (by kernel_rfl) ?_|with_reducible refine andX_i ?_ ?_)<;>conv=>whnf)|with_reducible exact rfl|((with_reducible first|refine xif_kt (by assumption) ?_|refine xif_kf (by assumption) ?_);conv=>whnf)|((with_reducible refine xif_s ?_ ?_)<;>(intro hb;(try simp (disch:=omega) only [hbS] at hb)<;>conv=>whnf)))
      · refine Fin_pure rfl ?_ trivial
        have hne : ¬ xs.getD k e0 = ys.getD k e0 := by
          intro e
          rw [e] at hb
          simp at hb
        have : ¬ xs = ys := fun e => hne (by rw [e])
        simp [this]
      · refine ⟨k + 1, [], ⟨by omega, ?_⟩, ?_, by (try dsimp only); omega⟩
        · refine take_next (d := e0) (by omega) (by omega) hk.2 ?_
          obtain ⟨b1, b2, b3, b4, _⟩ := hb
          exact Prod.ext b1 (Prod.ext b2 (Prod.ext b3 b4))
        · ((refine ⟨?_, ?_, ?_, ?_⟩) <;> (repeat' ((conv => whnf); apply And.intro)) <;> (try (first | exact trivial | decide)))
          all_goals first | rfl | exact I_eq (wr (by omega) (by omega))
      · refine Fin_pure rfl ?_ trivial
        have h3 := hk.2
        rw [List.take_of_length_le (by omega), List.take_of_length_le (by omega)] at h3
        simp [h3]
end Go.Proofs.YtadichckbogcjaaDoor.En
