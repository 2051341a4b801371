import Derived.Test.YtlnplelandimeaaGreatZFleetNew29
set_option linter.all false
section
namespace Go.Proofs.YtlnplelandimeaaGreat.En
open Go.RowKit
set_option maxRecDepth 100000
theorem nRelations_x : PureX Tryz.prog 35 [nilP] nilS := by
  refine PureX.of Tryz.func35 rfl tabOk rfl rfl rfl (by simp [SV.wfs, SV.wf]) (by simp [SV.wfs, SV.wf]) fun w => ?_
  (conv => whnf); repeat' (first | ((with_reducible refine isO ?_); first | ((refine OpX_build0 tabOk rfl rfl rfl ?_); intro bN; conv => whnf) | ((refine OpX_build tabOk rfl rfl rfl rfl rfl ?_); intro bN; conv => whnf)) | ((with_reducible refine isW ?_); first | ((with_reducible refine xwr_ok (by omega) (by omega) ?_); conv => whnf) | ((with_reducible refine xwr_raw ?_); conv => whnf)) | (with_reducible exact rfl) | ((with_reducible refine xif_kt (by with_reducible assumption) ?_); conv => whnf) | ((with_reducible refine xif_kf (by with_reducible assumption) ?_); conv => whnf) | (((with_reducible refine xif_s ?_ ?_) <;> (intro hb; (try simp (disch := omega) only [hbS] at hb))) <;> (conv => whnf)))
  exact Fin_pure rfl rfl trivial
theorem nFrames_x : PureX Tryz.prog 21 [nilP] nilP := by
  refine PureX.of Tryz.func21 rfl tabOk rfl rfl rfl (by simp [SV.wfs, SV.wf]) (by simp [SV.wfs, SV.wf]) fun w => ?_
  (conv => whnf); repeat' (first | ((with_reducible refine isW ?_); first | ((with_reducible refine xwr_ok (by omega) (by omega) ?_); conv => whnf) | ((with_reducible refine xwr_raw ?_); conv => whnf)) | (with_reducible exact rfl) | ((with_reducible refine xif_kt (by with_reducible assumption) ?_); conv => whnf) | ((with_reducible refine xif_kf (by with_reducible assumption) ?_); conv => whnf) | (((with_reducible refine xif_s ?_ ?_) <;> (intro hb; (try simp (disch := omega) only [hbS] at hb))) <;> (conv => whnf)))
  exact Fin_pure rfl rfl trivial
theorem nAtlas_x (i : Int) : PureX Tryz.prog 37 [nilP, I i] nilP := by
  refine PureX.of Tryz.func37 rfl tabOk rfl rfl rfl (by simp [SV.wfs, SV.wf]) (by simp [SV.wfs, SV.wf]) fun w => ?_
  (conv => whnf); repeat' (first | (with_reducible exact rfl) | ((with_reducible refine xif_kt (by with_reducible assumption) ?_); conv => whnf) | ((with_reducible refine xif_kf (by with_reducible assumption) ?_); conv => whnf) | (((with_reducible refine xif_s ?_ ?_) <;> (intro hb; (try simp (disch := omega) only [hbS] at hb))) <;> (conv => whnf)))
  exact Fin_pure rfl rfl trivial
theorem nView_x (i : Int) : PureX Tryz.prog 18 [nilP, I i] nilS := by
  refine PureX.of Tryz.func18 rfl tabOk rfl rfl rfl (by simp [SV.wfs, SV.wf]) (by simp [SV.wfs, SV.wf]) fun w => ?_
  (conv => whnf); repeat' (first | ((with_reducible refine isW ?_); first | ((with_reducible refine xwr_ok (by omega) (by omega) ?_); conv => whnf) | ((with_reducible refine xwr_raw ?_); conv => whnf)) | ((refine DrawX_s tabOk folOk ?_); conv => whnf) | ((refine DrawS_i (by kernel_rfl) ?_); conv => whnf) | ((with_reducible refine andX_i ?_ ?_) <;> (conv => whnf)) | (with_reducible exact rfl) | ((with_reducible refine xif_kt (by with_reducible assumption) ?_); conv => whnf) | ((with_reducible refine xif_kf (by with_reducible assumption) ?_); conv => whnf) | (((with_reducible refine xif_s ?_ ?_) <;> (intro hb; (try simp (disch := omega) only [hbS] at hb))) <;> (conv => whnf)))
  exact Fin_pure rfl rfl trivial
theorem nMap34_x : PureX Tryz.prog 20 [nilP] nilS := by
  refine PureX.of Tryz.func20 rfl tabOk rfl rfl rfl (by simp [SV.wfs, SV.wf]) (by simp [SV.wfs, SV.wf]) fun w => ?_
  (conv => whnf); repeat' (first | (with_reducible exact rfl) | ((with_reducible refine xif_kt (by with_reducible assumption) ?_); conv => whnf) | ((with_reducible refine xif_kf (by with_reducible assumption) ?_); conv => whnf) | (((with_reducible refine xif_s ?_ ?_) <;> (intro hb; (try simp (disch := omega) only [hbS] at hb))) <;> (conv => whnf)))
  exact Fin_pure rfl rfl trivial
theorem nClone34_x : PureX Tryz.prog 32 [nilP] nilP := by
  refine PureX.of Tryz.func32 rfl tabOk rfl rfl rfl (by simp [SV.wfs, SV.wf]) (by simp [SV.wfs, SV.wf]) fun w => ?_
  (conv => whnf); repeat' (first | ((with_reducible refine isW ?_); first | ((with_reducible refine xwr_ok (by omega) (by omega) ?_); conv => whnf) | ((with_reducible refine xwr_raw ?_); conv => whnf)) | ((refine DrawX_s tabOk folOk ?_); conv => whnf) | ((refine DrawS_i (by kernel_rfl) ?_); conv => whnf) | ((with_reducible refine andX_i ?_ ?_) <;> (conv => whnf)) | (with_reducible exact rfl) | ((with_reducible refine xif_kt (by with_reducible assumption) ?_); conv => whnf) | ((with_reducible refine xif_kf (by with_reducible assumption) ?_); conv => whnf) | (((with_reducible refine xif_s ?_ ?_) <;> (intro hb; (try simp (disch := omega) only [hbS] at hb))) <;> (conv => whnf)))
  exact Fin_pure rfl rfl trivial
theorem nMe_x : PureX Tryz.prog 39 [nilP] (I 0) := by
  refine PureX.of Tryz.func39 rfl tabOk rfl rfl rfl (by simp [SV.wfs, SV.wf]) (by simp [SV.wfs, SV.wf]) fun w => ?_
  (conv => whnf); repeat' (first | (with_reducible exact rfl) | ((with_reducible refine xif_kt (by with_reducible assumption) ?_); conv => whnf) | ((with_reducible refine xif_kf (by with_reducible assumption) ?_); conv => whnf) | (((with_reducible refine xif_s ?_ ?_) <;> (intro hb; (try simp (disch := omega) only [hbS] at hb))) <;> (conv => whnf)))
  exact Fin_pure rfl rfl trivial
theorem nRelate_x (x : RelT) : PureX Tryz.prog 41 [nilP, relX x] (I 1) := by
  refine PureX.of Tryz.func41 rfl tabOk rfl rfl rfl (by simp [SV.wfs, SV.wf]) (by simp [SV.wfs, SV.wf]) fun w => ?_
  (conv => whnf); repeat' (first | (with_reducible exact rfl) | ((with_reducible refine xif_kt (by with_reducible assumption) ?_); conv => whnf) | ((with_reducible refine xif_kf (by with_reducible assumption) ?_); conv => whnf) | (((with_reducible refine xif_s ?_ ?_) <;> (intro hb; (try simp (disch := omega) only [hbS] at hb))) <;> (conv => whnf)))
  exact Fin_pure rfl rfl trivial
theorem nHear_x (b : Nat) : PureX Tryz.prog 33 [nilP, pR b] (I 1) := by
  refine PureX.of Tryz.func33 rfl tabOk rfl rfl rfl (by simp [SV.wfs, SV.wf]) (by simp [SV.wfs, SV.wf]) fun w => ?_
  (conv => whnf); repeat' (first | ((with_reducible refine isW ?_); first | ((with_reducible refine xwr_ok (by omega) (by omega) ?_); conv => whnf) | ((with_reducible refine xwr_raw ?_); conv => whnf)) | (with_reducible exact rfl) | ((with_reducible refine xif_kt (by with_reducible assumption) ?_); conv => whnf) | ((with_reducible refine xif_kf (by with_reducible assumption) ?_); conv => whnf) | (((with_reducible refine xif_s ?_ ?_) <;> (intro hb; (try simp (disch := omega) only [hbS] at hb))) <;> (conv => whnf)))
  exact Fin_pure rfl rfl trivial
theorem nHear2_x : PureX Tryz.prog 33 [nilP, nilP] (I 1) := by
  refine PureX.of Tryz.func33 rfl tabOk rfl rfl rfl (by simp [SV.wfs, SV.wf]) (by simp [SV.wfs, SV.wf]) fun w => ?_
  (conv => whnf); repeat' (first | ((with_reducible refine isW ?_); first | ((with_reducible refine xwr_ok (by omega) (by omega) ?_); conv => whnf) | ((with_reducible refine xwr_raw ?_); conv => whnf)) | (with_reducible exact rfl) | ((with_reducible refine xif_kt (by with_reducible assumption) ?_); conv => whnf) | ((with_reducible refine xif_kf (by with_reducible assumption) ?_); conv => whnf) | (((with_reducible refine xif_s ?_ ?_) <;> (intro hb; (try simp (disch := omega) only [hbS] at hb))) <;> (conv => whnf)))
  exact Fin_pure rfl rfl trivial
theorem Hearn_x (b : Nat) : PureX Tryz.prog 33 [pR b, nilP] (I 1) := by
  refine PureX.of Tryz.func33 rfl tabOk rfl rfl rfl (by simp [SV.wfs, SV.wf]) (by simp [SV.wfs, SV.wf]) fun w => ?_
  (conv => whnf); repeat' (first | ((with_reducible refine isW ?_); first | ((with_reducible refine xwr_ok (by omega) (by omega) ?_); conv => whnf) | ((with_reducible refine xwr_raw ?_); conv => whnf)) | (with_reducible exact rfl) | ((with_reducible refine xif_kt (by with_reducible assumption) ?_); conv => whnf) | ((with_reducible refine xif_kf (by with_reducible assumption) ?_); conv => whnf) | (((with_reducible refine xif_s ?_ ?_) <;> (intro hb; (try simp (disch := omega) only [hbS] at hb))) <;> (conv => whnf)))
  exact Fin_pure rfl rfl trivial
theorem nPut34_x (k : Int) (s : Value) : PureX Tryz.prog 42 [nilP, I k, .v s] (I 1) := by
  refine PureX.of Tryz.func42 rfl tabOk rfl rfl rfl (by simp [SV.wfs, SV.wf]) (by simp [SV.wfs, SV.wf]) fun w => ?_
  (conv => whnf); repeat' (first | ((refine DrawX_s tabOk folOk ?_); conv => whnf) | ((refine DrawS_i (by kernel_rfl) ?_); conv => whnf) | ((with_reducible refine andX_i ?_ ?_) <;> (conv => whnf)) | (with_reducible exact rfl) | ((with_reducible refine xif_kt (by with_reducible assumption) ?_); conv => whnf) | ((with_reducible refine xif_kf (by with_reducible assumption) ?_); conv => whnf) | (((with_reducible refine xif_s ?_ ?_) <;> (intro hb; (try simp (disch := omega) only [hbS] at hb))) <;> (conv => whnf)))
  exact Fin_pure rfl rfl trivial
theorem nPlace34_x (k : Int) (p : PlT) : PureX Tryz.prog 43 [nilP, I k, plX p] (I 1) := by
  refine PureX.of Tryz.func43 rfl tabOk rfl rfl rfl (by simp [SV.wfs, SV.wf]) (by simp [SV.wfs, SV.wf]) fun w => ?_
  (conv => whnf); repeat' (first | ((refine DrawX_s tabOk folOk ?_); conv => whnf) | ((refine DrawS_i (by kernel_rfl) ?_); conv => whnf) | ((with_reducible refine andX_i ?_ ?_) <;> (conv => whnf)) | (with_reducible exact rfl) | ((with_reducible refine xif_kt (by with_reducible assumption) ?_); conv => whnf) | ((with_reducible refine xif_kf (by with_reducible assumption) ?_); conv => whnf) | (((with_reducible refine xif_s ?_ ?_) <;> (intro hb; (try simp (disch := omega) only [hbS] at hb))) <;> (conv => whnf)))
  exact Fin_pure rfl rfl trivial
def emptyS (S : SnT) : Prop := pairs S = [] ∧ ∀ i, i < 8 → idsF (hasA (S.ats i)) 64 = []
set_option maxHeartbeats 4000000 in
theorem nSame34_m (b : Nat) (c : CoT) (S : SnT) (r : Bool) (hr : r = true ↔ emptyS S) : CallM Tryz.prog 30 [nilP, pR b] (fun _ _ => True) [stO b c S allT] (fun _ : Unit => B r) (fun _ => [stO b c S allT]) := by
  have k2 := relations_m b c S allT
  have ka := fun i hi => fAtlas_m b c S i hi
  have hl2 := pairsN_len S 64
  have e2 : pairsN S 64 = pairs S := rfl
  rw [e2] at hl2
  have hno : ¬ (pairs S = []) → r = false := fun h => by
    rcases Bool.eq_false_or_eq_true r with e | e
    · exact (h (hr.1 e).1).elim
    · exact e
  have hno2 : ∀ i, i < 8 → ¬ (idsF (hasA (S.ats i)) 64 = []) → r = false := fun i hi h => by
    rcases Bool.eq_false_or_eq_true r with e | e
    · exact (h ((hr.1 e).2 i hi)).elim
    · exact e
  have hfin : pairs S = [] → (∀ i, i < 8 → idsF (hasA (S.ats i)) 64 = []) → r = true := fun h h' => hr.2 ⟨h, h'⟩
  clear hr e2
  generalize pairs S = L at *
  refine CallM.of (m := 1) Tryz.func30 rfl tabOk rfl rfl rfl rfl (by simp [SV.wfs, SV.wf]) fun w M π _ => ?_
  by_cases hL : L = []
  rotate_left
  · have hne := hno hL
    have hl0 : L.length ≠ 0 := fun h => hL (List.length_eq_zero_iff.1 h)
    (conv => whnf); repeat' (first | ((with_reducible refine isC ?_); first | ((with_reducible refine CallX_pure (nRelations_x) ?_) <;> first | omega | (with_reducible show (_ : Int) ≤ _) | (with_reducible show (_ : Int) < _) | (with_reducible show (_ : Nat) ≤ _) | (with_reducible show (_ : Nat) < _) | (conv => whnf)) | ((with_reducible refine isF 35 ?_); ((refine CallX_m k2 [0] rfl ⟨fun _ _ h => h, trivial⟩ (by decide) (fun _ _ _ _ => trivial) ?_; intro q2; obtain ⟨A2, d2⟩ := q2)); conv => whnf)) | ((with_reducible refine isW ?_); first | ((with_reducible refine xwr_ok (by omega) (by omega) ?_); conv => whnf) | ((with_reducible refine xwr_raw ?_); conv => whnf)) | ((refine DrawX_s tabOk folOk ?_); conv => whnf) | ((refine DrawS_i (by kernel_rfl) ?_); conv => whnf) | ((with_reducible refine andX_i ?_ ?_) <;> (conv => whnf)) | (with_reducible exact rfl) | ((with_reducible refine xif_kt (by with_reducible assumption) ?_); conv => whnf) | ((with_reducible refine xif_kf (by with_reducible assumption) ?_); conv => whnf) | (((with_reducible refine xif_s ?_ ?_) <;> (intro hb; (try simp (disch := omega) only [hbS] at hb))) <;> (conv => whnf)))
    all_goals try (exfalso; omega)
    exact Fin_m () [0] ⟨by rw [hne]; rfl, by simp [SV.wf, SV.wfs]⟩ ⟨fun _ _ h => h, trivial⟩ (by decide) rfl
  · subst hL
    (conv => whnf); repeat' (first | ((with_reducible refine isC ?_); first | ((with_reducible refine CallX_pure (nRelations_x) ?_) <;> first | omega | (with_reducible show (_ : Int) ≤ _) | (with_reducible show (_ : Int) < _) | (with_reducible show (_ : Nat) ≤ _) | (with_reducible show (_ : Nat) < _) | (conv => whnf)) | ((with_reducible refine isF 35 ?_); ((refine CallX_m k2 [0] rfl ⟨fun _ _ h => h, trivial⟩ (by decide) (fun _ _ _ _ => trivial) ?_; intro q2; obtain ⟨A2, d2⟩ := q2)); conv => whnf)) | ((with_reducible refine isW ?_); first | ((with_reducible refine xwr_ok (by omega) (by omega) ?_); conv => whnf) | ((with_reducible refine xwr_raw ?_); conv => whnf)) | ((refine DrawX_s tabOk folOk ?_); conv => whnf) | ((refine DrawS_i (by kernel_rfl) ?_); conv => whnf) | ((with_reducible refine andX_i ?_ ?_) <;> (conv => whnf)) | (with_reducible exact rfl) | ((with_reducible refine xif_kt (by with_reducible assumption) ?_); conv => whnf) | ((with_reducible refine xif_kf (by with_reducible assumption) ?_); conv => whnf) | (((with_reducible refine xif_s ?_ ?_) <;> (intro hb; (try simp (disch := omega) only [hbS] at hb))) <;> (conv => whnf)))
    all_goals try (exfalso; omega)
    all_goals try (exfalso; exact hb rfl)
    refine LoopX_inv tabOk (α := Unit) (fun _ => True) (fun _ => [(0, nilP), (1, pR b), (19, I 0), (20, I 0)]) (fun _ => [stO b c S allT]) (fun _ => 0) () [0] trivial ?_ ?_
    · ((refine ⟨?_, ?_, ?_, ?_⟩) <;> (repeat' ((conv => whnf); apply And.intro)) <;> (try (first | exact trivial | decide)))
      all_goals first | rfl | exact fun _ _ h => h | (simp [SV.wf, SV.wfs]; done) | trace_state
    · intro _ _
      (conv => whnf); repeat' (first | ((with_reducible refine isW ?_); first | ((with_reducible refine xwr_ok (by omega) (by omega) ?_); conv => whnf) | ((with_reducible refine xwr_raw ?_); conv => whnf)) | ((refine DrawX_s tabOk folOk ?_); conv => whnf) | ((refine DrawS_i (by kernel_rfl) ?_); conv => whnf) | ((with_reducible refine andX_i ?_ ?_) <;> (conv => whnf)) | (with_reducible exact rfl) | ((with_reducible refine xif_kt (by with_reducible assumption) ?_); conv => whnf) | ((with_reducible refine xif_kf (by with_reducible assumption) ?_); conv => whnf) | (((with_reducible refine xif_s ?_ ?_) <;> (intro hb; (try simp (disch := omega) only [hbS] at hb))) <;> (conv => whnf)))
      refine LoopX_inv tabOk (α := Nat) (fun k => k ≤ 8 ∧ ∀ j, j < k → idsF (hasA (S.ats j)) 64 = []) (fun k => [(0, nilP), (1, pR b), (33, I k)]) (fun _ => [stO b c S allT]) (fun k => 8 - k) 0 [0] ⟨Nat.zero_le _, fun j hj => by omega⟩ ?_ ?_
      · ((refine ⟨?_, ?_, ?_, ?_⟩) <;> (repeat' ((conv => whnf); apply And.intro)) <;> (try (first | exact trivial | decide)))
        all_goals first | rfl | exact fun _ _ h => h | (simp [SV.wf, SV.wfs]; done) | trace_state
      · rintro k ⟨hk, hall⟩
        by_cases hlt : k < 8
        · have k1 := ka k hlt
          have hn2 := hno2 k hlt
          (conv => whnf); repeat' (first | ((with_reducible refine isC ?_); first | ((with_reducible refine CallX_pure (nAtlas_x _) ?_) <;> first | omega | (with_reducible show (_ : Int) ≤ _) | (with_reducible show (_ : Int) < _) | (with_reducible show (_ : Nat) ≤ _) | (with_reducible show (_ : Nat) < _) | (conv => whnf)) | ((with_reducible refine isF 37 ?_); ((refine CallX_m k1 [0] rfl ⟨fun _ _ h => h, trivial⟩ (by decide) (fun _ _ _ _ => trivial) ?_; intro q1; obtain ⟨⟨⟨x1, x2⟩, ⟨ma, qa⟩, oka, aba⟩, ga⟩ := q1)); conv => whnf)) | ((with_reducible refine isW ?_); first | ((with_reducible refine xwr_ok (by omega) (by omega) ?_); conv => whnf) | ((with_reducible refine xwr_raw ?_); conv => whnf)) | ((refine DrawX_s tabOk folOk ?_); conv => whnf) | ((refine DrawS_i (by kernel_rfl) ?_); conv => whnf) | ((with_reducible refine andX_i ?_ ?_) <;> (conv => whnf)) | (with_reducible exact rfl) | ((with_reducible refine xif_kt (by with_reducible assumption) ?_); conv => whnf) | ((with_reducible refine xif_kf (by with_reducible assumption) ?_); conv => whnf) | (((with_reducible refine xif_s ?_ ?_) <;> (intro hb; (try simp (disch := omega) only [hbS] at hb))) <;> (conv => whnf)))
          all_goals try (exfalso; omega)
          have ks := nSame_m x1 x2 ma qa
          have hi : idsF (hasM ma qa) 64 = idsF (hasA (S.ats k)) 64 := by rw [has_sem, ← aba]; rfl
          rw [hi] at ks
          by_cases he : idsF (hasA (S.ats k)) 64 = []
          · rw [he, decide_eq_true rfl] at ks
            refine CallX_m ks [1, 2, 3] rfl ⟨⟨rfl, rfl, by simp [SV.wf, SV.wfs]⟩, fun _ _ h => h, fun _ _ h => h, trivial⟩ (by decide) (fun _ _ _ _ => trivial) ?_
            intro u
            (conv => whnf); repeat' (first | ((with_reducible refine isW ?_); first | ((with_reducible refine xwr_ok (by omega) (by omega) ?_); conv => whnf) | ((with_reducible refine xwr_raw ?_); conv => whnf)) | ((refine DrawX_s tabOk folOk ?_); conv => whnf) | ((refine DrawS_i (by kernel_rfl) ?_); conv => whnf) | ((with_reducible refine andX_i ?_ ?_) <;> (conv => whnf)) | (with_reducible exact rfl) | ((with_reducible refine xif_kt (by with_reducible assumption) ?_); conv => whnf) | ((with_reducible refine xif_kf (by with_reducible assumption) ?_); conv => whnf) | (((with_reducible refine xif_s ?_ ?_) <;> (intro hb; (try simp (disch := omega) only [hbS] at hb))) <;> (conv => whnf)))
            all_goals try (exfalso; omega)
            refine ⟨k + 1, [0], ⟨by (try dsimp only); omega, fun j hj => ?_⟩, ?_, by (try dsimp only); omega⟩
            · by_cases e : j = k
              · rw [e]; exact he
              · exact hall j (by omega)
            · ((refine ⟨?_, ?_, ?_, ?_⟩) <;> (repeat' ((conv => whnf); apply And.intro)) <;> (try (first | exact trivial | decide)))
              all_goals first | rfl | exact fun _ _ h => h | (simp [SV.wf, SV.wfs]; done) | trace_state
          · have hne := hn2 he
            rw [decide_eq_false (fun e => he e.symm)] at ks
            refine CallX_m ks [1, 2, 3] rfl ⟨⟨rfl, rfl, by simp [SV.wf, SV.wfs]⟩, fun _ _ h => h, fun _ _ h => h, trivial⟩ (by decide) (fun _ _ _ _ => trivial) ?_
            intro u
            (conv => whnf); repeat' (first | ((with_reducible refine isW ?_); first | ((with_reducible refine xwr_ok (by omega) (by omega) ?_); conv => whnf) | ((with_reducible refine xwr_raw ?_); conv => whnf)) | ((refine DrawX_s tabOk folOk ?_); conv => whnf) | ((refine DrawS_i (by kernel_rfl) ?_); conv => whnf) | ((with_reducible refine andX_i ?_ ?_) <;> (conv => whnf)) | (with_reducible exact rfl) | ((with_reducible refine xif_kt (by with_reducible assumption) ?_); conv => whnf) | ((with_reducible refine xif_kf (by with_reducible assumption) ?_); conv => whnf) | (((with_reducible refine xif_s ?_ ?_) <;> (intro hb; (try simp (disch := omega) only [hbS] at hb))) <;> (conv => whnf)))
            all_goals try (exfalso; omega)
            exact Fin_m () [0] ⟨by rw [hne]; rfl, by simp [SV.wf, SV.wfs]⟩ ⟨fun _ _ h => h, trivial⟩ (by decide) rfl
        · obtain rfl : k = 8 := by omega
          have ht := hfin rfl hall
          (conv => whnf); repeat' (first | ((with_reducible refine isW ?_); first | ((with_reducible refine xwr_ok (by omega) (by omega) ?_); conv => whnf) | ((with_reducible refine xwr_raw ?_); conv => whnf)) | ((refine DrawX_s tabOk folOk ?_); conv => whnf) | ((refine DrawS_i (by kernel_rfl) ?_); conv => whnf) | ((with_reducible refine andX_i ?_ ?_) <;> (conv => whnf)) | (with_reducible exact rfl) | ((with_reducible refine xif_kt (by with_reducible assumption) ?_); conv => whnf) | ((with_reducible refine xif_kf (by with_reducible assumption) ?_); conv => whnf) | (((with_reducible refine xif_s ?_ ?_) <;> (intro hb; (try simp (disch := omega) only [hbS] at hb))) <;> (conv => whnf)))
          all_goals try (exfalso; omega)
          exact Fin_m () [0] ⟨by rw [ht]; rfl, by simp [SV.wf, SV.wfs]⟩ ⟨fun _ _ h => h, trivial⟩ (by decide) rfl
set_option maxHeartbeats 4000000 in
theorem Samen34_m (b : Nat) (c : CoT) (S : SnT) (r : Bool) (hr : r = true ↔ emptyS S) : CallM Tryz.prog 30 [pR b, nilP] (fun _ _ => True) [stO b c S allT] (fun _ : Unit => B r) (fun _ => [stO b c S allT]) := by
  have k2 := relations_m b c S allT
  have ka := fun i hi => fAtlas_m b c S i hi
  have hl2 := pairsN_len S 64
  have e2 : pairsN S 64 = pairs S := rfl
  rw [e2] at hl2
  have hno : ¬ (pairs S = []) → r = false := fun h => by
    rcases Bool.eq_false_or_eq_true r with e | e
    · exact (h (hr.1 e).1).elim
    · exact e
  have hno2 : ∀ i, i < 8 → ¬ (idsF (hasA (S.ats i)) 64 = []) → r = false := fun i hi h => by
    rcases Bool.eq_false_or_eq_true r with e | e
    · exact (h ((hr.1 e).2 i hi)).elim
    · exact e
  have hfin : pairs S = [] → (∀ i, i < 8 → idsF (hasA (S.ats i)) 64 = []) → r = true := fun h h' => hr.2 ⟨h, h'⟩
  clear hr e2
  generalize pairs S = L at *
  refine CallM.of (m := 1) Tryz.func30 rfl tabOk rfl rfl rfl rfl (by simp [SV.wfs, SV.wf]) fun w M π _ => ?_
  by_cases hL : L = []
  rotate_left
  · have hne := hno hL
    have hl0 : L.length ≠ 0 := fun h => hL (List.length_eq_zero_iff.1 h)
    (conv => whnf); repeat' (first | ((with_reducible refine isC ?_); first | ((with_reducible refine CallX_pure (nRelations_x) ?_) <;> first | omega | (with_reducible show (_ : Int) ≤ _) | (with_reducible show (_ : Int) < _) | (with_reducible show (_ : Nat) ≤ _) | (with_reducible show (_ : Nat) < _) | (conv => whnf)) | ((with_reducible refine isF 35 ?_); ((refine CallX_m k2 [0] rfl ⟨fun _ _ h => h, trivial⟩ (by decide) (fun _ _ _ _ => trivial) ?_; intro q2; obtain ⟨A2, d2⟩ := q2)); conv => whnf)) | ((with_reducible refine isW ?_); first | ((with_reducible refine xwr_ok (by omega) (by omega) ?_); conv => whnf) | ((with_reducible refine xwr_raw ?_); conv => whnf)) | ((refine DrawX_s tabOk folOk ?_); conv => whnf) | ((refine DrawS_i (by kernel_rfl) ?_); conv => whnf) | ((with_reducible refine andX_i ?_ ?_) <;> (conv => whnf)) | (with_reducible exact rfl) | ((with_reducible refine xif_kt (by with_reducible assumption) ?_); conv => whnf) | ((with_reducible refine xif_kf (by with_reducible assumption) ?_); conv => whnf) | (((with_reducible refine xif_s ?_ ?_) <;> (intro hb; (try simp (disch := omega) only [hbS] at hb))) <;> (conv => whnf)))
    all_goals try (exfalso; omega)
    exact Fin_m () [0] ⟨by rw [hne]; rfl, by simp [SV.wf, SV.wfs]⟩ ⟨fun _ _ h => h, trivial⟩ (by decide) rfl
  · subst hL
    (conv => whnf); repeat' (first | ((with_reducible refine isC ?_); first | ((with_reducible refine CallX_pure (nRelations_x) ?_) <;> first | omega | (with_reducible show (_ : Int) ≤ _) | (with_reducible show (_ : Int) < _) | (with_reducible show (_ : Nat) ≤ _) | (with_reducible show (_ : Nat) < _) | (conv => whnf)) | ((with_reducible refine isF 35 ?_); ((refine CallX_m k2 [0] rfl ⟨fun _ _ h => h, trivial⟩ (by decide) (fun _ _ _ _ => trivial) ?_; intro q2; obtain ⟨A2, d2⟩ := q2)); conv => whnf)) | ((with_reducible refine isW ?_); first | ((with_reducible refine xwr_ok (by omega) (by omega) ?_); conv => whnf) | ((with_reducible refine xwr_raw ?_); conv => whnf)) | ((refine DrawX_s tabOk folOk ?_); conv => whnf) | ((refine DrawS_i (by kernel_rfl) ?_); conv => whnf) | ((with_reducible refine andX_i ?_ ?_) <;> (conv => whnf)) | (with_reducible exact rfl) | ((with_reducible refine xif_kt (by with_reducible assumption) ?_); conv => whnf) | ((with_reducible refine xif_kf (by with_reducible assumption) ?_); conv => whnf) | (((with_reducible refine xif_s ?_ ?_) <;> (intro hb; (try simp (disch := omega) only [hbS] at hb))) <;> (conv => whnf)))
    all_goals try (exfalso; omega)
    all_goals try (exfalso; exact hb rfl)
    refine LoopX_inv tabOk (α := Unit) (fun _ => True) (fun _ => [(0, pR b), (1, nilP), (19, I 0), (20, I 0)]) (fun _ => [stO b c S allT]) (fun _ => 0) () [0] trivial ?_ ?_
    · ((refine ⟨?_, ?_, ?_, ?_⟩) <;> (repeat' ((conv => whnf); apply And.intro)) <;> (try (first | exact trivial | decide)))
      all_goals first | rfl | exact fun _ _ h => h | (simp [SV.wf, SV.wfs]; done) | trace_state
    · intro _ _
      (conv => whnf); repeat' (first | ((with_reducible refine isW ?_); first | ((with_reducible refine xwr_ok (by omega) (by omega) ?_); conv => whnf) | ((with_reducible refine xwr_raw ?_); conv => whnf)) | ((refine DrawX_s tabOk folOk ?_); conv => whnf) | ((refine DrawS_i (by kernel_rfl) ?_); conv => whnf) | ((with_reducible refine andX_i ?_ ?_) <;> (conv => whnf)) | (with_reducible exact rfl) | ((with_reducible refine xif_kt (by with_reducible assumption) ?_); conv => whnf) | ((with_reducible refine xif_kf (by with_reducible assumption) ?_); conv => whnf) | (((with_reducible refine xif_s ?_ ?_) <;> (intro hb; (try simp (disch := omega) only [hbS] at hb))) <;> (conv => whnf)))
      refine LoopX_inv tabOk (α := Nat) (fun k => k ≤ 8 ∧ ∀ j, j < k → idsF (hasA (S.ats j)) 64 = []) (fun k => [(0, pR b), (1, nilP), (33, I k)]) (fun _ => [stO b c S allT]) (fun k => 8 - k) 0 [0] ⟨Nat.zero_le _, fun j hj => by omega⟩ ?_ ?_
      · ((refine ⟨?_, ?_, ?_, ?_⟩) <;> (repeat' ((conv => whnf); apply And.intro)) <;> (try (first | exact trivial | decide)))
        all_goals first | rfl | exact fun _ _ h => h | (simp [SV.wf, SV.wfs]; done) | trace_state
      · rintro k ⟨hk, hall⟩
        by_cases hlt : k < 8
        · have k1 := ka k hlt
          have hn2 := hno2 k hlt
          (conv => whnf); repeat' (first | ((with_reducible refine isC ?_); first | ((with_reducible refine CallX_pure (nAtlas_x _) ?_) <;> first | omega | (with_reducible show (_ : Int) ≤ _) | (with_reducible show (_ : Int) < _) | (with_reducible show (_ : Nat) ≤ _) | (with_reducible show (_ : Nat) < _) | (conv => whnf)) | ((with_reducible refine isF 37 ?_); ((refine CallX_m k1 [0] rfl ⟨fun _ _ h => h, trivial⟩ (by decide) (fun _ _ _ _ => trivial) ?_; intro q1; obtain ⟨⟨⟨x1, x2⟩, ⟨ma, qa⟩, oka, aba⟩, ga⟩ := q1)); conv => whnf)) | ((with_reducible refine isW ?_); first | ((with_reducible refine xwr_ok (by omega) (by omega) ?_); conv => whnf) | ((with_reducible refine xwr_raw ?_); conv => whnf)) | ((refine DrawX_s tabOk folOk ?_); conv => whnf) | ((refine DrawS_i (by kernel_rfl) ?_); conv => whnf) | ((with_reducible refine andX_i ?_ ?_) <;> (conv => whnf)) | (with_reducible exact rfl) | ((with_reducible refine xif_kt (by with_reducible assumption) ?_); conv => whnf) | ((with_reducible refine xif_kf (by with_reducible assumption) ?_); conv => whnf) | (((with_reducible refine xif_s ?_ ?_) <;> (intro hb; (try simp (disch := omega) only [hbS] at hb))) <;> (conv => whnf)))
          all_goals try (exfalso; omega)
          have ks := Samen_m x1 x2 ma qa
          have hi : idsF (hasM ma qa) 64 = idsF (hasA (S.ats k)) 64 := by rw [has_sem, ← aba]; rfl
          rw [hi] at ks
          by_cases he : idsF (hasA (S.ats k)) 64 = []
          · rw [he, decide_eq_true rfl] at ks
            refine CallX_m ks [1, 2, 3] rfl ⟨⟨rfl, rfl, by simp [SV.wf, SV.wfs]⟩, fun _ _ h => h, fun _ _ h => h, trivial⟩ (by decide) (fun _ _ _ _ => trivial) ?_
            intro u
            (conv => whnf); repeat' (first | ((with_reducible refine isW ?_); first | ((with_reducible refine xwr_ok (by omega) (by omega) ?_); conv => whnf) | ((with_reducible refine xwr_raw ?_); conv => whnf)) | ((refine DrawX_s tabOk folOk ?_); conv => whnf) | ((refine DrawS_i (by kernel_rfl) ?_); conv => whnf) | ((with_reducible refine andX_i ?_ ?_) <;> (conv => whnf)) | (with_reducible exact rfl) | ((with_reducible refine xif_kt (by with_reducible assumption) ?_); conv => whnf) | ((with_reducible refine xif_kf (by with_reducible assumption) ?_); conv => whnf) | (((with_reducible refine xif_s ?_ ?_) <;> (intro hb; (try simp (disch := omega) only [hbS] at hb))) <;> (conv => whnf)))
            all_goals try (exfalso; omega)
            refine ⟨k + 1, [0], ⟨by (try dsimp only); omega, fun j hj => ?_⟩, ?_, by (try dsimp only); omega⟩
            · by_cases e : j = k
              · rw [e]; exact he
              · exact hall j (by omega)
            · ((refine ⟨?_, ?_, ?_, ?_⟩) <;> (repeat' ((conv => whnf); apply And.intro)) <;> (try (first | exact trivial | decide)))
              all_goals first | rfl | exact fun _ _ h => h | (simp [SV.wf, SV.wfs]; done) | trace_state
          · have hne := hn2 he
            rw [decide_eq_false (fun e => he e.symm)] at ks
            refine CallX_m ks [1, 2, 3] rfl ⟨⟨rfl, rfl, by simp [SV.wf, SV.wfs]⟩, fun _ _ h => h, fun _ _ h => h, trivial⟩ (by decide) (fun _ _ _ _ => trivial) ?_
            intro u
            (conv => whnf); repeat' (first | ((with_reducible refine isW ?_); first | ((with_reducible refine xwr_ok (by omega) (by omega) ?_); conv => whnf) | ((with_reducible refine xwr_raw ?_); conv => whnf)) | ((refine DrawX_s tabOk folOk ?_); conv => whnf) | ((refine DrawS_i (by kernel_rfl) ?_); conv => whnf) | ((with_reducible refine andX_i ?_ ?_) <;> (conv => whnf)) | (with_reducible exact rfl) | ((with_reducible refine xif_kt (by with_reducible assumption) ?_); conv => whnf) | ((with_reducible refine xif_kf (by with_reducible assumption) ?_); conv => whnf) | (((with_reducible refine xif_s ?_ ?_) <;> (intro hb; (try simp (disch := omega) only [hbS] at hb))) <;> (conv => whnf)))
            all_goals try (exfalso; omega)
            exact Fin_m () [0] ⟨by rw [hne]; rfl, by simp [SV.wf, SV.wfs]⟩ ⟨fun _ _ h => h, trivial⟩ (by decide) rfl
        · obtain rfl : k = 8 := by omega
          have ht := hfin rfl hall
          (conv => whnf); repeat' (first | ((with_reducible refine isW ?_); first | ((with_reducible refine xwr_ok (by omega) (by omega) ?_); conv => whnf) | ((with_reducible refine xwr_raw ?_); conv => whnf)) | ((refine DrawX_s tabOk folOk ?_); conv => whnf) | ((refine DrawS_i (by kernel_rfl) ?_); conv => whnf) | ((with_reducible refine andX_i ?_ ?_) <;> (conv => whnf)) | (with_reducible exact rfl) | ((with_reducible refine xif_kt (by with_reducible assumption) ?_); conv => whnf) | ((with_reducible refine xif_kf (by with_reducible assumption) ?_); conv => whnf) | (((with_reducible refine xif_s ?_ ?_) <;> (intro hb; (try simp (disch := omega) only [hbS] at hb))) <;> (conv => whnf)))
          all_goals try (exfalso; omega)
          exact Fin_m () [0] ⟨by rw [ht]; rfl, by simp [SV.wf, SV.wfs]⟩ ⟨fun _ _ h => h, trivial⟩ (by decide) rfl
def aw1 : SnT := takeS (sn0 2) (3, 1, 1, 2, 0)
def aw2 : SnT := takeS aw1 (1, 3, 2, 5, 5)
def aw3 : SnT := { aw2 with ats := updN aw2.ats 2 (putA (aw2.ats 2) 0 [(0, 100)]) }
def aw4 : SnT := { aw3 with ats := updN aw3.ats 2 (plcA (aw3.ats 2) 0 (1, false, 32, 32, 0)) }
def aw5 : SnT := takeS aw4 (5, 2, 0, 1, 0)
theorem aw_pairs : pairs aw4 = [(1, 3, 3, 0, 2)] := by decide +kernel
theorem aw_of3 : (ofE (32, 32, 0) [(0, 100)]).1 = [(0, 0, 0, 1), (1, 0, 0, 1), (2, 0, 1, 0)] := (ofE_of (at_ := (32, 32, 0)) (s := [(0, 100)]) (ys := [(0, 0, 0, 1), (1, 0, 0, 1), (2, 0, 1, 0)]) (by
  unfold IsOf
  rw [if_pos (by decide +kernel)]
  exact ⟨by decide +kernel, by unfold asc; decide +kernel⟩)).symm
theorem comb_lnil {a : List EntT} (ha : vE a = true) : combE 1 [] a = (a, 0) := by rw [comb_sym, comb_nil ha]
theorem aw_map : mapA (aw4.ats 2) = [(0, 0, 0, 1), (1, 0, 0, 1), (2, 0, 1, 0)] := by
  have hi : idsF (hasA (aw4.ats 2)) 64 = [0] := by decide +kernel
  unfold mapA
  rw [hi]
  show (combE 1 [] (partA (aw4.ats 2) 0)).1 = _
  have hp : partA (aw4.ats 2) 0 = (ofE (32, 32, 0) [(0, 100)]).1 := rfl
  rw [hp, aw_of3, comb_lnil (by decide +kernel)]
theorem aw_none : mapA at0 = [] := by decide +kernel
theorem aw_bt : ((List.range 8).map fun k : Nat => btF [(1, 3, 3, 0, 2)] 2 k) = [none, none, some (0, 0, 0), none, none, none, none, none] := by decide +kernel
theorem aw_bt5 : ((List.range 8).map fun k : Nat => btF [(1, 3, 3, 0, 2)] 5 k) = [none, none, none, none, none, some (0, 0, 0), none, none] := by decide +kernel
theorem aw_bt6 : ((List.range 8).map fun k : Nat => btF [(1, 3, 3, 0, 2), (2, 5, 0, -1, 0)] 5 k) = [none, none, some (0, 1, 0), none, none, some (0, 0, 0), none, none] := by decide +kernel
theorem aw_fr4 : framesS aw4 = [(1, 3, 3, 0, 2)] := by decide +kernel
theorem aw_fr5 : framesS aw5 = [(1, 3, 3, 0, 2), (2, 5, 0, -1, 0)] := by decide +kernel
theorem aw_at {rs : List RelT} {n : Int} {L : List (Option Fr)} (h : ((List.range 8).map fun k : Nat => btF rs n k) = L) (k : Nat) (hk : k < 8) : btF rs n k = L.getD k none := by
  rw [← h]
  simp [hk]
theorem aw_out0 : outL (0, 0, 0) [] = [] := outL_eq (by
  unfold IsOut
  rw [if_pos (by decide +kernel)]
  exact ⟨List.Perm.refl _, List.Pairwise.nil⟩)
theorem aw_out1 : outL (0, 0, 0) [(0, 0, 0, 1), (1, 0, 0, 1), (2, 0, 1, 0)] = [(0, 0, 0, 1), (1, 0, 0, 1), (2, 0, 1, 0)] := outL_eq (by
  unfold IsOut
  rw [if_pos (by decide +kernel)]
  refine ⟨?_, by unfold asc; decide +kernel⟩
  rw [show ([(0, 0, 0, 1), (1, 0, 0, 1), (2, 0, 1, 0)] : List EntT).map (imgE (0, 0, 0)) = [(0, 0, 0, 1), (1, 0, 0, 1), (2, 0, 1, 0)] by decide +kernel])
theorem aw_out2 : outL (0, 1, 0) [(0, 0, 0, 1), (1, 0, 0, 1), (2, 0, 1, 0)] = [(1, 0, 0, 1), (2, 0, 0, 1), (3, 0, 1, 0)] := outL_eq (by
  unfold IsOut
  rw [if_pos (by decide +kernel)]
  refine ⟨?_, by unfold asc; decide +kernel⟩
  rw [show ([(0, 0, 0, 1), (1, 0, 0, 1), (2, 0, 1, 0)] : List EntT).map (imgE (0, 1, 0)) = [(1, 0, 0, 1), (2, 0, 0, 1), (3, 0, 1, 0)] by decide +kernel])
theorem aw_ats4 (k : Nat) (h : k ≠ 2) : aw4.ats k = at0 := by
  unfold aw4 aw3 aw2 aw1 updN takeS setR sn0
  dsimp only
  rw [if_neg h, if_neg h]
theorem aw_view4 : viewS aw4 2 = [(0, 0, 0, 1), (1, 0, 0, 1), (2, 0, 1, 0)] := by
  have b := aw_at aw_bt
  unfold viewS
  simp only [viewK, aw_fr4]
  rw [b 0 (by decide), b 1 (by decide), b 2 (by decide), b 3 (by decide), b 4 (by decide), b 5 (by decide), b 6 (by decide), b 7 (by decide)]
  simp only [List.getD_cons_zero, List.getD_cons_succ]
  rw [aw_map, aw_out1, comb_lnil (by decide +kernel)]
theorem aw_view5 : viewS aw4 5 = [] := by
  have b := aw_at aw_bt5
  unfold viewS
  simp only [viewK, aw_fr4]
  rw [b 0 (by decide), b 1 (by decide), b 2 (by decide), b 3 (by decide), b 4 (by decide), b 5 (by decide), b 6 (by decide), b 7 (by decide)]
  simp only [List.getD_cons_zero, List.getD_cons_succ]
  rw [aw_ats4 5 (by decide), aw_none, aw_out0, comb_nil (by decide +kernel)]
theorem aw_view6 : viewS aw5 5 = [(1, 0, 0, 1), (2, 0, 0, 1), (3, 0, 1, 0)] := by
  have b := aw_at aw_bt6
  unfold viewS
  simp only [viewK, aw_fr5]
  rw [b 0 (by decide), b 1 (by decide), b 2 (by decide), b 3 (by decide), b 4 (by decide), b 5 (by decide), b 6 (by decide), b 7 (by decide)]
  simp only [List.getD_cons_zero, List.getD_cons_succ]
  rw [show aw5.ats 5 = at0 from aw_ats4 5 (by decide), show aw5.ats 2 = aw4.ats 2 from rfl, aw_map, aw_none, aw_out0, aw_out2, comb_lnil (by decide +kernel)]
  dsimp only
  rw [comb_nil (by decide +kernel)]
theorem aw_ids34 : idsF (hasA (aw5.ats 2)) 64 = [0] := by decide +kernel
end Go.Proofs.YtlnplelandimeaaGreat.En
end
