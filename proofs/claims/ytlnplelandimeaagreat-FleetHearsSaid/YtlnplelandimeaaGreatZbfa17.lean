import Derived.Test.YtlnplelandimeaaGreatZbfa15
import Derived.Test.YtlnplelandimeaaGreatZbfa16
set_option linter.all false
section
namespace Go.Proofs.YtlnplelandimeaaGreat.En
open Go.RowKit
set_option maxRecDepth 100000
theorem vwrong_x (b : BeamT) : PureX Tryz.prog 114 [.a [I b.1, I b.2]] (B (wrongB b)) := by
  refine PureX.of Tryz.func114 rfl tabOk rfl rfl rfl (by simp [SV.wfs, SV.wf]) (by simp [SV.wfs, SV.wf]) fun w => ?_
  (conv => whnf); repeat' (first | (with_reducible exact rfl) | ((with_reducible refine xif_kt (by with_reducible assumption) ?_); conv => whnf) | ((with_reducible refine xif_kf (by with_reducible assumption) ?_); conv => whnf) | (((with_reducible refine xif_s ?_ ?_) <;> (intro hb; (try simp (disch := omega) only [hbS] at hb))) <;> (conv => whnf)))
  all_goals refine Fin_pure rfl (B_eq ?_) trivial
  all_goals rw [Bool.eq_iff_iff]
  all_goals simp only [wrongB, Bool.or_eq_true, decide_eq_true_eq, true_iff, gt_iff_lt, ge_iff_le]
  all_goals omega
theorem validScan_w (A : Option Addr) (c : Nat) (l : List BeamT) {n : Nat} (hl : l.length = n) (hn : n ≤ maxLen) :
    CallW Tryz.prog 78 [.v (.slice A n c)] (fun w => ArgSl w A n 2 (l.map encB)) (B (scanB l)) := by
  unfold maxLen at hn
  by_cases h : n ≤ 32
  · refine CallW.of Tryz.func78 rfl tabOk rfl rfl rfl (by simp [SV.wfs, SV.wf]) (by simp [SV.wfs, SV.wf]) fun w hpre => ?_
    (conv => whnf); repeat' (first | ((with_reducible refine isC ?_); first | (refine CallX_w (ContainsFuncB_w 114 wrongB vwrong_x A c l hl (by omega)) (hpre.mem (by decide) rfl) ?_; conv => whnf)) | (with_reducible exact rfl) | ((with_reducible refine xif_kt (by with_reducible assumption) ?_); conv => whnf) | ((with_reducible refine xif_kf (by with_reducible assumption) ?_); conv => whnf) | (((with_reducible refine xif_s ?_ ?_) <;> (intro hb; (try simp (disch := omega) only [hbS] at hb))) <;> (conv => whnf)))
    all_goals try (exfalso; omega)
    refine Fin_pure rfl (B_eq ?_) trivial
    have : decide (l.length ≤ 32) = true := by simp; omega
    rw [scanB, this, Bool.true_and]
  · refine CallW.of Tryz.func78 rfl tabOk rfl rfl rfl (by simp [SV.wfs, SV.wf]) (by simp [SV.wfs, SV.wf]) fun w hpre => ?_
    (conv => whnf); repeat' (first | (with_reducible exact rfl) | ((with_reducible refine xif_kt (by with_reducible assumption) ?_); conv => whnf) | ((with_reducible refine xif_kf (by with_reducible assumption) ?_); conv => whnf) | (((with_reducible refine xif_s ?_ ?_) <;> (intro hb; (try simp (disch := omega) only [hbS] at hb))) <;> (conv => whnf)))
    all_goals try (exfalso; omega)
    refine Fin_pure rfl (B_eq ?_) trivial
    have : decide (l.length ≤ 32) = false := by simp; omega
    rw [scanB, this, Bool.false_and]
theorem validId_x (k : Int) : PureX Tryz.prog 79 [I k] (B (vId k)) := by
  refine PureX.of Tryz.func79 rfl tabOk rfl rfl rfl (by simp [SV.wfs, SV.wf]) (by simp [SV.wfs, SV.wf]) fun w => ?_
  (conv => whnf); repeat' (first | (with_reducible exact rfl) | ((with_reducible refine xif_kt (by with_reducible assumption) ?_); conv => whnf) | ((with_reducible refine xif_kf (by with_reducible assumption) ?_); conv => whnf) | (((with_reducible refine xif_s ?_ ?_) <;> (intro hb; (try simp (disch := omega) only [hbS] at hb))) <;> (conv => whnf)))
  all_goals refine Fin_pure rfl (B_eq ?_) trivial
  all_goals first | (simp [vId, hb]; done) | (simp [vId]; omega)
theorem awithin_x (n : Int) : PureX Tryz.prog 139 [I n] (B (szB n 262144)) := by
  refine PureX.of Tryz.func139 rfl tabOk rfl rfl rfl (by simp [SV.wfs, SV.wf]) (by simp [SV.wfs, SV.wf]) fun w => ?_
  (conv => whnf); repeat' (first | (with_reducible exact rfl) | ((with_reducible refine xif_kt (by with_reducible assumption) ?_); conv => whnf) | ((with_reducible refine xif_kf (by with_reducible assumption) ?_); conv => whnf) | (((with_reducible refine xif_s ?_ ?_) <;> (intro hb; (try simp (disch := omega) only [hbS] at hb))) <;> (conv => whnf)))
  all_goals refine Fin_pure rfl (B_eq ?_) trivial
  all_goals first | (simp [szB, hb]; done) | (simp [szB]; omega) | (unfold szB; rw [decide_eq_decide]; omega)
abbrev plX (p : PlT) : SV := .a [I p.1, B p.2.1, I p.2.2.1, I p.2.2.2.1, I p.2.2.2.2]
theorem validPl_x (p : PlT) : PureX Tryz.prog 117 [plX p] (B (vPl p)) := by
  obtain ⟨v, g, x, y, h⟩ := p
  cases g with
  | true =>
    refine PureX.of Tryz.func117 rfl tabOk rfl rfl rfl (by simp [SV.wfs, SV.wf]) (by simp [SV.wfs, SV.wf]) fun w => ?_
    (conv => whnf); repeat' (first | ((with_reducible refine isC ?_); first | ((with_reducible refine CallX_pure (awithin_x _) ?_) <;> first | omega | (with_reducible show (_ : Int) ≤ _) | (with_reducible show (_ : Int) < _) | (with_reducible show (_ : Nat) ≤ _) | (with_reducible show (_ : Nat) < _) | (conv => whnf))) | (with_reducible exact rfl) | ((with_reducible refine xif_kt (by with_reducible assumption) ?_); conv => whnf) | ((with_reducible refine xif_kf (by with_reducible assumption) ?_); conv => whnf) | (((with_reducible refine xif_s ?_ ?_) <;> (intro hb; (try simp (disch := omega) only [hbS] at hb))) <;> (conv => whnf)))
    all_goals refine Fin_pure rfl (B_eq ?_) trivial
    all_goals first | (simp [vPl]; done) | (simp [vPl]; omega) | (unfold vPl; rw [Bool.eq_iff_iff]; simp; omega)
  | false =>
    refine PureX.of Tryz.func117 rfl tabOk rfl rfl rfl (by simp [SV.wfs, SV.wf]) (by simp [SV.wfs, SV.wf]) fun w => ?_
    (conv => whnf); repeat' (first | ((with_reducible refine isC ?_); first | ((with_reducible refine CallX_pure (awithin_x _) ?_) <;> first | omega | (with_reducible show (_ : Int) ≤ _) | (with_reducible show (_ : Int) < _) | (with_reducible show (_ : Nat) ≤ _) | (with_reducible show (_ : Nat) < _) | (conv => whnf))) | (with_reducible exact rfl) | ((with_reducible refine xif_kt (by with_reducible assumption) ?_); conv => whnf) | ((with_reducible refine xif_kf (by with_reducible assumption) ?_); conv => whnf) | (((with_reducible refine xif_s ?_ ?_) <;> (intro hb; (try simp (disch := omega) only [hbS] at hb))) <;> (conv => whnf)))
    all_goals refine Fin_pure rfl (B_eq ?_) trivial
    all_goals first | (simp [vPl, *]; done) | (simp [vPl, *]; omega) | (simp [vPl]; omega)
theorem number_d (b : Bool) : PureD Tryz.prog 140 [B b] (I (if b then 1 else 0)) := by
  cases b with
  | true =>
    refine PureD.of Tryz.func140 rfl tabOk rfl rfl rfl (by simp [SV.wfs, SV.wf]) (by simp [SV.wfs, SV.wf]) fun w => ?_
    (conv => whnf); repeat' (first | (with_reducible exact rfl) | ((with_reducible refine xif_kt (by with_reducible assumption) ?_); conv => whnf) | ((with_reducible refine xif_kf (by with_reducible assumption) ?_); conv => whnf) | (((with_reducible refine xif_s ?_ ?_) <;> (intro hb; (try simp (disch := omega) only [hbS] at hb))) <;> (conv => whnf)))
    exact Fin_d rfl rfl rfl trivial
  | false =>
    refine PureD.of Tryz.func140 rfl tabOk rfl rfl rfl (by simp [SV.wfs, SV.wf]) (by simp [SV.wfs, SV.wf]) fun w => ?_
    (conv => whnf); repeat' (first | (with_reducible exact rfl) | ((with_reducible refine xif_kt (by with_reducible assumption) ?_); conv => whnf) | ((with_reducible refine xif_kf (by with_reducible assumption) ?_); conv => whnf) | (((with_reducible refine xif_s ?_ ?_) <;> (intro hb; (try simp (disch := omega) only [hbS] at hb))) <;> (conv => whnf)))
    exact Fin_d rfl rfl rfl trivial
theorem comparePl_d (p q : PlT) : PureD Tryz.prog 118 [plX p, plX q] (I (lexC (keyP p) (keyP q))) := by
  have e : lexC (keyP p) (keyP q) = orI [cmpI p.1 q.1, cmpI (if p.2.1 then 1 else 0) (if q.2.1 then 1 else 0), cmpI p.2.2.1 q.2.2.1, cmpI p.2.2.2.1 q.2.2.2.1, cmpI p.2.2.2.2 q.2.2.2.2] := rfl
  rw [e]
  refine PureD.of Tryz.func118 rfl tabOk rfl rfl rfl (by simp [SV.wfs, SV.wf]) (by simp [SV.wfs, SV.wf]) fun w => ?_
  (conv => whnf); repeat' (first | ((with_reducible refine isC ?_); first | ((with_reducible refine CallX_d (Compare_d _ _) ?_) <;> first | omega | (with_reducible show (_ : Int) ≤ _) | (with_reducible show (_ : Int) < _) | (with_reducible show (_ : Nat) ≤ _) | (with_reducible show (_ : Nat) < _) | (conv => whnf)) | ((with_reducible refine CallX_d (number_d _) ?_) <;> first | omega | (with_reducible show (_ : Int) ≤ _) | (with_reducible show (_ : Int) < _) | (with_reducible show (_ : Nat) ≤ _) | (with_reducible show (_ : Nat) < _) | (conv => whnf)) | (refine CallX_v (Or_v _ _ [cmpI p.1 q.1, cmpI (if p.2.1 then 1 else 0) (if q.2.1 then 1 else 0), cmpI p.2.2.1 q.2.2.1, cmpI p.2.2.2.1 q.2.2.2.1, cmpI p.2.2.2.2 q.2.2.2.2] rfl (by decide)) (ArgSl.row 2 rfl) ?_; conv => whnf)) | ((with_reducible refine isO ?_); first | ((refine OpX_build0 tabOk rfl rfl rfl ?_); intro bN; conv => whnf) | ((refine OpX_build tabOk rfl rfl rfl rfl rfl ?_); intro bN; conv => whnf)) | ((refine DrawX_s tabOk folOk ?_); conv => whnf) | ((refine DrawS_i (by kernel_rfl) ?_); conv => whnf) | ((with_reducible refine andX_i ?_ ?_) <;> (conv => whnf)) | (with_reducible exact rfl) | ((with_reducible refine xif_kt (by with_reducible assumption) ?_); conv => whnf) | ((with_reducible refine xif_kf (by with_reducible assumption) ?_); conv => whnf) | (((with_reducible refine xif_s ?_ ?_) <;> (intro hb; (try simp (disch := omega) only [hbS] at hb))) <;> (conv => whnf)))
  exact Fin_d rfl rfl rfl trivial
theorem compareB_d (a b : BeamT) : PureD Tryz.prog 116 [.a [I a.1, I a.2], .a [I b.1, I b.2]] (I (orI [cmpI a.1 b.1, cmpI a.2 b.2])) := by
  refine PureD.of Tryz.func116 rfl tabOk rfl rfl rfl (by simp [SV.wfs, SV.wf]) (by simp [SV.wfs, SV.wf]) fun w => ?_
  (conv => whnf); repeat' (first | ((with_reducible refine isC ?_); first | ((with_reducible refine CallX_d (Compare_d _ _) ?_) <;> first | omega | (with_reducible show (_ : Int) ≤ _) | (with_reducible show (_ : Int) < _) | (with_reducible show (_ : Nat) ≤ _) | (with_reducible show (_ : Nat) < _) | (conv => whnf)) | (refine CallX_v (Or_v _ _ [cmpI a.1 b.1, cmpI a.2 b.2] rfl (by decide)) (ArgSl.row 2 rfl) ?_; conv => whnf)) | ((with_reducible refine isO ?_); first | ((refine OpX_build0 tabOk rfl rfl rfl ?_); intro bN; conv => whnf) | ((refine OpX_build tabOk rfl rfl rfl rfl rfl ?_); intro bN; conv => whnf)) | ((refine DrawX_s tabOk folOk ?_); conv => whnf) | ((refine DrawS_i (by kernel_rfl) ?_); conv => whnf) | ((with_reducible refine andX_i ?_ ?_) <;> (conv => whnf)) | (with_reducible exact rfl) | ((with_reducible refine xif_kt (by with_reducible assumption) ?_); conv => whnf) | ((with_reducible refine xif_kf (by with_reducible assumption) ?_); conv => whnf) | (((with_reducible refine xif_s ?_ ?_) <;> (intro hb; (try simp (disch := omega) only [hbS] at hb))) <;> (conv => whnf)))
  exact Fin_d rfl rfl rfl trivial
theorem lexC_cons2 (a b : BeamT) (xs ys : List BeamT) : lexC (flatB (a :: xs)) (flatB (b :: ys)) = if orI [cmpI a.1 b.1, cmpI a.2 b.2] = 0 then lexC (flatB xs) (flatB ys) else orI [cmpI a.1 b.1, cmpI a.2 b.2] := by
  simp only [flatB, lexC, orI]
  by_cases h1 : cmpI a.1 b.1 = 0
  · simp only [h1, if_true]
    by_cases h2 : cmpI a.2 b.2 = 0
    · simp only [h2, if_true]
    · simp only [h2, if_false]
  · simp only [h1, if_false]
set_option maxHeartbeats 1000000 in
theorem CompareFunc_w (A1 A2 : Option Addr) (c1 c2 : Nat) (a b : List BeamT) {n : Nat} (ha : a.length = n) (hb0 : b.length = n) (hn : n ≤ 1000000000) :
    CallW Tryz.prog 115 [.v (.slice A1 n c1), .v (.slice A2 n c2), .v (.func (.func 116) #[] #[])] (fun w => ArgSl w A1 n 2 (a.map encB) ∧ ArgSl w A2 n 2 (b.map encB)) (I (lexC (flatB a) (flatB b))) := by
  refine CallW.of Tryz.func115 rfl tabOk rfl rfl rfl (by simp [SV.wfs, SV.wf]) (by simp [SV.wfs, SV.wf]) fun w hpre => ?_
  obtain ⟨h1, h2⟩ := hpre
  (conv => whnf); repeat' (first | ((with_reducible refine isW ?_); first | ((with_reducible refine xwr_ok (by omega) (by omega) ?_); conv => whnf) | ((with_reducible refine xwr_raw ?_); conv => whnf)) | (with_reducible exact rfl) | ((with_reducible refine xif_kt (by with_reducible assumption) ?_); conv => whnf) | ((with_reducible refine xif_kf (by with_reducible assumption) ?_); conv => whnf) | (((with_reducible refine xif_s ?_ ?_) <;> (intro hb; (try simp (disch := omega) only [hbS] at hb))) <;> (conv => whnf)))
  refine LoopX_inv tabOk (α := Nat) (fun k => k ≤ n ∧ lexC (flatB a) (flatB b) = lexC (flatB (a.drop k)) (flatB (b.drop k))) (fun k => [(0, .v (.slice A1 n c1)), (1, .v (.slice A2 n c2)), (2, .v (.func (.func 116) #[] #[])), (11, .v (.slice A1 n c1)), (12, I n), (13, I k)]) (fun _ => []) (fun k => n - k) 0 [] ⟨Nat.zero_le _, by simp⟩ ?_ ?_
  · ((refine ⟨?_, ?_, ?_, ?_⟩) <;> (repeat' ((conv => whnf); apply And.intro)) <;> (try (first | exact trivial | decide)))
    all_goals first | rfl | exact fun _ _ h => h | simp [SV.wf, SV.wfs]
  · rintro k ⟨hk, hlx⟩
    by_cases hlt : k < n
    · have hc := PureD.pure (compareB_d (a.getD k b0) (b.getD k b0))
      have da : a.drop k = a.getD k b0 :: a.drop (k + 1) := by
        rw [List.drop_eq_getElem_cons (show k < a.length by omega)]
        simp [show k < a.length by omega]
      have db : b.drop k = b.getD k b0 :: b.drop (k + 1) := by
        rw [List.drop_eq_getElem_cons (show k < b.length by omega)]
        simp [show k < b.length by omega]
      rw [da, db, lexC_cons2] at hlx
      generalize hO : orI [cmpI (a.getD k b0).1 (b.getD k b0).1, cmpI (a.getD k b0).2 (b.getD k b0).2] = O at *
      (conv => whnf); repeat' (first | ((with_reducible refine isC ?_); first | ((with_reducible refine CallX_pure (hc) ?_) <;> first | omega | (with_reducible show (_ : Int) ≤ _) | (with_reducible show (_ : Int) < _) | (with_reducible show (_ : Nat) ≤ _) | (with_reducible show (_ : Nat) < _) | (conv => whnf))) | ((with_reducible refine isV ?_); first | ((refine ValX_index tabOk rfl (h1.mem (by decide) rfl) rfl ?_ ?_ ?_) <;> first | omega | (with_reducible show (_ : Int) ≤ _) | (with_reducible show (_ : Int) < _) | (with_reducible show (_ : Nat) ≤ _) | (with_reducible show (_ : Nat) < _) | (conv => whnf)) | ((with_reducible refine nat_idx ?_); (refine ValX_loadEn _ _ (b0) tabOk rfl rfl rfl rfl (h1.mem (by decide) rfl) ?_ ?_ ?_) <;> first | rfl | omega | (with_reducible show (_ : Int) ≤ _) | (with_reducible show (_ : Int) < _) | (with_reducible show (_ : Nat) ≤ _) | (with_reducible show (_ : Nat) < _) | (conv => whnf)) | ((refine ValX_loadE _ _ (b0) tabOk rfl rfl rfl rfl (h1.mem (by decide) rfl) ?_ ?_ ?_) <;> first | rfl | omega | (with_reducible show (_ : Int) ≤ _) | (with_reducible show (_ : Int) < _) | (with_reducible show (_ : Nat) ≤ _) | (with_reducible show (_ : Nat) < _) | (conv => whnf)) | ((refine ValX_index tabOk rfl (h2.mem (by decide) rfl) rfl ?_ ?_ ?_) <;> first | omega | (with_reducible show (_ : Int) ≤ _) | (with_reducible show (_ : Int) < _) | (with_reducible show (_ : Nat) ≤ _) | (with_reducible show (_ : Nat) < _) | (conv => whnf)) | ((with_reducible refine nat_idx ?_); (refine ValX_loadEn _ _ (b0) tabOk rfl rfl rfl rfl (h2.mem (by decide) rfl) ?_ ?_ ?_) <;> first | rfl | omega | (with_reducible show (_ : Int) ≤ _) | (with_reducible show (_ : Int) < _) | (with_reducible show (_ : Nat) ≤ _) | (with_reducible show (_ : Nat) < _) | (conv => whnf)) | ((refine ValX_loadE _ _ (b0) tabOk rfl rfl rfl rfl (h2.mem (by decide) rfl) ?_ ?_ ?_) <;> first | rfl | omega | (with_reducible show (_ : Int) ≤ _) | (with_reducible show (_ : Int) < _) | (with_reducible show (_ : Nat) ≤ _) | (with_reducible show (_ : Nat) < _) | (conv => whnf))) | ((with_reducible refine isW ?_); first | ((with_reducible refine xwr_ok (by omega) (by omega) ?_); conv => whnf) | ((with_reducible refine xwr_raw ?_); conv => whnf)) | (with_reducible exact rfl) | ((with_reducible refine xif_kt (by with_reducible assumption) ?_); conv => whnf) | ((with_reducible refine xif_kf (by with_reducible assumption) ?_); conv => whnf) | (((with_reducible refine xif_s ?_ ?_) <;> (intro hb; (try simp (disch := omega) only [hbS] at hb))) <;> (conv => whnf)))
      all_goals try (exfalso; omega)
      · rw [if_neg hb] at hlx
        rw [hlx]
        exact Fin_pure rfl rfl trivial
      · rw [if_pos hb] at hlx
        refine ⟨k + 1, [], ⟨by omega, hlx⟩, ?_, by (try dsimp only); omega⟩
        ((refine ⟨?_, ?_, ?_, ?_⟩) <;> (repeat' ((conv => whnf); apply And.intro)) <;> (try (first | exact trivial | decide)))
        all_goals first | rfl | exact fun _ _ h => h | (simp [SV.wf, SV.wfs]; done) | trace_state
    · obtain rfl : k = n := by omega
      rw [List.drop_of_length_le (by omega), List.drop_of_length_le (by omega)] at hlx
      (conv => whnf); repeat' (first | ((with_reducible refine isW ?_); first | ((with_reducible refine xwr_ok (by omega) (by omega) ?_); conv => whnf) | ((with_reducible refine xwr_raw ?_); conv => whnf)) | (with_reducible exact rfl) | ((with_reducible refine xif_kt (by with_reducible assumption) ?_); conv => whnf) | ((with_reducible refine xif_kf (by with_reducible assumption) ?_); conv => whnf) | (((with_reducible refine xif_s ?_ ?_) <;> (intro hb; (try simp (disch := omega) only [hbS] at hb))) <;> (conv => whnf)))
      all_goals try (exfalso; omega)
      rw [hlx]
      exact Fin_pure rfl rfl trivial
theorem compareScans_w (A1 A2 : Option Addr) (c1 c2 : Nat) (a b : List BeamT) {n m : Nat} (ha : a.length = n) (hb0 : b.length = m) (hn : n ≤ 1000000000) (hm : m ≤ 1000000000) :
    CallW Tryz.prog 80 [.v (.slice A1 n c1), .v (.slice A2 m c2)] (fun w => ArgSl w A1 n 2 (a.map encB) ∧ ArgSl w A2 m 2 (b.map encB)) (I (lexC (keyS a) (keyS b))) := by
  have e : lexC (keyS a) (keyS b) = if cmpI n m = 0 then lexC (flatB a) (flatB b) else cmpI n m := by
    rw [← ha, ← hb0]
    rfl
  rw [e]
  have k1 := PureD.pure (Compare_d (n : Int) (m : Int))
  by_cases h : n = m
  · subst h
    rw [cmpI_zero.2 rfl] at k1 ⊢
    rw [if_pos rfl]
    refine CallW.of Tryz.func80 rfl tabOk rfl rfl rfl (by simp [SV.wfs, SV.wf]) (by simp [SV.wfs, SV.wf]) fun w hpre => ?_
    (conv => whnf); repeat' (first | ((with_reducible refine isC ?_); first | ((with_reducible refine CallX_pure (k1) ?_) <;> first | omega | (with_reducible show (_ : Int) ≤ _) | (with_reducible show (_ : Int) < _) | (with_reducible show (_ : Nat) ≤ _) | (with_reducible show (_ : Nat) < _) | (conv => whnf)) | (refine CallX_w (CompareFunc_w A1 A2 c1 c2 a b ha hb0 hn) (fun σ fp w hm => ⟨hpre.1.mem (by decide) rfl σ fp w hm, hpre.2.mem (by decide) rfl σ fp w hm⟩) ?_; conv => whnf)) | (with_reducible exact rfl) | ((with_reducible refine xif_kt (by with_reducible assumption) ?_); conv => whnf) | ((with_reducible refine xif_kf (by with_reducible assumption) ?_); conv => whnf) | (((with_reducible refine xif_s ?_ ?_) <;> (intro hb; (try simp (disch := omega) only [hbS] at hb))) <;> (conv => whnf)))
    exact Fin_pure rfl rfl trivial
  · have hne : cmpI (n : Int) (m : Int) ≠ 0 := fun hc => h (by have := cmpI_zero.1 hc; omega)
    rw [if_neg hne]
    generalize cmpI (n : Int) (m : Int) = O at *
    refine CallW.of Tryz.func80 rfl tabOk rfl rfl rfl (by simp [SV.wfs, SV.wf]) (by simp [SV.wfs, SV.wf]) fun w hpre => ?_
    (conv => whnf); repeat' (first | ((with_reducible refine isC ?_); first | ((with_reducible refine CallX_pure (k1) ?_) <;> first | omega | (with_reducible show (_ : Int) ≤ _) | (with_reducible show (_ : Int) < _) | (with_reducible show (_ : Nat) ≤ _) | (with_reducible show (_ : Nat) < _) | (conv => whnf))) | (with_reducible exact rfl) | ((with_reducible refine xif_kt (by with_reducible assumption) ?_); conv => whnf) | ((with_reducible refine xif_kf (by with_reducible assumption) ?_); conv => whnf) | (((with_reducible refine xif_s ?_ ?_) <;> (intro hb; (try simp (disch := omega) only [hbS] at hb))) <;> (conv => whnf)))
    all_goals try (exfalso; omega)
    exact Fin_pure rfl rfl trivial
end Go.Proofs.YtlnplelandimeaaGreat.En
end
