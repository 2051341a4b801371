import Derived.Test.YtlnplelandimeaaGreatZFleetFrames18
import Derived.Test.YtlnplelandimeaaGreatZFleetFrames09
import Derived.Test.YtlnplelandimeaaGreatZFleetFrames17
set_option linter.all false
section
namespace Go.Proofs.YtlnplelandimeaaGreat.En
open Go.RowKit
set_option maxRecDepth 100000
theorem clip_cmp (a b : Int) : clipI (a - b) (-1) 1 = cmpI a b := by
  unfold clipI cmpI
  repeat' split
  all_goals omega
theorem order_d (a b : Int) (ha : -4611686018427387904 ≤ a ∧ a ≤ 4611686018427387904) (hb0 : -4611686018427387904 < b ∧ b ≤ 4611686018427387904) : PureD Tryz.prog 142 [I a, I b] (I (cmpI a b)) := by
  have hc : PureD Tryz.prog 171 [I (a - b), I (-1), I 1] (I (cmpI a b)) := by
    rw [← clip_cmp]
    refine PureD.of Tryz.func171 rfl tabOk rfl rfl rfl (by simp [SV.wfs, SV.wf]) (by simp [SV.wfs, SV.wf]) fun w => ?_
    (conv=>whnf);repeat' (first|with_reducible exact rfl|((with_reducible first|refine xif_kt (by assumption) ?_|refine xif_kf (by assumption) ?_);conv=>whnf)|((with_reducible refine xif_s ?_ ?_)<;>(intro hb;(try simp (disch:=omega) only [hbS] at hb)<;>conv=>whnf)))
    exact Fin_d rfl rfl rfl trivial
  refine PureD.of Tryz.func142 rfl tabOk rfl rfl rfl (by simp [SV.wfs, SV.wf]) (by simp [SV.wfs, SV.wf]) fun w => ?_
  (conv=>whnf);repeat' (first|((with_reducible refine isC ?_);first|((with_reducible refine CallX_d (hc) ?_)<;>first|omega|with_reducible refine isP ?_|conv=>whnf))|((with_reducible refine isW ?_;first|refine xwr_ok (by omega) (by omega) ?_|refine xwr_raw ?_);conv=>whnf)|with_reducible exact rfl|((with_reducible first|refine xif_kt (by assumption) ?_|refine xif_kf (by assumption) ?_);conv=>whnf)|((with_reducible refine xif_s ?_ ?_)<;>(intro hb;(try simp (disch:=omega) only [hbS] at hb)<;>conv=>whnf)))
  exact Fin_d rfl rfl rfl trivial
theorem gone_d (p : PlT) : PureD Tryz.prog 145 [plX p] (I (if p.2.1 then 1 else 0)) := by
  obtain ⟨v, g, x, y, h⟩ := p
  cases g with
  | true =>
    refine PureD.of Tryz.func145 rfl tabOk rfl rfl rfl (by simp [SV.wfs, SV.wf]) (by simp [SV.wfs, SV.wf]) fun w => ?_
    (conv=>whnf);repeat' (first|with_reducible exact rfl|((with_reducible first|refine xif_kt (by assumption) ?_|refine xif_kf (by assumption) ?_);conv=>whnf)|((with_reducible refine xif_s ?_ ?_)<;>(intro hb;(try simp (disch:=omega) only [hbS] at hb)<;>conv=>whnf)))
    exact Fin_d rfl rfl rfl trivial
  | false =>
    refine PureD.of Tryz.func145 rfl tabOk rfl rfl rfl (by simp [SV.wfs, SV.wf]) (by simp [SV.wfs, SV.wf]) fun w => ?_
    (conv=>whnf);repeat' (first|with_reducible exact rfl|((with_reducible first|refine xif_kt (by assumption) ?_|refine xif_kf (by assumption) ?_);conv=>whnf)|((with_reducible refine xif_s ?_ ?_)<;>(intro hb;(try simp (disch:=omega) only [hbS] at hb)<;>conv=>whnf)))
    exact Fin_d rfl rfl rfl trivial
theorem first_v (A : Option Addr) (c : Nat) (xs : List Int) {n : Nat} (hx : xs.length = n) (hn : n ≤ 1000000) :
    CallV Tryz.prog 143 [.v (.slice A n c)] (fun w => ArgSl w A n 1 (xs.map fun x => [encI x])) (I (orI xs)) := by
  refine CallV.of Tryz.func143 rfl tabOk rfl rfl rfl (by simp [SV.wfs, SV.wf]) (by simp [SV.wfs, SV.wf]) fun w hpre => ?_
  (conv=>whnf);repeat' (first|((with_reducible refine isW ?_;first|refine xwr_ok (by omega) (by omega) ?_|refine xwr_raw ?_);conv=>whnf)|with_reducible exact rfl|((with_reducible first|refine xif_kt (by assumption) ?_|refine xif_kf (by assumption) ?_);conv=>whnf)|((with_reducible refine xif_s ?_ ?_)<;>(intro hb;(try simp (disch:=omega) only [hbS] at hb)<;>conv=>whnf)))
  refine LoopX_inv tabOk (α := Nat) (fun k => k ≤ n ∧ ∀ i, i < k → xs.getD i 0 = 0) (fun k => [(0, .v (.slice A n c)), (3, I k)]) (fun _ => []) (fun k => n - k) 0 [] ⟨Nat.zero_le _, fun i hi => by omega⟩ ?_ ?_
  · ((refine ⟨?_, ?_, ?_, ?_⟩) <;> (repeat' ((conv => whnf); apply And.intro)) <;> (try (first | exact trivial | decide)))
    all_goals first | rfl | exact fun _ _ h => h | simp [SV.wf, SV.wfs]
  · rintro k ⟨hk, hz⟩
    (conv=>whnf);repeat' (first|((with_reducible refine isV ?_);first|((first|refine ValX_index tabOk rfl (hpre.mem (by decide) rfl) rfl ?_ ?_ ?_|(with_reducible refine nat_idx ?_);refine ValX_load1n _ _ (0) tabOk rfl rfl rfl (hpre.mem (by decide) rfl) ?_ ?_ ?_|refine ValX_load1 _ _ (0) tabOk rfl rfl rfl (hpre.mem (by decide) rfl) ?_ ?_ ?_)<;>first|rfl|omega|with_reducible refine isP ?_|conv=>whnf))|((with_reducible refine isW ?_;first|refine xwr_ok (by omega) (by omega) ?_|refine xwr_raw ?_);conv=>whnf)|with_reducible exact rfl|((with_reducible first|refine xif_kt (by assumption) ?_|refine xif_kf (by assumption) ?_);conv=>whnf)|((with_reducible refine xif_s ?_ ?_)<;>(intro hb;(try simp (disch:=omega) only [hbS] at hb)<;>conv=>whnf)))
    · refine Fin_d rfl rfl ?_ trivial
      exact I_eq (orI_at (by omega) hz hb).symm
    · refine ⟨k + 1, [], ⟨by omega, fun i hi => ?_⟩, ?_, by (try dsimp only); omega⟩
      · by_cases e : i = k
        · rw [e]; exact hb
        · exact hz i (by omega)
      · ((refine ⟨?_, ?_, ?_, ?_⟩) <;> (repeat' ((conv => whnf); apply And.intro)) <;> (try (first | exact trivial | decide)))
        all_goals first | rfl | exact fun _ _ h => h | simp [SV.wf, SV.wfs]
    · refine Fin_d rfl rfl ?_ trivial
      refine I_eq ?_
      rw [orI_zero (k := k) (by omega) hz, List.drop_eq_nil_of_le (by omega)]
      rfl
def smP (p : PlT) : Prop := (-1099511627776 ≤ p.1 ∧ p.1 ≤ 1099511627776) ∧ (-1099511627776 ≤ p.2.2.1 ∧ p.2.2.1 ≤ 1099511627776) ∧ (-1099511627776 ≤ p.2.2.2.1 ∧ p.2.2.2.1 ≤ 1099511627776) ∧ (-1099511627776 ≤ p.2.2.2.2 ∧ p.2.2.2.2 ≤ 1099511627776)
theorem vPl_sm {p : PlT} (h : vPl p = true) : smP p := by
  unfold vPl at h
  unfold smP
  simp only [Bool.and_eq_true, decide_eq_true_eq] at h
  obtain ⟨⟨h1, h2⟩, h3⟩ := h
  cases hg : p.2.1 with
  | true =>
    rw [hg] at h3
    simp only [if_true, Bool.and_eq_true, decide_eq_true_eq] at h3
    omega
  | false =>
    rw [hg] at h3
    simp only [Bool.false_eq_true, if_false, szB, Bool.and_eq_true, decide_eq_true_eq] at h3
    omega
theorem smP0 : smP (0, false, 0, 0, 0) := by
  unfold smP
  decide
theorem rLater_d (p q : PlT) (hp : smP p) (hq : smP q) : PureD Tryz.prog 122 [plX p, plX q] (I (lexC (keyP p) (keyP q))) := by
  have e : lexC (keyP p) (keyP q) = orI [cmpI p.1 q.1, cmpI (if p.2.1 then 1 else 0) (if q.2.1 then 1 else 0), cmpI p.2.2.1 q.2.2.1, cmpI p.2.2.2.1 q.2.2.2.1, cmpI p.2.2.2.2 q.2.2.2.2] := rfl
  rw [e]
  unfold smP at hp hq
  have o1 := order_d p.1 q.1 (by omega) (by omega)
  have o2 := order_d (if p.2.1 then 1 else 0) (if q.2.1 then 1 else 0) (by cases p.2.1 <;> simp) (by cases q.2.1 <;> simp)
  have o3 := order_d p.2.2.1 q.2.2.1 (by omega) (by omega)
  have o4 := order_d p.2.2.2.1 q.2.2.2.1 (by omega) (by omega)
  have o5 := order_d p.2.2.2.2 q.2.2.2.2 (by omega) (by omega)
  refine PureD.of Tryz.func122 rfl tabOk rfl rfl rfl (by simp [SV.wfs, SV.wf]) (by simp [SV.wfs, SV.wf]) fun w => ?_
  (conv=>whnf);repeat' (first|((with_reducible refine isC ?_);first|((first|with_reducible refine CallX_d (o1) ?_|with_reducible refine CallX_d (o2) ?_|with_reducible refine CallX_d (o3) ?_|with_reducible refine CallX_d (o4) ?_|with_reducible refine CallX_d (o5) ?_|with_reducible refine CallX_d (gone_d _) ?_)<;>first|omega|with_reducible refine isP ?_|conv=>whnf)|(((with_reducible refine isF 143 ?_);(refine CallX_v (first_v _ _ [cmpI p.1 q.1, cmpI (if p.2.1 then 1 else 0) (if q.2.1 then 1 else 0), cmpI p.2.2.1 q.2.2.1, cmpI p.2.2.2.1 q.2.2.2.1, cmpI p.2.2.2.2 q.2.2.2.2] rfl (by decide)) (ArgSl.row 2 rfl) ?_));conv=>whnf))|((with_reducible refine isO ?_);first|((first|(refine OpX_build0 tabOk rfl rfl rfl ?_);intro bN|(refine OpX_build tabOk rfl rfl rfl rfl rfl ?_);intro bN);conv=>whnf))|((first|refine DrawX_s tabOk folOk ?_|refine DrawS_i (by kernel_rfl) ?_|with_reducible refine andX_i ?_ ?_)<;>conv=>whnf)|with_reducible exact rfl|((with_reducible first|refine xif_kt (by assumption) ?_|refine xif_kf (by assumption) ?_);conv=>whnf)|((with_reducible refine xif_s ?_ ?_)<;>(intro hb;(try simp (disch:=omega) only [hbS] at hb)<;>conv=>whnf)))
  exact Fin_d rfl rfl rfl trivial
theorem bPose17_x (p : Int × Int × Int) : PureX Tryz.prog 144 [.a [I p.1, I p.2.1, I p.2.2]] (B (szB p.1 1048576 && szB p.2.1 1048576 && decide (0 ≤ p.2.2) && decide (p.2.2 < 256))) := by
  refine PureX.of Tryz.func144 rfl tabOk rfl rfl rfl (by simp [SV.wfs, SV.wf]) (by simp [SV.wfs, SV.wf]) fun w => ?_
  (conv=>whnf);repeat' (first|((with_reducible refine isC ?_);first|((with_reducible refine CallX_pure (Size_x _ _ ?_ ?_) ?_)<;>first|omega|with_reducible refine isP ?_|conv=>whnf))|with_reducible exact rfl|((with_reducible first|refine xif_kt (by assumption) ?_|refine xif_kf (by assumption) ?_);conv=>whnf)|((with_reducible refine xif_s ?_ ?_)<;>(intro hb;(try simp (disch:=omega) only [hbS] at hb)<;>conv=>whnf)))
  all_goals refine Fin_pure rfl (B_eq ?_) trivial
  all_goals first | (simp [*]; done) | (simp [*]; omega)
theorem rPlacement_x (p : PlT) : PureX Tryz.prog 121 [plX p] (B (vPl p)) := by
  obtain ⟨v, g, x, y, h⟩ := p
  cases g with
  | true =>
    refine PureX.of Tryz.func121 rfl tabOk rfl rfl rfl (by simp [SV.wfs, SV.wf]) (by simp [SV.wfs, SV.wf]) fun w => ?_
    (conv=>whnf);repeat' (first|with_reducible exact rfl|((with_reducible first|refine xif_kt (by assumption) ?_|refine xif_kf (by assumption) ?_);conv=>whnf)|((with_reducible refine xif_s ?_ ?_)<;>(intro hb;(try simp (disch:=omega) only [hbS] at hb)<;>conv=>whnf)))
    all_goals refine Fin_pure rfl (B_eq ?_) trivial
    all_goals first | (simp [vPl]; done) | (simp [vPl]; omega) | (unfold vPl; rw [Bool.eq_iff_iff]; simp; omega)
  | false =>
    have hx : (szB x 1048576 && szB y 1048576 && decide (0 ≤ h) && decide (h < 256) && szB x 262144 && szB y 262144) = (szB x 262144 && szB y 262144 && decide (0 ≤ h) && decide (h < 256)) := by
      rw [Bool.eq_iff_iff]
      simp only [szB, Bool.and_eq_true, decide_eq_true_eq]
      omega
    have kp := bPose17_x (x, y, h)
    dsimp only at kp
    have hv : vPl (v, false, x, y, h) = (decide (1 ≤ v) && decide (v ≤ 1073741824) && (szB x 1048576 && szB y 1048576 && decide (0 ≤ h) && decide (h < 256) && szB x 262144 && szB y 262144)) := by
      rw [hx]
      rfl
    rw [hv]
    clear hv hx
    generalize (szB x 1048576 && szB y 1048576 && decide (0 ≤ h) && decide (h < 256)) = b at *
    refine PureX.of Tryz.func121 rfl tabOk rfl rfl rfl (by simp [SV.wfs, SV.wf]) (by simp [SV.wfs, SV.wf]) fun w => ?_
    (conv=>whnf);repeat' (first|((with_reducible refine isC ?_);first|((first|with_reducible refine CallX_pure (Size_x _ _ ?_ ?_) ?_|with_reducible refine CallX_pure (kp) ?_)<;>first|omega|with_reducible refine isP ?_|conv=>whnf))|with_reducible exact rfl|((with_reducible first|refine xif_kt (by assumption) ?_|refine xif_kf (by assumption) ?_);conv=>whnf)|((with_reducible refine xif_s ?_ ?_)<;>(intro hb;(try simp (disch:=omega) only [hbS] at hb)<;>conv=>whnf)))
    all_goals refine Fin_pure rfl (B_eq ?_) trivial
    all_goals first | (simp [*]; done) | (simp [*]; omega) | (simp; omega) | trace_state
end Go.Proofs.YtlnplelandimeaaGreat.En
end
section
namespace Go.Proofs.YtlnplelandimeaaGreat.En
open Go.RowKit
set_option maxRecDepth 100000
theorem bBeam_x (b : BeamT) : PureX Tryz.prog 141 [.a [I b.1, I b.2]] (B (!wrongB b)) := by
  refine PureX.of Tryz.func141 rfl tabOk rfl rfl rfl (by simp [SV.wfs, SV.wf]) (by simp [SV.wfs, SV.wf]) fun w => ?_
  (conv=>whnf);repeat' (first|with_reducible exact rfl|((with_reducible first|refine xif_kt (by assumption) ?_|refine xif_kf (by assumption) ?_);conv=>whnf)|((with_reducible refine xif_s ?_ ?_)<;>(intro hb;(try simp (disch:=omega) only [hbS] at hb)<;>conv=>whnf)))
  all_goals refine Fin_pure rfl (B_eq ?_) trivial
  all_goals first
    | (simp [wrongB, hb]; done)
    | (rw [Bool.eq_iff_iff]; simp [wrongB]; omega)
theorem bScan_w (A : Option Addr) (c : Nat) (l : List BeamT) {n : Nat} (hl : l.length = n) (hn : n ≤ maxLen) :
    CallW Tryz.prog 119 [.v (.slice A n c)] (fun w => ArgSl w A n 2 (l.map encB)) (B (scanB l)) := by
  unfold maxLen at hn
  refine CallW.of Tryz.func119 rfl tabOk rfl rfl rfl (by simp [SV.wfs, SV.wf]) (by simp [SV.wfs, SV.wf]) fun w hpre => ?_
  (conv=>whnf);repeat' (first|((with_reducible refine isW ?_;first|refine xwr_ok (by omega) (by omega) ?_|refine xwr_raw ?_);conv=>whnf)|with_reducible exact rfl|((with_reducible first|refine xif_kt (by assumption) ?_|refine xif_kf (by assumption) ?_);conv=>whnf)|((with_reducible refine xif_s ?_ ?_)<;>(intro hb;(try simp (disch:=omega) only [hbS] at hb)<;>conv=>whnf)))
  · refine Fin_pure rfl (B_eq ?_) trivial
    unfold scanB
    rw [decide_eq_false (by omega)]
    rfl
  · refine LoopX_inv tabOk (α := Nat) (fun k => k ≤ n ∧ ∀ j, j < k → wrongB (l.getD j b0) = false) (fun k => [(0, .v (.slice A n c)), (3, I k)]) (fun _ => []) (fun k => n - k) 0 [] ⟨Nat.zero_le _, fun i hi => by omega⟩ ?_ ?_
    · ((refine ⟨?_, ?_, ?_, ?_⟩) <;> (repeat' ((conv => whnf); apply And.intro)) <;> (try (first | exact trivial | decide)))
      all_goals first | rfl | exact fun _ _ h => h | simp [SV.wf, SV.wfs]
    · rintro k ⟨hk, hall⟩
      by_cases hlt : k < n
      · have hx := bBeam_x (l.getD k b0)
        cases hw : wrongB (l.getD k b0) with
        | true =>
          rw [hw] at hx
          (conv=>whnf);repeat' (first|((with_reducible refine isC ?_);first|((with_reducible refine CallX_pure (hx) ?_)<;>first|omega|with_reducible refine isP ?_|conv=>whnf))|((with_reducible refine isV ?_);first|((first|refine ValX_index tabOk rfl (hpre.mem (by decide) rfl) rfl ?_ ?_ ?_|(with_reducible refine nat_idx ?_);refine ValX_loadEn _ _ (b0) tabOk rfl rfl rfl rfl (hpre.mem (by decide) rfl) ?_ ?_ ?_|refine ValX_loadE _ _ (b0) tabOk rfl rfl rfl rfl (hpre.mem (by decide) rfl) ?_ ?_ ?_)<;>first|rfl|omega|with_reducible refine isP ?_|conv=>whnf))|((with_reducible refine isW ?_;first|refine xwr_ok (by omega) (by omega) ?_|refine xwr_raw ?_);conv=>whnf)|with_reducible exact rfl|((with_reducible first|refine xif_kt (by assumption) ?_|refine xif_kf (by assumption) ?_);conv=>whnf)|((with_reducible refine xif_s ?_ ?_)<;>(intro hb;(try simp (disch:=omega) only [hbS] at hb)<;>conv=>whnf)))
          all_goals try (exfalso; omega)
          refine Fin_pure rfl (B_eq ?_) trivial
          have hany : l.any wrongB = true := List.any_eq_true.2 ⟨l.getD k b0, by simp [hl, hlt], hw⟩
          unfold scanB
          rw [hany]
          simp
        | false =>
          rw [hw] at hx
          (conv=>whnf);repeat' (first|((with_reducible refine isC ?_);first|((with_reducible refine CallX_pure (hx) ?_)<;>first|omega|with_reducible refine isP ?_|conv=>whnf))|((with_reducible refine isV ?_);first|((first|refine ValX_index tabOk rfl (hpre.mem (by decide) rfl) rfl ?_ ?_ ?_|(with_reducible refine nat_idx ?_);refine ValX_loadEn _ _ (b0) tabOk rfl rfl rfl rfl (hpre.mem (by decide) rfl) ?_ ?_ ?_|refine ValX_loadE _ _ (b0) tabOk rfl rfl rfl rfl (hpre.mem (by decide) rfl) ?_ ?_ ?_)<;>first|rfl|omega|with_reducible refine isP ?_|conv=>whnf))|((with_reducible refine isW ?_;first|refine xwr_ok (by omega) (by omega) ?_|refine xwr_raw ?_);conv=>whnf)|with_reducible exact rfl|((with_reducible first|refine xif_kt (by assumption) ?_|refine xif_kf (by assumption) ?_);conv=>whnf)|((with_reducible refine xif_s ?_ ?_)<;>(intro hb;(try simp (disch:=omega) only [hbS] at hb)<;>conv=>whnf)))
          all_goals try (exfalso; omega)
          refine ⟨k + 1, [], ⟨by omega, fun j hj => ?_⟩, ?_, by (try dsimp only); omega⟩
          · by_cases hjk : j = k
            · rw [hjk]; exact hw
            · exact hall j (by omega)
          · ((refine ⟨?_, ?_, ?_, ?_⟩) <;> (repeat' ((conv => whnf); apply And.intro)) <;> (try (first | exact trivial | decide)))
            all_goals first | rfl | exact fun _ _ h => h | (simp [SV.wf, SV.wfs]; done) | trace_state
      · obtain rfl : k = n := by omega
        (conv=>whnf);repeat' (first|((with_reducible refine isW ?_;first|refine xwr_ok (by omega) (by omega) ?_|refine xwr_raw ?_);conv=>whnf)|with_reducible exact rfl|((with_reducible first|refine xif_kt (by assumption) ?_|refine xif_kf (by assumption) ?_);conv=>whnf)|((with_reducible refine xif_s ?_ ?_)<;>(intro hb;(try simp (disch:=omega) only [hbS] at hb)<;>conv=>whnf)))
        all_goals try (exfalso; omega)
        refine Fin_pure rfl (B_eq ?_) trivial
        have hany : l.any wrongB = false := by
          rw [List.any_eq_false]
          intro b hbm
          obtain ⟨i, hi, rfl⟩ := List.getElem_of_mem hbm
          have := hall i (by omega)
          simp only [List.getD_eq_getElem?_getD, List.getElem?_eq_getElem hi, Option.getD_some] at this
          rw [this]
          simp
        unfold scanB
        rw [hany, decide_eq_true (by omega)]
        rfl
end Go.Proofs.YtlnplelandimeaaGreat.En
end
