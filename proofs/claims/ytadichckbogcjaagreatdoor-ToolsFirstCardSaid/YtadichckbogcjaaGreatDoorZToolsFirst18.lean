import Derived.Test.YtadichckbogcjaaGreatDoorZToolsFirst17
import Derived.Test.YtadichckbogcjaaGreatDoorZToolsFirst14
import Derived.Test.YtadichckbogcjaaGreatDoorZToolsFirst10
import Derived.Test.YtadichckbogcjaaGreatDoorZToolsFirst16
import Derived.Test.YtadichckbogcjaaGreatDoorZToolsFirst13
set_option linter.all false
section
namespace Go.Proofs.YtadichckbogcjaaGreatDoor.En
open Go.RowKit
set_option maxRecDepth 100000
def getF (l : List EntT) (c : CellT) : EntT := (l.find? fun e => decide (e.cell = c)).getD (c.1, c.2, 0, 0)
theorem find_skip (p : EntT → Bool) (l : List EntT) : ∀ k, k ≤ l.length → (∀ j, j < k → p (l.getD j e0) = false) → l.find? p = (l.drop k).find? p
  | 0, _, _ => by simp
  | k + 1, hk, h => by
    rw [find_skip p l k (by omega) (fun j hj => h j (by omega)), List.drop_eq_getElem_cons (show k < l.length by omega), List.find?_cons]
    have := h k (by omega)
    simp only [List.getD_eq_getElem?_getD, List.getElem?_eq_getElem (show k < l.length by omega), Option.getD_some] at this
    rw [this]
theorem getF_at {l : List EntT} {c : CellT} {k : Nat} (hk : k < l.length) (hc : (l.getD k e0).cell = c) (h : ∀ j, j < k → (l.getD j e0).cell ≠ c) : getF l c = l.getD k e0 := by
  unfold getF
  rw [find_skip _ l k (by omega) (fun j hj => by simp only [h j hj, decide_false]), List.drop_eq_getElem_cons hk, List.find?_cons]
  have e : l.getD k e0 = l[k] := by simp [hk]
  rw [e] at hc ⊢
  simp [hc]
theorem getF_no {l : List EntT} {c : CellT} (h : ∀ j, j < l.length → (l.getD j e0).cell ≠ c) : getF l c = (c.1, c.2, 0, 0) := by
  unfold getF
  rw [find_skip _ l l.length (Nat.le_refl _) (fun j hj => by simp only [h j hj, decide_false])]
  simp
theorem getF_mem (l : List EntT) (c : CellT) : getF l c ∈ l ∧ (getF l c).cell = c ∨ getF l c = (c.1, c.2, 0, 0) ∧ ∀ e ∈ l, e.cell ≠ c := by
  unfold getF
  cases h : l.find? fun e => decide (e.cell = c) with
  | none =>
    rw [List.find?_eq_none] at h
    exact .inr ⟨rfl, fun e he => by simpa using h e he⟩
  | some x =>
    have h1 := List.find?_some h
    exact .inl ⟨List.mem_of_find?_eq_some h, by simpa using h1⟩
theorem atE_eq {l : List EntT} (c : CellT) : atE l c = if vE l then getF l c else (c.1, c.2, 0, 0) := by
  cases h : vE l with
  | false => rw [if_neg (by simp), at_bad h]
  | true =>
    rw [if_pos rfl]
    rcases getF_mem l c with ⟨h1, h2⟩ | ⟨h1, h2⟩
    · rw [← h2, at_mem h h1, h2]
    · rw [at_none h2, h1]
theorem find_w (A : Option Addr) (c : Nat) (l : List EntT) (x : CellT) {n : Nat} (hl : l.length = n) (hn : n ≤ maxLen) :
    CallW Tryz.prog 33 [.v (.slice A n c), .a [I x.1, I x.2]] (fun w => ArgSl w A n 4 (l.map encE)) (.a [I (getF l x).1, I (getF l x).2.1, I (getF l x).2.2.1, I (getF l x).2.2.2]) := by
  unfold maxLen at hn
  refine CallW.of Tryz.func33 rfl tabOk rfl rfl rfl (by simp [SV.wfs, SV.wf]) (by simp [SV.wfs, SV.wf]) fun w hpre => ?_
  (conv=>whnf);repeat' (first|((with_reducible refine isW ?_;first|refine xwr_ok (by omega) (by omega) ?_|refine xwr_raw ?_);conv=>whnf)|((first|refine DrawX_s tabOk folOk ?_|refine DrawS_i (by kernel_rfl) ?_|with_reducible refine andX_i ?_ ?_)<;>conv=>whnf)|with_reducible exact rfl|((with_reducible first|refine xif_kt (by assumption) ?_|refine xif_kf (by assumption) ?_);conv=>whnf)|((with_reducible refine xif_s ?_ ?_)<;>(intro hb;(try simp (disch:=omega) only [hbS] at hb)<;>conv=>whnf)))
  refine LoopX_inv tabOk (α := Nat) (fun k => k ≤ n ∧ ∀ j, j < k → (l.getD j e0).cell ≠ x) (fun k => [(5, I k), (0, .v (.slice A n c)), (3, .p 0 0), (4, .p 1 0)]) (fun _ => [.box 25 [I x.1, I x.2], .box 34 [I 0, I 0, I 0, I 0]]) (fun k => n - k) 0 [0, 1] ⟨Nat.zero_le _, by omega⟩ ?_ ?_
  · ((refine ⟨?_, ?_, ?_, ?_⟩) <;> (repeat' ((conv => whnf); apply And.intro)) <;> (try (first | exact trivial | decide)))
    all_goals first | rfl | exact fun _ _ h => h | (simp [SV.wf, SV.wfs]; done) | trace_state
  · rintro k ⟨hk, hf⟩
    by_cases hlt : k < n
    · (conv=>whnf);repeat' (first|((with_reducible refine isV ?_);first|((first|refine ValX_index tabOk rfl (hpre.mem (by decide) rfl) rfl ?_ ?_ ?_|(with_reducible refine nat_idx ?_);refine ValX_loadEn _ _ (e0) tabOk rfl rfl rfl rfl (hpre.mem (by decide) rfl) ?_ ?_ ?_|refine ValX_loadE _ _ (e0) tabOk rfl rfl rfl rfl (hpre.mem (by decide) rfl) ?_ ?_ ?_)<;>first|rfl|omega|with_reducible refine isP ?_|conv=>whnf)|((first|(with_reducible refine nat_idxF ?_);refine ValX_loadGn _ _ (e0) _ tabOk rfl rfl rfl (hpre.mem (by decide) rfl) ?_ ?_ rfl rfl ?_|refine ValX_loadG _ _ (e0) _ tabOk rfl rfl rfl (hpre.mem (by decide) rfl) ?_ ?_ rfl rfl ?_)<;>first|omega|with_reducible refine isP ?_|conv=>whnf))|((with_reducible refine isW ?_;first|refine xwr_ok (by omega) (by omega) ?_|refine xwr_raw ?_);conv=>whnf)|((first|refine DrawX_s tabOk folOk ?_|refine DrawS_i (by kernel_rfl) ?_|with_reducible refine andX_i ?_ ?_)<;>conv=>whnf)|with_reducible exact rfl|((with_reducible first|refine xif_kt (by assumption) ?_|refine xif_kf (by assumption) ?_);conv=>whnf)|((with_reducible refine xif_s ?_ ?_)<;>(intro hb;(try simp (disch:=omega) only [hbS] at hb)<;>conv=>whnf)))
      all_goals try (exfalso; omega)
      · have e := getF_at (c := x) (by omega) (Prod.ext (by simpa [EntT.cell] using hb.1) (by simpa [EntT.cell] using hb.2)) hf
        exact Fin_pure rfl (by rw [e]) (by simp [SV.wf, SV.wfs])
      · refine ⟨k + 1, [0, 1], ⟨by omega, fun j hj => ?_⟩, ?_, by (try dsimp only); omega⟩
        · by_cases hjk : j = k
          · subst hjk
            intro hc
            rw [← hc] at hb
            simp [EntT.cell] at hb
          · exact hf j (by omega)
        · ((refine ⟨?_, ?_, ?_, ?_⟩) <;> (repeat' ((conv => whnf); apply And.intro)) <;> (try (first | exact trivial | decide)))
          all_goals first | rfl | exact fun _ _ h => h | exact I_eq (wr (by omega) (by omega)) | (simp [SV.wf, SV.wfs]; done) | trace_state
    · obtain rfl : k = n := by omega
      (conv=>whnf);repeat' (first|((with_reducible refine isW ?_;first|refine xwr_ok (by omega) (by omega) ?_|refine xwr_raw ?_);conv=>whnf)|((first|refine DrawX_s tabOk folOk ?_|refine DrawS_i (by kernel_rfl) ?_|with_reducible refine andX_i ?_ ?_)<;>conv=>whnf)|with_reducible exact rfl|((with_reducible first|refine xif_kt (by assumption) ?_|refine xif_kf (by assumption) ?_);conv=>whnf)|((with_reducible refine xif_s ?_ ?_)<;>(intro hb;(try simp (disch:=omega) only [hbS] at hb)<;>conv=>whnf)))
      all_goals try (exfalso; omega)
      have e := getF_no (l := l) (c := x) (fun j hj => hf j (by omega))
      exact Fin_pure rfl (by rw [e]) (by simp [SV.wf, SV.wfs])
theorem rAt_w (A : Option Addr) (c : Nat) (l : List EntT) (x : CellT) {n : Nat} (hl : l.length = n) (hn : n ≤ maxLen) :
    CallW Tryz.prog 12 [.v (.slice A n c), .a [I x.1, I x.2]] (fun w => ArgSl w A n 4 (l.map encE)) (.a [I (atE l x).1, I (atE l x).2.1, I (atE l x).2.2.1, I (atE l x).2.2.2]) := by
  rw [atE_eq]
  have k1 := rVE_w A c l hl hn
  have k2 := find_w A c l x hl hn
  cases hv : vE l with
  | false =>
    rw [hv] at k1
    refine CallW.of Tryz.func12 rfl tabOk rfl rfl rfl (by simp [SV.wfs, SV.wf]) (by simp [SV.wfs, SV.wf]) fun w hpre => ?_
    (conv=>whnf);repeat' (first|((with_reducible refine isC ?_);first|(((with_reducible refine isF 32 ?_;refine CallX_w (k1) ?_ ?_);(focus exact hpre.mem (by decide) rfl));conv=>whnf))|with_reducible exact rfl|((with_reducible first|refine xif_kt (by assumption) ?_|refine xif_kf (by assumption) ?_);conv=>whnf)|((with_reducible refine xif_s ?_ ?_)<;>(intro hb;(try simp (disch:=omega) only [hbS] at hb)<;>conv=>whnf)))
    exact Fin_pure rfl rfl (by simp [SV.wf, SV.wfs])
  | true =>
    rw [hv] at k1
    rw [if_pos rfl]
    refine CallW.of Tryz.func12 rfl tabOk rfl rfl rfl (by simp [SV.wfs, SV.wf]) (by simp [SV.wfs, SV.wf]) fun w hpre => ?_
    (conv=>whnf);repeat' (first|((with_reducible refine isC ?_);first|((first|(with_reducible refine isF 32 ?_;refine CallX_w (k1) ?_ ?_);(focus exact hpre.mem (by decide) rfl)|(with_reducible refine isF 33 ?_;refine CallX_w (k2) ?_ ?_);(focus exact hpre.mem (by decide) rfl));conv=>whnf))|with_reducible exact rfl|((with_reducible first|refine xif_kt (by assumption) ?_|refine xif_kf (by assumption) ?_);conv=>whnf)|((with_reducible refine xif_s ?_ ?_)<;>(intro hb;(try simp (disch:=omega) only [hbS] at hb)<;>conv=>whnf)))
    exact Fin_pure rfl rfl (by simp [SV.wf, SV.wfs])
theorem rValue_x (e : EntT) : PureX Tryz.prog 31 [.a [I e.1, I e.2.1, I e.2.2.1, I e.2.2.2]] (.v (.int .u8 (valueF e))) := by
  have hb1 := value_bd e
  unfold valueF at *
  by_cases h1 : 0 < e.2.2.1
  · cases h2 : countB e with
    | true =>
      have hc := countB_bd h2
      simp only [h1, h2, and_self, if_true] at hb1 ⊢
      rw [countB, Bool.and_eq_true] at h2
      refine PureX.of Tryz.func31 rfl tabOk rfl rfl rfl (by simp [SV.wfs, SV.wf]) (by simp [SV.wfs, SV.wf]) fun w => ?_
      (conv=>whnf);repeat' (first|((with_reducible refine isC ?_);first|((with_reducible refine CallX_pure (Size_x _ _ ?_ ?_) ?_)<;>first|omega|with_reducible refine isP ?_|conv=>whnf))|((with_reducible refine isW ?_;first|refine xwr_ok (by omega) (by omega) ?_|refine xwr_raw ?_);conv=>whnf)|((with_reducible refine isQ ?_;first|refine xquo_nn (by omega) (by omega) (by omega) ?_|refine xquo_ok (by omega) (by omega) (by omega) ?_|refine xquo_raw (by omega) ?_);conv=>whnf)|((with_reducible refine isK ?_;first|refine xcv_i64 (by omega) (by omega) ?_|refine xcv_u64 (by omega) (by omega) ?_|refine xcv_u8 (by omega) (by omega) ?_|refine xcv_raw ?_);conv=>whnf)|((with_reducible refine need_i ?_ ?_)<;>first|omega|conv=>whnf)|with_reducible exact rfl|((with_reducible first|refine xif_kt (by assumption) ?_|refine xif_kf (by assumption) ?_);conv=>whnf)|((with_reducible refine xif_s ?_ ?_)<;>(intro hb;(try simp (disch:=omega) only [hbS] at hb)<;>conv=>whnf)))
      all_goals first
        | exact Fin_pure rfl rfl trivial
        | omega
        | (exfalso; simp_all; done)
        | trace_state
    | false =>
      simp only [h2, Bool.false_eq_true, and_false, if_false]
      rw [countB, Bool.and_eq_false_iff] at h2
      refine PureX.of Tryz.func31 rfl tabOk rfl rfl rfl (by simp [SV.wfs, SV.wf]) (by simp [SV.wfs, SV.wf]) fun w => ?_
      (conv=>whnf);repeat' (first|((with_reducible refine isC ?_);first|((with_reducible refine CallX_pure (Size_x _ _ ?_ ?_) ?_)<;>first|omega|with_reducible refine isP ?_|conv=>whnf))|((with_reducible refine isW ?_;first|refine xwr_ok (by omega) (by omega) ?_|refine xwr_raw ?_);conv=>whnf)|((with_reducible refine isQ ?_;first|refine xquo_nn (by omega) (by omega) (by omega) ?_|refine xquo_ok (by omega) (by omega) (by omega) ?_|refine xquo_raw (by omega) ?_);conv=>whnf)|((with_reducible refine isK ?_;first|refine xcv_i64 (by omega) (by omega) ?_|refine xcv_u64 (by omega) (by omega) ?_|refine xcv_u8 (by omega) (by omega) ?_|refine xcv_raw ?_);conv=>whnf)|((with_reducible refine need_i ?_ ?_)<;>first|omega|conv=>whnf)|with_reducible exact rfl|((with_reducible first|refine xif_kt (by assumption) ?_|refine xif_kf (by assumption) ?_);conv=>whnf)|((with_reducible refine xif_s ?_ ?_)<;>(intro hb;(try simp (disch:=omega) only [hbS] at hb)<;>conv=>whnf)))
      all_goals first
        | exact Fin_pure rfl rfl trivial
        | omega
        | (exfalso; simp_all; done)
        | trace_state
  · simp only [h1, false_and, if_false]
    refine PureX.of Tryz.func31 rfl tabOk rfl rfl rfl (by simp [SV.wfs, SV.wf]) (by simp [SV.wfs, SV.wf]) fun w => ?_
    (conv=>whnf);repeat' (first|((with_reducible refine isW ?_;first|refine xwr_ok (by omega) (by omega) ?_|refine xwr_raw ?_);conv=>whnf)|((with_reducible refine isQ ?_;first|refine xquo_nn (by omega) (by omega) (by omega) ?_|refine xquo_ok (by omega) (by omega) (by omega) ?_|refine xquo_raw (by omega) ?_);conv=>whnf)|((with_reducible refine isK ?_;first|refine xcv_i64 (by omega) (by omega) ?_|refine xcv_u64 (by omega) (by omega) ?_|refine xcv_u8 (by omega) (by omega) ?_|refine xcv_raw ?_);conv=>whnf)|((with_reducible refine need_i ?_ ?_)<;>first|omega|conv=>whnf)|with_reducible exact rfl|((with_reducible first|refine xif_kt (by assumption) ?_|refine xif_kf (by assumption) ?_);conv=>whnf)|((with_reducible refine xif_s ?_ ?_)<;>(intro hb;(try simp (disch:=omega) only [hbS] at hb)<;>conv=>whnf)))
    all_goals try (exfalso; omega)
    exact Fin_pure rfl rfl trivial
theorem rOccupied_x (e : EntT) : PureX Tryz.prog 11 [.a [I e.1, I e.2.1, I e.2.2.1, I e.2.2.2]] (B (decide (128 ≤ valueF e))) := by
  have h := rValue_x e
  have hb1 := value_bd e
  generalize valueF e = v at *
  refine PureX.of Tryz.func11 rfl tabOk rfl rfl rfl (by simp [SV.wfs, SV.wf]) (by simp [SV.wfs, SV.wf]) fun w => ?_
  (conv=>whnf);repeat' (first|((with_reducible refine isC ?_);first|((with_reducible refine CallX_pure (h) ?_)<;>first|omega|with_reducible refine isP ?_|conv=>whnf))|with_reducible exact rfl|((with_reducible first|refine xif_kt (by assumption) ?_|refine xif_kf (by assumption) ?_);conv=>whnf)|((with_reducible refine xif_s ?_ ?_)<;>(intro hb;(try simp (disch:=omega) only [hbS] at hb)<;>conv=>whnf)))
  all_goals first
    | exact Fin_pure rfl rfl trivial
    | trace_state
theorem Occupied_x (e : EntT) : PureX Tryz.prog 27 [.a [I e.1, I e.2.1, I e.2.2.1, I e.2.2.2]] (B (decide (128 ≤ valueF e))) := by
  have h := Value_x e
  have hb1 := value_bd e
  generalize valueF e = v at *
  refine PureX.of Tryz.func27 rfl tabOk rfl rfl rfl (by simp [SV.wfs, SV.wf]) (by simp [SV.wfs, SV.wf]) fun w => ?_
  (conv=>whnf);repeat' (first|((with_reducible refine isC ?_);first|((with_reducible refine CallX_pure (h) ?_)<;>first|omega|with_reducible refine isP ?_|conv=>whnf))|with_reducible exact rfl|((with_reducible first|refine xif_kt (by assumption) ?_|refine xif_kf (by assumption) ?_);conv=>whnf)|((with_reducible refine xif_s ?_ ?_)<;>(intro hb;(try simp (disch:=omega) only [hbS] at hb)<;>conv=>whnf)))
  all_goals first
    | exact Fin_pure rfl rfl trivial
    | trace_state
end Go.Proofs.YtadichckbogcjaaGreatDoor.En
end
section
namespace Go.Proofs.YtadichckbogcjaaGreatDoor.En
open Go.RowKit
set_option maxRecDepth 100000
end Go.Proofs.YtadichckbogcjaaGreatDoor.En
end
section
namespace Go.Proofs.YtadichckbogcjaaGreatDoor.En
open Go.RowKit
set_option maxRecDepth 100000
theorem bBeam_x (b : BeamT) : PureX Tryz.prog 110 [.a [I b.1, I b.2]] (B (!wrongB b)) := by
  refine PureX.of Tryz.func110 rfl tabOk rfl rfl rfl (by simp [SV.wfs, SV.wf]) (by simp [SV.wfs, SV.wf]) fun w => ?_
  (conv=>whnf);repeat' (first|with_reducible exact rfl|((with_reducible first|refine xif_kt (by assumption) ?_|refine xif_kf (by assumption) ?_);conv=>whnf)|((with_reducible refine xif_s ?_ ?_)<;>(intro hb;(try simp (disch:=omega) only [hbS] at hb)<;>conv=>whnf)))
  all_goals refine Fin_pure rfl (B_eq ?_) trivial
  all_goals first
    | (simp [wrongB, hb]; done)
    | (rw [Bool.eq_iff_iff]; simp [wrongB]; omega)
theorem bScan_w (A : Option Addr) (c : Nat) (l : List BeamT) {n : Nat} (hl : l.length = n) (hn : n ≤ maxLen) :
    CallW Tryz.prog 65 [.v (.slice A n c)] (fun w => ArgSl w A n 2 (l.map encB)) (B (scanB l)) := by
  unfold maxLen at hn
  refine CallW.of Tryz.func65 rfl tabOk rfl rfl rfl (by simp [SV.wfs, SV.wf]) (by simp [SV.wfs, SV.wf]) fun w hpre => ?_
  (conv=>whnf);repeat' (first|((with_reducible refine isW ?_;first|refine xwr_ok (by omega) (by omega) ?_|refine xwr_raw ?_);conv=>whnf)|with_reducible exact rfl|((with_reducible first|refine xif_kt (by assumption) ?_|refine xif_kf (by assumption) ?_);conv=>whnf)|((with_reducible refine xif_s ?_ ?_)<;>(intro hb;(try simp (disch:=omega) only [hbS] at hb)<;>conv=>whnf)))
  · refine Fin_pure rfl (B_eq ?_) trivial
    unfold scanB
    rw [decide_eq_false (by omega)]
    rfl
  · refine LoopX_inv tabOk (α := Nat) (fun k => k ≤ n ∧ ∀ j, j < k → wrongB (l.getD j b0) = false) (fun k => [(0, .v (.slice A n c)), (3, I k)]) (fun _ => []) (fun k => n - k) 0 [] ⟨Nat.zero_le _, fun i hi => by omega⟩ ?_ ?_
    · ((refine ⟨?_, ?_, ?_, ?_⟩) <;> (repeat' ((conv => whnf); apply And.intro)) <;> (try (first | exact trivial | decide)))
      all_goals first | rfl | exact fun _ _ h => h | simp [SV.wf, SV.wfs]
    · rintro k ⟨hk, hall⟩
      by_cases hlt : k < n
      · have hx := bBeam_x (l.getD k b0)
        cases hw : wrongB (l.getD k b0) with
        | true =>
          rw [hw] at hx
          (conv=>whnf);repeat' (first|((with_reducible refine isC ?_);first|((with_reducible refine CallX_pure (hx) ?_)<;>first|omega|with_reducible refine isP ?_|conv=>whnf))|((with_reducible refine isV ?_);first|((first|refine ValX_index tabOk rfl (hpre.mem (by decide) rfl) rfl ?_ ?_ ?_|(with_reducible refine nat_idx ?_);refine ValX_loadEn _ _ (b0) tabOk rfl rfl rfl rfl (hpre.mem (by decide) rfl) ?_ ?_ ?_|refine ValX_loadE _ _ (b0) tabOk rfl rfl rfl rfl (hpre.mem (by decide) rfl) ?_ ?_ ?_)<;>first|rfl|omega|with_reducible refine isP ?_|conv=>whnf))|((with_reducible refine isW ?_;first|refine xwr_ok (by omega) (by omega) ?_|refine xwr_raw ?_);conv=>whnf)|with_reducible exact rfl|((with_reducible first|refine xif_kt (by assumption) ?_|refine xif_kf (by assumption) ?_);conv=>whnf)|((with_reducible refine xif_s ?_ ?_)<;>(intro hb;(try simp (disch:=omega) only [hbS] at hb)<;>conv=>whnf)))
          all_goals try (exfalso; omega)
          refine Fin_pure rfl (B_eq ?_) trivial
          have hany : l.any wrongB = true := List.any_eq_true.2 ⟨l.getD k b0, by simp [hl, hlt], hw⟩
          unfold scanB
          rw [hany]
          simp
        | false =>
          rw [hw] at hx
          (conv=>whnf);repeat' (first|((with_reducible refine isC ?_);first|((with_reducible refine CallX_pure (hx) ?_)<;>first|omega|with_reducible refine isP ?_|conv=>whnf))|((with_reducible refine isV ?_);first|((first|refine ValX_index tabOk rfl (hpre.mem (by decide) rfl) rfl ?_ ?_ ?_|(with_reducible refine nat_idx ?_);refine ValX_loadEn _ _ (b0) tabOk rfl rfl rfl rfl (hpre.mem (by decide) rfl) ?_ ?_ ?_|refine ValX_loadE _ _ (b0) tabOk rfl rfl rfl rfl (hpre.mem (by decide) rfl) ?_ ?_ ?_)<;>first|rfl|omega|with_reducible refine isP ?_|conv=>whnf))|((with_reducible refine isW ?_;first|refine xwr_ok (by omega) (by omega) ?_|refine xwr_raw ?_);conv=>whnf)|with_reducible exact rfl|((with_reducible first|refine xif_kt (by assumption) ?_|refine xif_kf (by assumption) ?_);conv=>whnf)|((with_reducible refine xif_s ?_ ?_)<;>(intro hb;(try simp (disch:=omega) only [hbS] at hb)<;>conv=>whnf)))
          all_goals try (exfalso; omega)
          refine ⟨k + 1, [], ⟨by omega, fun j hj => ?_⟩, ?_, by (try dsimp only); omega⟩
          · by_cases hjk : j = k
            · rw [hjk]; exact hw
            · exact hall j (by omega)
          · ((refine ⟨?_, ?_, ?_, ?_⟩) <;> (repeat' ((conv => whnf); apply And.intro)) <;> (try (first | exact trivial | decide)))
            all_goals first | rfl | exact fun _ _ h => h | (simp [SV.wf, SV.wfs]; done) | trace_state
      · obtain rfl : k = n := by omega
        (conv=>whnf);repeat' (first|((with_reducible refine isW ?_;first|refine xwr_ok (by omega) (by omega) ?_|refine xwr_raw ?_);conv=>whnf)|with_reducible exact rfl|((with_reducible first|refine xif_kt (by assumption) ?_|refine xif_kf (by assumption) ?_);conv=>whnf)|((with_reducible refine xif_s ?_ ?_)<;>(intro hb;(try simp (disch:=omega) only [hbS] at hb)<;>conv=>whnf)))
        all_goals try (exfalso; omega)
        refine Fin_pure rfl (B_eq ?_) trivial
        have hany : l.any wrongB = false := by
          rw [List.any_eq_false]
          intro b hbm
          obtain ⟨i, hi, rfl⟩ := List.getElem_of_mem hbm
          have := hall i (by omega)
          simp only [List.getD_eq_getElem?_getD, List.getElem?_eq_getElem hi, Option.getD_some] at this
          rw [this]
          simp
        unfold scanB
        rw [hany, decide_eq_true (by omega)]
        rfl
end Go.Proofs.YtadichckbogcjaaGreatDoor.En
end
section
namespace Go.Proofs.YtadichckbogcjaaGreatDoor.En
open Go.RowKit
set_option maxRecDepth 100000
end Go.Proofs.YtadichckbogcjaaGreatDoor.En
end
section
namespace Go.Proofs.YtadichckbogcjaaGreatDoor.En
open Go.RowKit
set_option maxRecDepth 100000
structure RfT where
  h : Int → Bool
  s : Int → SlT
  p : Int → PlT
def plC (p : PlT) : Nat → Value
  | 0 => .int .i64 p.1
  | 1 => .bool p.2.1
  | 2 => .int .i64 p.2.2.1
  | 3 => .int .i64 p.2.2.2.1
  | _ => .int .i64 p.2.2.2.2
def rfC (r : RfT) (k : Nat) : Value := if k < 64 then encS (r.s k) else if k < 128 then .bool (r.h ((k - 64 : Nat) : Int)) else plC (r.p (((k - 128) / 5 : Nat) : Int)) ((k - 128) % 5)
def RfAt (w : World) (b : Nat) (r : RfT) : Prop := ∃ L : List Value, w.heap[b]? = some (.cells L.toArray 135 (0, 0)) ∧ L.length = 448 ∧ ∀ k, k < 448 → L[k]? = some (rfC r k)
theorem RfAt.get {w : World} {b : Nat} {r : RfT} (h : RfAt w b r) {k : Nat} (hk : k < 448) : w.cell? ⟨b, k, none⟩ = some (rfC r k) := by
  obtain ⟨L, h1, h2, h3⟩ := h
  rw [cell_of_row w b k L.toArray _ (0, 0) h1]
  simpa using h3 k hk
theorem RfAt.ext {w w' : World} {b : Nat} {r : RfT} (h : RfAt w b r) (hw : w'.heap[b]? = w.heap[b]?) : RfAt w' b r := by
  obtain ⟨L, h1, h2, h3⟩ := h
  exact ⟨L, hw.trans h1, h2, h3⟩
section
variable {C : Ctx} {ob : List OB} {b : Nat} {r : RfT}
end
end Go.Proofs.YtadichckbogcjaaGreatDoor.En
namespace Go.Proofs.YtadichckbogcjaaGreatDoor.En
open Go.RowKit
set_option maxRecDepth 100000
end Go.Proofs.YtadichckbogcjaaGreatDoor.En
namespace Go.Proofs.YtadichckbogcjaaGreatDoor.En
open Go.RowKit
set_option maxRecDepth 100000
section
variable {C : Ctx} {ob : List OB} {b : Nat} {r : RfT} {o : Oper} {t : TypeId} {x y : Operand} {te : TI}
end
end Go.Proofs.YtadichckbogcjaaGreatDoor.En
namespace Go.Proofs.YtadichckbogcjaaGreatDoor.En
open Go.RowKit
set_option maxRecDepth 100000
end Go.Proofs.YtadichckbogcjaaGreatDoor.En
end
section
namespace Go.Proofs.YtadichckbogcjaaGreatDoor.En
open Go.RowKit
set_option maxRecDepth 100000
section
variable {C : Ctx} {ob : List OB} {A : Option Addr} {n c sz e : Nat} {els : List (List Value)}
end
end Go.Proofs.YtadichckbogcjaaGreatDoor.En
end
section
namespace Go.Proofs.YtadichckbogcjaaGreatDoor.En
open Go.RowKit
set_option maxRecDepth 100000
def frLe (a b : Int × Int) : Prop := a.1 * b.2 ≤ b.1 * a.2
theorem frLe_trans {a b c : Int × Int} (ha : 0 < a.2) (hb : 0 < b.2) (hc : 0 < c.2) (h1 : frLe a b) (h2 : frLe b c) : frLe a c := by
  unfold frLe at *
  have e1 : a.1 * b.2 * c.2 ≤ b.1 * a.2 * c.2 := Int.mul_le_mul_of_nonneg_right h1 (by omega)
  have e2 : b.1 * c.2 * a.2 ≤ c.1 * b.2 * a.2 := Int.mul_le_mul_of_nonneg_right h2 (by omega)
  have e3 : a.1 * c.2 * b.2 ≤ c.1 * a.2 * b.2 := by
    rw [show a.1 * c.2 * b.2 = a.1 * b.2 * c.2 by ac_rfl, show c.1 * a.2 * b.2 = c.1 * b.2 * a.2 by ac_rfl]
    refine Int.le_trans e1 ?_
    rw [show b.1 * a.2 * c.2 = b.1 * c.2 * a.2 by ac_rfl]
    exact e2
  exact Int.le_of_mul_le_mul_right e3 hb
theorem frLe_total (a b : Int × Int) : frLe a b ∨ frLe b a := by unfold frLe; omega
theorem lessB_iff {a b : Int × Int} : lessB a b = true ↔ ¬ frLe b a := by
  simp only [lessB, frLe, decide_eq_true_eq]; omega
theorem lessB_not {a b : Int × Int} : lessB a b = false ↔ frLe b a := by
  simp only [lessB, frLe, decide_eq_false_iff_not]; omega
theorem maxF_le {s l t : Int × Int} (hs : 0 < s.2) (hl : 0 < l.2) (ht : 0 < t.2) : frLe (maxF s l) t ↔ frLe s t ∧ frLe l t := by
  unfold maxF
  split
  · rename_i h
    rw [lessB_iff] at h
    exact ⟨fun q => ⟨frLe_trans hs hl ht ((frLe_total s l).resolve_right h) q, q⟩, fun q => q.2⟩
  · rename_i h
    rw [Bool.not_eq_true, lessB_not] at h
    exact ⟨fun q => ⟨q, frLe_trans hl hs ht h q⟩, fun q => q.1⟩
theorem minF_le {s l t : Int × Int} (hs : 0 < s.2) (hl : 0 < l.2) (ht : 0 < t.2) : frLe t (minF s l) ↔ frLe t s ∧ frLe t l := by
  unfold minF
  split
  · rename_i h
    rw [lessB_iff] at h
    exact ⟨fun q => ⟨frLe_trans ht hl hs q ((frLe_total s l).resolve_left fun c => h c), q⟩, fun q => q.2⟩
  · rename_i h
    rw [Bool.not_eq_true, lessB_not] at h
    exact ⟨fun q => ⟨q, frLe_trans ht hs hl q h⟩, fun q => q.1⟩
def inS (s : SpT) (t : Int × Int) : Prop := frLe (s.1, s.2.1) t ∧ frLe t (s.2.2.1, s.2.2.2)
def inD (p d a b : Int) (t : Int × Int) : Prop := a * t.2 ≤ p * t.2 + t.1 * d ∧ p * t.2 + t.1 * d ≤ b * t.2
theorem slab_in {p d a b : Int} (hd : d ≠ 0) (t : Int × Int) : frLe (slabLo p d a b) t ∧ frLe t (slabHi p d a b) ↔ inD p d a b t := by
  unfold slabLo slabHi frLe inD
  split
  · dsimp only
    rw [Int.sub_mul, Int.sub_mul, Int.mul_sub]; omega
  · dsimp only
    rw [Int.sub_mul, Int.sub_mul]; omega
theorem slabLo_pos {p d a b : Int} (hd : d ≠ 0) : 0 < (slabLo p d a b).2 := by unfold slabLo; split <;> dsimp only <;> omega
theorem slabHi_pos {p d a b : Int} (hd : d ≠ 0) : 0 < (slabHi p d a b).2 := by unfold slabHi; split <;> dsimp only <;> omega
def spP (s : SpT) : Prop := 0 < s.2.1 ∧ 0 < s.2.2.2
theorem maxF_pos {s l : Int × Int} (h1 : 0 < s.2) (h2 : 0 < l.2) : 0 < (maxF s l).2 := by unfold maxF; split <;> assumption
theorem minF_pos {s l : Int × Int} (h1 : 0 < s.2) (h2 : 0 < l.2) : 0 < (minF s l).2 := by unfold minF; split <;> assumption
theorem slabF_pos {s : SpT} {p d a b : Int} (h : spP s) : spP (slabF s p d a b).1 := by
  unfold slabF
  split
  · exact h
  · rename_i h0
    exact ⟨maxF_pos h.1 (slabLo_pos h0), minF_pos h.2 (slabHi_pos h0)⟩
theorem mul_pos_le {a b t : Int} (ht : 0 < t) : a * t ≤ b * t ↔ a ≤ b :=
  ⟨fun h => Int.le_of_mul_le_mul_right h ht, fun h => Int.mul_le_mul_of_nonneg_right h (by omega)⟩
theorem slabF_in {s : SpT} {p d a b : Int} (h : spP s) {t : Int × Int} (ht : 0 < t.2) :
    ((slabF s p d a b).2 = true → inS (slabF s p d a b).1 t → inS s t ∧ inD p d a b t) ∧ (inS s t ∧ inD p d a b t → (slabF s p d a b).2 = true ∧ inS (slabF s p d a b).1 t) := by
  unfold slabF
  split
  · rename_i h0
    subst h0
    simp only [inD, Int.mul_zero, Int.add_zero, mul_pos_le ht, Bool.and_eq_true, decide_eq_true_eq]
    exact ⟨fun q r => ⟨r, q⟩, fun q => ⟨q.2, q.1⟩⟩
  · rename_i h0
    have hl := slabLo_pos (p := p) (a := a) (b := b) h0
    have hh := slabHi_pos (p := p) (a := a) (b := b) h0
    refine ⟨fun _ q => ?_, fun q => ?_⟩
    · obtain ⟨q1, q2⟩ := q
      replace q1 := (maxF_le (s := (s.1, s.2.1)) h.1 hl ht).1 q1
      replace q2 := (minF_le (s := (s.2.2.1, s.2.2.2)) h.2 hh ht).1 q2
      exact ⟨⟨q1.1, q2.1⟩, (slab_in h0 t).1 ⟨q1.2, q2.2⟩⟩
    · obtain ⟨⟨q1, q2⟩, q3⟩ := q
      have q4 := (slab_in h0 t).2 q3
      have g1 := (maxF_le (s := (s.1, s.2.1)) h.1 hl ht).2 ⟨q1, q4.1⟩
      have g2 := (minF_le (s := (s.2.2.1, s.2.2.2)) h.2 hh ht).2 ⟨q2, q4.2⟩
      refine ⟨?_, g1, g2⟩
      rw [Bool.not_eq_true', lessB_not]
      exact frLe_trans (maxF_pos (s := (s.1, s.2.1)) h.1 hl) ht (minF_pos (s := (s.2.2.1, s.2.2.2)) h.2 hh) g1 g2
theorem sp0_pos : spP sp0 := by unfold spP sp0; decide
def inR (p : PtT) (v : VecT) (r : RectT) (t : Int × Int) : Prop := inD p.1 v.1 r.1 r.2.2.1 t ∧ inD p.2 v.2.1 r.2.1 r.2.2.2 t
theorem sp0_in {t : Int × Int} : inS sp0 t ↔ 0 ≤ t.1 ∧ t.1 ≤ 8388608 * t.2 := by
  unfold inS frLe sp0; dsimp only; omega
theorem through_in {p : PtT} {v : VecT} {r : RectT} (ha : argsB p v r = true) {t : Int × Int} (ht : 0 < t.2) :
    ((throughF p v r).2 = true → inS (throughF p v r).1 t → inS sp0 t ∧ inR p v r t) ∧ (inS sp0 t ∧ inR p v r t → (throughF p v r).2 = true ∧ inS (throughF p v r).1 t) := by
  unfold throughF
  rw [if_pos ha]
  have a1 := slabF_in (s := sp0) (p := p.1) (d := v.1) (a := r.1) (b := r.2.2.1) sp0_pos ht
  have a2 := slabF_in (s := (slabF sp0 p.1 v.1 r.1 r.2.2.1).1) (p := p.2) (d := v.2.1) (a := r.2.1) (b := r.2.2.2) (slabF_pos sp0_pos) ht
  refine ⟨fun q w => ?_, fun q => ?_⟩
  · split at q
    · rename_i h1
      rw [if_pos h1] at w
      split at q
      · rename_i h2
        rw [if_pos h2] at w
        have b2 := a2.1 h2 w
        have b1 := a1.1 h1 b2.1
        exact ⟨b1.1, b1.2, b2.2⟩
      · cases q
    · cases q
  · have b1 := a1.2 ⟨q.1, q.2.1⟩
    have b2 := a2.2 ⟨b1.2, q.2.2⟩
    rw [if_pos b1.1, if_pos b2.1]
    exact ⟨rfl, b2.2⟩
theorem through_pos {p : PtT} {v : VecT} {r : RectT} (h : (throughF p v r).2 = true) : spP (throughF p v r).1 ∧ argsB p v r = true ∧ frLe ((throughF p v r).1.1, (throughF p v r).1.2.1) ((throughF p v r).1.2.2.1, (throughF p v r).1.2.2.2) := by
  have h0 := through_bd h
  refine ⟨⟨h0.1.1.2.2.1, h0.1.2.2.2.1⟩, h0.2, ?_⟩
  have hn : ∀ {s : SpT} {p d a b : Int}, frLe (s.1, s.2.1) (s.2.2.1, s.2.2.2) → (slabF s p d a b).2 = true → frLe ((slabF s p d a b).1.1, (slabF s p d a b).1.2.1) ((slabF s p d a b).1.2.2.1, (slabF s p d a b).1.2.2.2) := by
    intro s p d a b hs
    unfold slabF
    split
    · exact fun _ => hs
    · intro q
      rw [Bool.not_eq_true', lessB_not] at q
      exact q
  unfold throughF at h ⊢
  rw [h0.2, if_pos rfl] at h ⊢
  split
  · rename_i h1
    rw [if_pos h1] at h
    split
    · rename_i h2
      exact hn (hn (by unfold frLe sp0; decide) h1) h2
    · rename_i h2
      rw [if_neg h2] at h
      cases h
  · rename_i h1
    rw [if_neg h1] at h
    cases h
theorem meets_iff {p : PtT} {v : VecT} {lo hi : Int} {r : RectT} (ha : argsB p v r = true) (h1 : 0 ≤ lo) (h2 : lo ≤ hi) (h3 : hi ≤ 65536) :
    meetsS p v lo hi r = true ↔ ∃ t : Int × Int, 0 < t.2 ∧ 0 ≤ t.1 ∧ inR p v r t ∧ lo * t.2 ≤ t.1 * v.2.2 ∧ t.1 * v.2.2 ≤ hi * t.2 := by
  have hv : 1 ≤ v.2.2 := (args_bd ha).2.1.2.2.1
  unfold meetsS
  simp only [Bool.and_eq_true, decide_eq_true_eq, h1, h2, h3, true_and]
  constructor
  · rintro ⟨⟨q1, q2⟩, q3⟩
    obtain ⟨⟨g1, g2⟩, -, g3⟩ := through_pos q1
    have key : ∀ t : Int × Int, 0 < t.2 → inS (throughF p v r).1 t → frLe (lo, v.2.2) t → frLe t (hi, v.2.2) → ∃ t : Int × Int, 0 < t.2 ∧ 0 ≤ t.1 ∧ inR p v r t ∧ lo * t.2 ≤ t.1 * v.2.2 ∧ t.1 * v.2.2 ≤ hi * t.2 := by
      intro t ht hs hl hh
      have hr := (through_in ha ht).1 q1 hs
      exact ⟨t, ht, (sp0_in.1 hr.1).1, hr.2, hl, hh⟩
    have l2 : frLe (lo, v.2.2) ((throughF p v r).1.2.2.1, (throughF p v r).1.2.2.2) := q2
    have l3 : frLe ((throughF p v r).1.1, (throughF p v r).1.2.1) (hi, v.2.2) := q3
    by_cases hc : frLe ((throughF p v r).1.1, (throughF p v r).1.2.1) (lo, v.2.2)
    · refine key (lo, v.2.2) (by dsimp only; omega) ⟨hc, l2⟩ (by unfold frLe; exact Int.le_refl _) ?_
      unfold frLe
      exact Int.mul_le_mul_of_nonneg_right h2 (by omega)
    · exact key ((throughF p v r).1.1, (throughF p v r).1.2.1) g1 ⟨by unfold frLe; exact Int.le_refl _, g3⟩ ((frLe_total _ _).resolve_left hc) l3
  · rintro ⟨t, ht, t0, hr, hl, hh⟩
    have hs0 : inS sp0 t := by
      rw [sp0_in]
      refine ⟨t0, ?_⟩
      have e1 : t.1 * 1 ≤ t.1 * v.2.2 := Int.mul_le_mul_of_nonneg_left hv t0
      have e2 : hi * t.2 ≤ 65536 * t.2 := Int.mul_le_mul_of_nonneg_right h3 (by omega)
      omega
    obtain ⟨k1, k2, k3⟩ := (through_in ha ht).2 ⟨hs0, hr⟩
    obtain ⟨⟨g1, g2⟩, -, -⟩ := through_pos k1
    refine ⟨⟨k1, ?_⟩, ?_⟩
    · exact frLe_trans (a := (lo, v.2.2)) (b := t) (c := ((throughF p v r).1.2.2.1, (throughF p v r).1.2.2.2)) (by dsimp only; omega) ht g2 hl k3
    · exact frLe_trans (a := ((throughF p v r).1.1, (throughF p v r).1.2.1)) (b := t) (c := (hi, v.2.2)) g1 ht (by dsimp only; omega) k2 hh
end Go.Proofs.YtadichckbogcjaaGreatDoor.En
end
section
namespace Go.Proofs.YtadichckbogcjaaGreatDoor.En
open Go.RowKit
set_option maxRecDepth 100000
def inC (p : PtT) (v : VecT) (c : CellT) (t : Int × Int) : Prop :=
  (c.1 * 64 * t.2 ≤ p.1 * t.2 + t.1 * v.1 ∧ p.1 * t.2 + t.1 * v.1 ≤ (c.1 * 64 + 64) * t.2) ∧ c.2 * 64 * t.2 ≤ p.2 * t.2 + t.1 * v.2.1 ∧ p.2 * t.2 + t.1 * v.2.1 ≤ (c.2 * 64 + 64) * t.2
theorem inD_sub {a b d x t1 t2 : Int} : inD 0 d (a - x) (b - x) (t1, t2) ↔ a * t2 ≤ x * t2 + t1 * d ∧ x * t2 + t1 * d ≤ b * t2 := by
  unfold inD
  dsimp only
  rw [Int.sub_mul, Int.sub_mul, Int.zero_mul]
  omega
theorem inR_inC {p : PtT} {v : VecT} {c : CellT} {t : Int × Int} : inR (0, 0) v (subR (sqR c) (ptR p)) t ↔ inC p v c t := by
  unfold inR inC subR sqR ptR
  exact and_congr inD_sub inD_sub
theorem axis_in {x a D lo hi n e k : Int} (hD : 1 ≤ D) (he : 0 < e) (h1 : lo * e ≤ n * D) (h2 : n * D ≤ hi * e)
    (g1 : k * 64 * e ≤ x * e + n * a) (g2 : x * e + n * a ≤ (k * 64 + 64) * e) :
    (spanF (reachF x x a D lo hi)).1 ≤ k ∧ k ≤ (spanF (reachF x x a D lo hi)).2 := by
  have hm : min (lo * a) (hi * a) * e ≤ n * a * D ∧ n * a * D ≤ max (lo * a) (hi * a) * e := by
    rcases Int.le_total 0 a with h | h
    · have e1 : lo * e * a ≤ n * D * a := Int.mul_le_mul_of_nonneg_right h1 h
      have e2 : n * D * a ≤ hi * e * a := Int.mul_le_mul_of_nonneg_right h2 h
      have e3 : min (lo * a) (hi * a) * e ≤ lo * a * e := Int.mul_le_mul_of_nonneg_right (Int.min_le_left _ _) (by omega)
      have e4 : hi * a * e ≤ max (lo * a) (hi * a) * e := Int.mul_le_mul_of_nonneg_right (Int.le_max_right _ _) (by omega)
      rw [show n * a * D = n * D * a by ac_rfl]
      rw [show lo * a * e = lo * e * a by ac_rfl] at e3
      rw [show hi * a * e = hi * e * a by ac_rfl] at e4
      omega
    · have e1 : n * D * a ≤ lo * e * a := Int.mul_le_mul_of_nonpos_right h1 h
      have e2 : hi * e * a ≤ n * D * a := Int.mul_le_mul_of_nonpos_right h2 h
      have e3 : min (lo * a) (hi * a) * e ≤ hi * a * e := Int.mul_le_mul_of_nonneg_right (Int.min_le_right _ _) (by omega)
      have e4 : lo * a * e ≤ max (lo * a) (hi * a) * e := Int.mul_le_mul_of_nonneg_right (Int.le_max_left _ _) (by omega)
      rw [show n * a * D = n * D * a by ac_rfl]
      rw [show lo * a * e = lo * e * a by ac_rfl] at e4
      rw [show hi * a * e = hi * e * a by ac_rfl] at e3
      omega
  have f1 : min (lo * a) (hi * a) ≤ (k * 64 + 64 - x) * D := by
    refine Int.le_of_mul_le_mul_right (a := e) ?_ he
    refine Int.le_trans hm.1 ?_
    have : n * a ≤ (k * 64 + 64 - x) * e := by rw [Int.sub_mul]; omega
    have := Int.mul_le_mul_of_nonneg_right this (show 0 ≤ D by omega)
    rw [show (k * 64 + 64 - x) * D * e = (k * 64 + 64 - x) * e * D by ac_rfl]
    exact this
  have f2 : (k * 64 - x) * D ≤ max (lo * a) (hi * a) := by
    refine Int.le_of_mul_le_mul_right (a := e) ?_ he
    refine Int.le_trans ?_ hm.2
    have : (k * 64 - x) * e ≤ n * a := by rw [Int.sub_mul]; omega
    have := Int.mul_le_mul_of_nonneg_right this (show 0 ≤ D by omega)
    rw [show (k * 64 - x) * D * e = (k * 64 - x) * e * D by ac_rfl]
    exact this
  have q1 : min (lo * a) (hi * a) / D ≤ k * 64 + 64 - x := Int.ediv_le_of_le_mul (by omega) f1
  have q2 : k * 64 - x ≤ max (lo * a) (hi * a) / D := (Int.le_ediv_iff_mul_le (by omega)).2 f2
  unfold spanF reachF
  dsimp only
  omega
theorem mem_traced {p : PtT} {v : VecT} {lo hi : Int} (hp : -1048576 ≤ p.1 ∧ p.1 ≤ 1048576 ∧ -1048576 ≤ p.2 ∧ p.2 ≤ 1048576) (hv : vecB v = true) (h : 0 ≤ lo ∧ lo ≤ hi ∧ hi ≤ 2048) {c : CellT} :
    c ∈ tracedL p v lo hi ↔ ∃ t : Int × Int, 0 < t.2 ∧ 0 ≤ t.1 ∧ inC p v c t ∧ lo * t.2 ≤ t.1 * v.2.2 ∧ t.1 * v.2.2 ≤ hi * t.2 := by
  have hok : swOk (ptR p) v lo hi := ⟨hp.1, Int.le_refl _, hp.2.1, hp.2.2.1, Int.le_refl _, hp.2.2.2, by simp [ptR], by simp [ptR], hv, h.1, h.2.1, h.2.2⟩
  have hD : 1 ≤ v.2.2 := by
    have := hv
    simp only [vecB, Bool.and_eq_true, vecIn_iff] at this
    exact this.1.1
  have hargs : ∀ {r : RectT}, rectL r = true → argsB (0, 0) v r = true := by
    intro r hr
    simp only [argsB, hv, hr, ptL, nearL, Bool.and_true]
    decide
  unfold tracedL
  rw [mem_sweep]
  unfold hitR
  rw [Bool.and_eq_true]
  constructor
  · rintro ⟨⟨h1, h2⟩, -, -⟩
    obtain ⟨t, a1, a2, a3, a4⟩ := (meets_iff (hargs h1) h.1 h.2.1 (by omega)).1 h2
    exact ⟨t, a1, a2, inR_inC.1 a3, a4⟩
  · rintro ⟨t, a1, a2, a3, a4⟩
    have hx : (swX (ptR p) v lo hi).1 ≤ c.1 ∧ c.1 ≤ (swX (ptR p) v lo hi).2 := axis_in hD a1 a4.1 a4.2 a3.1.1 a3.1.2
    have hy : (swY (ptR p) v lo hi).1 ≤ c.2 ∧ c.2 ≤ (swY (ptR p) v lo hi).2 := axis_in hD a1 a4.1 a4.2 a3.2.1 a3.2.2
    have hr := (sub_rect hok hx hy).2.2
    exact ⟨⟨hr, (meets_iff (hargs hr) h.1 h.2.1 (by omega)).2 ⟨t, a1, a2, inR_inC.2 a3, a4⟩⟩, hx, hy⟩
def allC (_ : CellT) : Bool := true
def ptB (p : PtT) : Prop := -1048576 ≤ p.1 ∧ p.1 ≤ 1048576 ∧ -1048576 ≤ p.2 ∧ p.2 ≤ 1048576
theorem vec_pos {v : VecT} (hv : vecB v = true) : 1 ≤ v.2.2 := by
  simp only [vecB, Bool.and_eq_true, vecIn_iff] at hv
  exact hv.1.1
theorem reachB_bd {b : BeamT} (hb : -1 ≤ b.2 ∧ b.2 ≤ 1024) : 0 ≤ reachB b ∧ reachB b ≤ 2048 := by
  unfold reachB
  split <;> omega
theorem mem_met {p : PtT} {v : VecT} {b : BeamT} (hp : ptB p) (hv : vecB v = true) (hb : -1 ≤ b.2 ∧ b.2 ≤ 1024) {c : CellT} :
    c ∈ metL p v b ↔ ∃ t : Int × Int, 0 < t.2 ∧ 0 ≤ t.1 ∧ inC p v c t ∧ 0 * t.2 ≤ t.1 * v.2.2 ∧ t.1 * v.2.2 ≤ reachB b * t.2 :=
  mem_traced hp hv ⟨Int.le_refl _, (reachB_bd hb).1, (reachB_bd hb).2⟩
theorem mem_ends {p : PtT} {v : VecT} {b : BeamT} (hp : ptB p) (hv : vecB v = true) (hb : -1 ≤ b.2 ∧ b.2 ≤ 1024) {c : CellT} :
    c ∈ endsL p v b ↔ 0 ≤ b.2 ∧ ∃ t : Int × Int, 0 < t.2 ∧ 0 ≤ t.1 ∧ inC p v c t ∧ b.2 * t.2 ≤ t.1 * v.2.2 ∧ t.1 * v.2.2 ≤ b.2 * t.2 := by
  unfold endsL
  split
  · simp only [List.not_mem_nil, false_iff]
    omega
  · rw [mem_traced hp hv ⟨by omega, Int.le_refl _, by omega⟩]
    exact ⟨fun h => ⟨by omega, h⟩, fun h => h.2⟩
theorem ends_met {p : PtT} {v : VecT} {b : BeamT} (hp : ptB p) (hv : vecB v = true) (hb : -1 ≤ b.2 ∧ b.2 ≤ 1024) {c : CellT} (hc : c ∈ endsL p v b) : c ∈ metL p v b := by
  obtain ⟨h0, t, a1, a2, a3, a4, a5⟩ := (mem_ends hp hv hb).1 hc
  refine (mem_met hp hv hb).2 ⟨t, a1, a2, a3, ?_, ?_⟩
  · rw [Int.zero_mul]
    exact Int.mul_nonneg a2 (by have := vec_pos hv; omega)
  · rw [show reachB b = b.2 by unfold reachB; split <;> omega]
    exact a5
end Go.Proofs.YtadichckbogcjaaGreatDoor.En
end
