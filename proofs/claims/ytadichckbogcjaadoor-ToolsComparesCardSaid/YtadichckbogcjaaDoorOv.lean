/- Values of entries, the entry of a cell: for seats without evidence.At (there Oi, Er have the same). -/
import Derived.Test.YtadichckbogcjaaDoorEc
set_option linter.all false
namespace Go.Proofs.YtadichckbogcjaaDoor.En
open Go.RowKit
set_option maxRecDepth 100000

def valueF (e : EntT) : Int := if 0 < e.2.2.1 ∧ countB e = true then 255 * e.2.2.1 / (e.2.2.1 + max e.2.2.2 0) else 0
theorem countB_bd {e : EntT} (h : countB e = true) : -1099511627776 ≤ e.2.2.1 ∧ e.2.2.1 ≤ 1099511627776 ∧ -1099511627776 ≤ e.2.2.2 ∧ e.2.2.2 ≤ 1099511627776 := by
  simp only [countB, szB, Bool.and_eq_true, decide_eq_true_eq] at h
  omega
theorem value_bd (e : EntT) : 0 ≤ valueF e ∧ valueF e ≤ 255 := by
  unfold valueF
  split
  · rename_i h
    constructor
    · exact Int.ediv_nonneg (by omega) (by omega)
    · have : 255 * e.2.2.1 / (e.2.2.1 + max e.2.2.2 0) < 256 := Int.ediv_lt_of_lt_mul (by omega) (by omega)
      omega
  · omega
theorem Value_x (e : EntT) : PureX Tryd.prog 43 [.a [I e.1, I e.2.1, I e.2.2.1, I e.2.2.2]] (.v (.int .u8 (valueF e))) := by
  have hb1 := value_bd e
  unfold valueF at *
  by_cases h1 : 0 < e.2.2.1
  · cases h2 : countB e with
    | true =>
      have hc := countB_bd h2
      have hd := PureD.pure (counted_d e)
      rw [h2] at hd hb1
      simp only [h1, and_self, if_true] at hb1 ⊢
      refine PureX.of Tryd.func43 rfl tabOk rfl rfl rfl (by simp [SV.wfs, SV.wf]) (by simp [SV.wfs, SV.wf]) fun w => ?_
      (conv=>whnf);repeat' (first|((with_reducible refine isC ?_);first|((with_reducible refine CallX_pure (hd) ?_)<;>first|omega|with_reducible refine isP ?_|conv=>whnf))|((with_reducible refine isW ?_;first|refine xwr_ok (by omega) (by omega) ?_|refine xwr_raw ?_);conv=>whnf)|((with_reducible refine isQ ?_;first|refine xquo_nn (by omega) (by omega) (by omega) ?_|refine xquo_ok (by omega) (by omega) (by omega) ?_|refine xquo_raw (by omega) ?_);conv=>whnf)|((with_reducible refine isK ?_;first|refine xcv_i64 (by omega) (by omega) ?_|refine xcv_u64 (by omega) (by omega) ?_|refine xcv_u8 (by omega) (by omega) ?_|refine xcv_raw ?_);conv=>whnf)|((with_reducible refine need_i ?_ ?_)<;>first|omega|conv=>whnf)|with_reducible exact rfl|((with_reducible first|refine xif_kt (by assumption) ?_|refine xif_kf (by assumption) ?_);conv=>whnf)|((with_reducible refine xif_s ?_ ?_)<;>(intro hb;(try simp (disch:=omega) only [hbS] at hb)<;>conv=>whnf)))
      all_goals try (exfalso; omega)
      exact Fin_pure rfl rfl trivial
    | false =>
      have hd := PureD.pure (counted_d e)
      rw [h2] at hd
      simp only [Bool.false_eq_true, and_false, if_false]
      refine PureX.of Tryd.func43 rfl tabOk rfl rfl rfl (by simp [SV.wfs, SV.wf]) (by simp [SV.wfs, SV.wf]) fun w => ?_
      (conv=>whnf);repeat' (first|((with_reducible refine isC ?_);first|((with_reducible refine CallX_pure (hd) ?_)<;>first|omega|with_reducible refine isP ?_|conv=>whnf))|((with_reducible refine isW ?_;first|refine xwr_ok (by omega) (by omega) ?_|refine xwr_raw ?_);conv=>whnf)|((with_reducible refine isQ ?_;first|refine xquo_nn (by omega) (by omega) (by omega) ?_|refine xquo_ok (by omega) (by omega) (by omega) ?_|refine xquo_raw (by omega) ?_);conv=>whnf)|((with_reducible refine isK ?_;first|refine xcv_i64 (by omega) (by omega) ?_|refine xcv_u64 (by omega) (by omega) ?_|refine xcv_u8 (by omega) (by omega) ?_|refine xcv_raw ?_);conv=>whnf)|((with_reducible refine need_i ?_ ?_)<;>first|omega|conv=>whnf)|with_reducible exact rfl|((with_reducible first|refine xif_kt (by assumption) ?_|refine xif_kf (by assumption) ?_);conv=>whnf)|((with_reducible refine xif_s ?_ ?_)<;>(intro hb;(try simp (disch:=omega) only [hbS] at hb)<;>conv=>whnf)))
      all_goals try (exfalso; omega)
      exact Fin_pure rfl rfl trivial
  · simp only [h1, false_and, if_false]
    refine PureX.of Tryd.func43 rfl tabOk rfl rfl rfl (by simp [SV.wfs, SV.wf]) (by simp [SV.wfs, SV.wf]) fun w => ?_
    (conv=>whnf);repeat' (first|((with_reducible refine isW ?_;first|refine xwr_ok (by omega) (by omega) ?_|refine xwr_raw ?_);conv=>whnf)|((with_reducible refine isQ ?_;first|refine xquo_nn (by omega) (by omega) (by omega) ?_|refine xquo_ok (by omega) (by omega) (by omega) ?_|refine xquo_raw (by omega) ?_);conv=>whnf)|((with_reducible refine isK ?_;first|refine xcv_i64 (by omega) (by omega) ?_|refine xcv_u64 (by omega) (by omega) ?_|refine xcv_u8 (by omega) (by omega) ?_|refine xcv_raw ?_);conv=>whnf)|((with_reducible refine need_i ?_ ?_)<;>first|omega|conv=>whnf)|with_reducible exact rfl|((with_reducible first|refine xif_kt (by assumption) ?_|refine xif_kf (by assumption) ?_);conv=>whnf)|((with_reducible refine xif_s ?_ ?_)<;>(intro hb;(try simp (disch:=omega) only [hbS] at hb)<;>conv=>whnf)))
    all_goals try (exfalso; omega)
    exact Fin_pure rfl rfl trivial

def getF (l : List EntT) (c : CellT) : EntT := (l.find? fun e => decide (e.cell = c)).getD (c.1, c.2, 0, 0)
theorem find_skip (p : EntT → Bool) (l : List EntT) : ∀ k, k ≤ l.length → (∀ j, j < k → p (l.getD j e0) = false) → l.find? p = (l.drop k).find? p
  | 0, _, _ => by simp
  | k + 1, hk, h => by
    rw [find_skip p l k (by omega) (fun j hj => h j (by omega)), List.drop_eq_getElem_cons (show k < l.length by omega), List.find?_cons]
    have := h k (by omega)
    simp only [List.getD_eq_getElem?_getD, List.getElem?_eq_getElem (show k < l.length by omega), Option.getD_some] at this
    rw [this]
theorem getF_at {l : List EntT} {c : CellT} {k : Nat} (hk : k < l.length) (hc : (l.getD k e0).cell = c) (h : ∀ j, j < k → (l.getD j e0).cell ≠ c) : getF l c = l.getD k e0 := by
  unfold getF
  rw [find_skip _ l k (by omega) (fun j hj => by simp only [h j hj, decide_false]), List.drop_eq_getElem_cons hk, List.find?_cons]
  have e : l.getD k e0 = l[k] := by simp [hk]
  rw [e] at hc ⊢
  simp [hc]
theorem getF_no {l : List EntT} {c : CellT} (h : ∀ j, j < l.length → (l.getD j e0).cell ≠ c) : getF l c = (c.1, c.2, 0, 0) := by
  unfold getF
  rw [find_skip _ l l.length (Nat.le_refl _) (fun j hj => by simp only [h j hj, decide_false])]
  simp
theorem getF_mem (l : List EntT) (c : CellT) : getF l c ∈ l ∧ (getF l c).cell = c ∨ getF l c = (c.1, c.2, 0, 0) ∧ ∀ e ∈ l, e.cell ≠ c := by
  unfold getF
  cases h : l.find? fun e => decide (e.cell = c) with
  | none =>
    rw [List.find?_eq_none] at h
    exact .inr ⟨rfl, fun e he => by simpa using h e he⟩
  | some x =>
    have h1 := List.find?_some h
    exact .inl ⟨List.mem_of_find?_eq_some h, by simpa using h1⟩
def atF (l : List EntT) (c : CellT) : EntT := if vE l then getF l c else (c.1, c.2, 0, 0)
theorem find_w (A : Option Addr) (c : Nat) (l : List EntT) (x : CellT) {n : Nat} (hl : l.length = n) (hn : n ≤ maxLen) :
    CallW Tryd.prog 62 [.v (.slice A n c), .a [I x.1, I x.2]] (fun w => ArgSl w A n 4 (l.map encE)) (.a [I (getF l x).1, I (getF l x).2.1, I (getF l x).2.2.1, I (getF l x).2.2.2]) := by
  unfold maxLen at hn
  refine CallW.of Tryd.func62 rfl tabOk rfl rfl rfl (by simp [SV.wfs, SV.wf]) (by simp [SV.wfs, SV.wf]) fun w hpre => ?_
  (conv=>whnf);repeat' (first|((with_reducible refine isW ?_;first|refine xwr_ok (by omega) (by omega) ?_|refine xwr_raw ?_);conv=>whnf)|((first|refine DrawX_s tabOk folOk ?_|refine DrawS_i (by kernel_rfl) ?_|with_reducible refine andX_i ?_ ?_)<;>conv=>whnf)|with_reducible exact rfl|((with_reducible first|refine xif_kt (by assumption) ?_|refine xif_kf (by assumption) ?_);conv=>whnf)|((with_reducible refine xif_s ?_ ?_)<;>(intro hb;(try simp (disch:=omega) only [hbS] at hb)<;>conv=>whnf)))
  refine LoopX_inv tabOk (α := Nat) (fun k => k ≤ n ∧ ∀ j, j < k → (l.getD j e0).cell ≠ x) (fun k => [(5, I k), (0, .v (.slice A n c)), (3, .p 0 0), (4, .p 1 0)]) (fun _ => [.box 27 [I x.1, I x.2], .box 44 [I 0, I 0, I 0, I 0]]) (fun k => n - k) 0 [0, 1] ⟨Nat.zero_le _, by omega⟩ ?_ ?_
  · ((refine ⟨?_, ?_, ?_, ?_⟩) <;> (repeat' ((conv => whnf); apply And.intro)) <;> (try (first | exact trivial | decide)))
    all_goals first | rfl | exact fun _ _ h => h | (simp [SV.wf, SV.wfs]; done) | trace_state
  · rintro k ⟨hk, hf⟩
    by_cases hlt : k < n
    · (conv=>whnf);repeat' (first|((with_reducible refine isV ?_);first|((first|refine ValX_index tabOk rfl (hpre.mem (by decide) rfl) rfl ?_ ?_ ?_|(with_reducible refine nat_idx ?_);refine ValX_loadEn _ _ (e0) tabOk rfl rfl rfl rfl (hpre.mem (by decide) rfl) ?_ ?_ ?_|refine ValX_loadE _ _ (e0) tabOk rfl rfl rfl rfl (hpre.mem (by decide) rfl) ?_ ?_ ?_)<;>first|rfl|omega|with_reducible refine isP ?_|conv=>whnf)|((first|(with_reducible refine nat_idxF ?_);refine ValX_loadGn _ _ (e0) _ tabOk rfl rfl rfl (hpre.mem (by decide) rfl) ?_ ?_ rfl rfl ?_|refine ValX_loadG _ _ (e0) _ tabOk rfl rfl rfl (hpre.mem (by decide) rfl) ?_ ?_ rfl rfl ?_)<;>first|omega|with_reducible refine isP ?_|conv=>whnf))|((with_reducible refine isW ?_;first|refine xwr_ok (by omega) (by omega) ?_|refine xwr_raw ?_);conv=>whnf)|((first|refine DrawX_s tabOk folOk ?_|refine DrawS_i (by kernel_rfl) ?_|with_reducible refine andX_i ?_ ?_)<;>conv=>whnf)|with_reducible exact rfl|((with_reducible first|refine xif_kt (by assumption) ?_|refine xif_kf (by assumption) ?_);conv=>whnf)|((with_reducible refine xif_s ?_ ?_)<;>(intro hb;(try simp (disch:=omega) only [hbS] at hb)<;>conv=>whnf)))
      all_goals try (exfalso; omega)
      · have e := getF_at (c := x) (by omega) (Prod.ext (by simpa [EntT.cell] using hb.1) (by simpa [EntT.cell] using hb.2)) hf
        exact Fin_pure rfl (by rw [e]) (by simp [SV.wf, SV.wfs])
      · refine ⟨k + 1, [0, 1], ⟨by omega, fun j hj => ?_⟩, ?_, by (try dsimp only); omega⟩
        · by_cases hjk : j = k
          · subst hjk
            intro hc
            rw [← hc] at hb
            simp [EntT.cell] at hb
          · exact hf j (by omega)
        · ((refine ⟨?_, ?_, ?_, ?_⟩) <;> (repeat' ((conv => whnf); apply And.intro)) <;> (try (first | exact trivial | decide)))
          all_goals first | rfl | exact fun _ _ h => h | exact I_eq (wr (by omega) (by omega)) | (simp [SV.wf, SV.wfs]; done) | trace_state
    · obtain rfl : k = n := by omega
      (conv=>whnf);repeat' (first|((with_reducible refine isW ?_;first|refine xwr_ok (by omega) (by omega) ?_|refine xwr_raw ?_);conv=>whnf)|((first|refine DrawX_s tabOk folOk ?_|refine DrawS_i (by kernel_rfl) ?_|with_reducible refine andX_i ?_ ?_)<;>conv=>whnf)|with_reducible exact rfl|((with_reducible first|refine xif_kt (by assumption) ?_|refine xif_kf (by assumption) ?_);conv=>whnf)|((with_reducible refine xif_s ?_ ?_)<;>(intro hb;(try simp (disch:=omega) only [hbS] at hb)<;>conv=>whnf)))
      all_goals try (exfalso; omega)
      have e := getF_no (l := l) (c := x) (fun j hj => hf j (by omega))
      exact Fin_pure rfl (by rw [e]) (by simp [SV.wf, SV.wfs])
theorem rAtF_w (A : Option Addr) (c : Nat) (l : List EntT) (x : CellT) {n : Nat} (hl : l.length = n) (hn : n ≤ maxLen) :
    CallW Tryd.prog 45 [.v (.slice A n c), .a [I x.1, I x.2]] (fun w => ArgSl w A n 4 (l.map encE)) (.a [I (atF l x).1, I (atF l x).2.1, I (atF l x).2.2.1, I (atF l x).2.2.2]) := by
  unfold atF
  have k1 := rVE_w A c l hl hn
  have k2 := find_w A c l x hl hn
  cases hv : vE l with
  | false =>
    rw [hv] at k1
    refine CallW.of Tryd.func45 rfl tabOk rfl rfl rfl (by simp [SV.wfs, SV.wf]) (by simp [SV.wfs, SV.wf]) fun w hpre => ?_
    (conv=>whnf);repeat' (first|((with_reducible refine isC ?_);first|(((with_reducible refine isF 15 ?_;refine CallX_w (k1) ?_ ?_);(focus exact hpre.mem (by decide) rfl));conv=>whnf))|with_reducible exact rfl|((with_reducible first|refine xif_kt (by assumption) ?_|refine xif_kf (by assumption) ?_);conv=>whnf)|((with_reducible refine xif_s ?_ ?_)<;>(intro hb;(try simp (disch:=omega) only [hbS] at hb)<;>conv=>whnf)))
    exact Fin_pure rfl rfl (by simp [SV.wf, SV.wfs])
  | true =>
    rw [hv] at k1
    rw [if_pos rfl]
    refine CallW.of Tryd.func45 rfl tabOk rfl rfl rfl (by simp [SV.wfs, SV.wf]) (by simp [SV.wfs, SV.wf]) fun w hpre => ?_
    (conv=>whnf);repeat' (first|((with_reducible refine isC ?_);first|((first|(with_reducible refine isF 15 ?_;refine CallX_w (k1) ?_ ?_);(focus exact hpre.mem (by decide) rfl)|(with_reducible refine isF 62 ?_;refine CallX_w (k2) ?_ ?_);(focus exact hpre.mem (by decide) rfl));conv=>whnf))|with_reducible exact rfl|((with_reducible first|refine xif_kt (by assumption) ?_|refine xif_kf (by assumption) ?_);conv=>whnf)|((with_reducible refine xif_s ?_ ?_)<;>(intro hb;(try simp (disch:=omega) only [hbS] at hb)<;>conv=>whnf)))
    exact Fin_pure rfl rfl (by simp [SV.wf, SV.wfs])
theorem rValue_x (e : EntT) : PureX Tryd.prog 44 [.a [I e.1, I e.2.1, I e.2.2.1, I e.2.2.2]] (.v (.int .u8 (valueF e))) := by
  have hb1 := value_bd e
  unfold valueF at *
  by_cases h1 : 0 < e.2.2.1
  · cases h2 : countB e with
    | true =>
      have hc := countB_bd h2
      simp only [h1, h2, and_self, if_true] at hb1 ⊢
      rw [countB, Bool.and_eq_true] at h2
      refine PureX.of Tryd.func44 rfl tabOk rfl rfl rfl (by simp [SV.wfs, SV.wf]) (by simp [SV.wfs, SV.wf]) fun w => ?_
      (conv=>whnf);repeat' (first|((with_reducible refine isC ?_);first|((with_reducible refine CallX_pure (Size_x _ _ ?_ ?_) ?_)<;>first|omega|with_reducible refine isP ?_|conv=>whnf))|((with_reducible refine isW ?_;first|refine xwr_ok (by omega) (by omega) ?_|refine xwr_raw ?_);conv=>whnf)|((with_reducible refine isQ ?_;first|refine xquo_nn (by omega) (by omega) (by omega) ?_|refine xquo_ok (by omega) (by omega) (by omega) ?_|refine xquo_raw (by omega) ?_);conv=>whnf)|((with_reducible refine isK ?_;first|refine xcv_i64 (by omega) (by omega) ?_|refine xcv_u64 (by omega) (by omega) ?_|refine xcv_u8 (by omega) (by omega) ?_|refine xcv_raw ?_);conv=>whnf)|((with_reducible refine need_i ?_ ?_)<;>first|omega|conv=>whnf)|with_reducible exact rfl|((with_reducible first|refine xif_kt (by assumption) ?_|refine xif_kf (by assumption) ?_);conv=>whnf)|((with_reducible refine xif_s ?_ ?_)<;>(intro hb;(try simp (disch:=omega) only [hbS] at hb)<;>conv=>whnf)))
      all_goals first
        | exact Fin_pure rfl rfl trivial
        | omega
        | (exfalso; simp_all; done)
        | trace_state
    | false =>
      simp only [h2, Bool.false_eq_true, and_false, if_false]
      rw [countB, Bool.and_eq_false_iff] at h2
      refine PureX.of Tryd.func44 rfl tabOk rfl rfl rfl (by simp [SV.wfs, SV.wf]) (by simp [SV.wfs, SV.wf]) fun w => ?_
      (conv=>whnf);repeat' (first|((with_reducible refine isC ?_);first|((with_reducible refine CallX_pure (Size_x _ _ ?_ ?_) ?_)<;>first|omega|with_reducible refine isP ?_|conv=>whnf))|((with_reducible refine isW ?_;first|refine xwr_ok (by omega) (by omega) ?_|refine xwr_raw ?_);conv=>whnf)|((with_reducible refine isQ ?_;first|refine xquo_nn (by omega) (by omega) (by omega) ?_|refine xquo_ok (by omega) (by omega) (by omega) ?_|refine xquo_raw (by omega) ?_);conv=>whnf)|((with_reducible refine isK ?_;first|refine xcv_i64 (by omega) (by omega) ?_|refine xcv_u64 (by omega) (by omega) ?_|refine xcv_u8 (by omega) (by omega) ?_|refine xcv_raw ?_);conv=>whnf)|((with_reducible refine need_i ?_ ?_)<;>first|omega|conv=>whnf)|with_reducible exact rfl|((with_reducible first|refine xif_kt (by assumption) ?_|refine xif_kf (by assumption) ?_);conv=>whnf)|((with_reducible refine xif_s ?_ ?_)<;>(intro hb;(try simp (disch:=omega) only [hbS] at hb)<;>conv=>whnf)))
      all_goals first
        | exact Fin_pure rfl rfl trivial
        | omega
        | (exfalso; simp_all; done)
        | trace_state
  · simp only [h1, false_and, if_false]
    refine PureX.of Tryd.func44 rfl tabOk rfl rfl rfl (by simp [SV.wfs, SV.wf]) (by simp [SV.wfs, SV.wf]) fun w => ?_
    (conv=>whnf);repeat' (first|((with_reducible refine isW ?_;first|refine xwr_ok (by omega) (by omega) ?_|refine xwr_raw ?_);conv=>whnf)|((with_reducible refine isQ ?_;first|refine xquo_nn (by omega) (by omega) (by omega) ?_|refine xquo_ok (by omega) (by omega) (by omega) ?_|refine xquo_raw (by omega) ?_);conv=>whnf)|((with_reducible refine isK ?_;first|refine xcv_i64 (by omega) (by omega) ?_|refine xcv_u64 (by omega) (by omega) ?_|refine xcv_u8 (by omega) (by omega) ?_|refine xcv_raw ?_);conv=>whnf)|((with_reducible refine need_i ?_ ?_)<;>first|omega|conv=>whnf)|with_reducible exact rfl|((with_reducible first|refine xif_kt (by assumption) ?_|refine xif_kf (by assumption) ?_);conv=>whnf)|((with_reducible refine xif_s ?_ ?_)<;>(intro hb;(try simp (disch:=omega) only [hbS] at hb)<;>conv=>whnf)))
    all_goals try (exfalso; omega)
    exact Fin_pure rfl rfl trivial
theorem rOccupied_x (e : EntT) : PureX Tryd.prog 26 [.a [I e.1, I e.2.1, I e.2.2.1, I e.2.2.2]] (B (decide (128 ≤ valueF e))) := by
  have h := rValue_x e
  have hb1 := value_bd e
  generalize valueF e = v at *
  refine PureX.of Tryd.func26 rfl tabOk rfl rfl rfl (by simp [SV.wfs, SV.wf]) (by simp [SV.wfs, SV.wf]) fun w => ?_
  (conv=>whnf);repeat' (first|((with_reducible refine isC ?_);first|((with_reducible refine CallX_pure (h) ?_)<;>first|omega|with_reducible refine isP ?_|conv=>whnf))|with_reducible exact rfl|((with_reducible first|refine xif_kt (by assumption) ?_|refine xif_kf (by assumption) ?_);conv=>whnf)|((with_reducible refine xif_s ?_ ?_)<;>(intro hb;(try simp (disch:=omega) only [hbS] at hb)<;>conv=>whnf)))
  all_goals first
    | exact Fin_pure rfl rfl trivial
    | trace_state
theorem Occupied_x (e : EntT) : PureX Tryd.prog 25 [.a [I e.1, I e.2.1, I e.2.2.1, I e.2.2.2]] (B (decide (128 ≤ valueF e))) := by
  have h := Value_x e
  have hb1 := value_bd e
  generalize valueF e = v at *
  refine PureX.of Tryd.func25 rfl tabOk rfl rfl rfl (by simp [SV.wfs, SV.wf]) (by simp [SV.wfs, SV.wf]) fun w => ?_
  (conv=>whnf);repeat' (first|((with_reducible refine isC ?_);first|((with_reducible refine CallX_pure (h) ?_)<;>first|omega|with_reducible refine isP ?_|conv=>whnf))|with_reducible exact rfl|((with_reducible first|refine xif_kt (by assumption) ?_|refine xif_kf (by assumption) ?_);conv=>whnf)|((with_reducible refine xif_s ?_ ?_)<;>(intro hb;(try simp (disch:=omega) only [hbS] at hb)<;>conv=>whnf)))
  all_goals first
    | exact Fin_pure rfl rfl trivial
    | trace_state
end Go.Proofs.YtadichckbogcjaaDoor.En
