/- evidence.FieldOf by the executor -/
import Derived.Test.YtdjimfngnhnhnaaYa
import Derived.Test.YtdjimfngnhnhnaaYb
set_option linter.all false
namespace Go.Proofs.Ytdjimfngnhnhnaa.En
open Go.RowKit
set_option maxRecDepth 100000

/-- the values that are returned: nil, if there are none -/
abbrev FldI (N : Nat) := {q : Option Addr × Nat // N = 0 → q.1 = none}
abbrev FldT := (Int × Int × Int × Int) × List Int × Int
theorem seen_len (l : List EntT) : (seenL l).length ≤ l.length := List.length_filter_le _ _
theorem neT_before {s : List EntT} (h : neT s) {k : Nat} (hk : k < s.length) : ∀ x ∈ s.take k, x.cell ≠ (s.getD k e0).cell := by
  intro x hx
  obtain ⟨i, hi, rfl⟩ := List.getElem_of_mem hx
  rw [List.length_take] at hi
  have := List.pairwise_iff_getElem.1 h i k (by omega) hk (by omega)
  rw [List.getElem_take]
  simpa [hk] using this
theorem take_snoc {s : List EntT} {k : Nat} (hk : k < s.length) : s.take (k + 1) = s.take k ++ [s.getD k e0] := by
  rw [List.take_succ_eq_append_getElem hk]
  simp [hk]
set_option maxHeartbeats 4000000 in
theorem FieldOf_m (A : Option Addr) (c : Nat) (l : List EntT) (r : FldT) (hr : fldE l = r) {n : Nat} (hl : l.length = n) (hn : n ≤ maxLen) :
    CallM Try.prog 36 [.v (.slice A n c)] (fun w M => ArgN w M A n 4 (l.map encE)) []
      (fun q : FldI r.2.1.length => .t [.a [I r.1.1, I r.1.2.1, I r.1.2.2.1, I r.1.2.2.2, .v (.slice q.1.1 r.2.1.length q.1.2)], I r.2.2]) (fun q => [.row 5 1 q.1.1 r.2.1.length q.1.2 (r.2.1.map encY)]) := by
  have hn' := hn
  unfold maxLen at hn'
  have kv := Valid_v A c l hl hn
  cases hv : vE l with
  | false =>
    obtain rfl : r = ((0, 0, 0, 0), [], 1) := by rw [← hr]; unfold fldE; rw [hv]; rfl
    rw [hv] at kv
    refine CallM.of (m := 0) Try.func36 rfl tabOk rfl rfl rfl rfl (by simp [SV.wfs, SV.wf]) fun w M π hpre => ?_
    (conv => whnf); repeat' (first | ((with_reducible refine isC ?_); first | ((with_reducible refine isF 19 ?_); (with_reducible refine CallX_v (kv) ?_ ?_); (focus (exact ArgN.mem hpre (by decide))); conv => whnf)) | ((with_reducible refine isO ?_); first | ((refine OpX_build0 tabOk rfl rfl rfl ?_); intro bN; conv => whnf) | ((refine OpX_build tabOk rfl rfl rfl rfl rfl ?_); intro bN; conv => whnf)) | ((with_reducible refine isW ?_); first | ((with_reducible refine xwr_ok (by omega) (by omega) ?_); conv => whnf) | ((with_reducible refine xwr_raw ?_); conv => whnf)) | ((with_reducible refine isQ ?_); first | ((with_reducible refine xquo_nn (by omega) (by omega) (by omega) ?_); conv => whnf) | ((with_reducible refine xquo_ok (by omega) (by omega) (by omega) ?_); conv => whnf) | ((with_reducible refine xquo_raw (by omega) ?_); conv => whnf)) | ((with_reducible refine isR ?_); first | ((with_reducible refine xrem_nn (by omega) (by omega) ?_); conv => whnf) | ((with_reducible refine xrem_raw (by omega) ?_); conv => whnf)) | ((with_reducible refine isS ?_); first | ((with_reducible refine xshr_1 ?_); conv => whnf)) | ((with_reducible refine isK ?_); first | ((with_reducible refine xcv_i64 (by omega) (by omega) ?_); conv => whnf) | ((with_reducible refine xcv_u64 (by omega) (by omega) ?_); conv => whnf) | ((with_reducible refine xcv_u8 (by omega) (by omega) ?_); conv => whnf) | ((with_reducible refine xcv_raw ?_); conv => whnf)) | ((with_reducible refine need_i ?_ ?_) <;> first | omega | (conv => whnf)) | ((refine DrawX_s tabOk folOk ?_); conv => whnf) | ((refine DrawS_i (by kernel_rfl) ?_); conv => whnf) | ((with_reducible refine andX_i ?_ ?_) <;> (conv => whnf)) | (with_reducible exact rfl) | ((with_reducible refine xif_kt (by with_reducible assumption) ?_); conv => whnf) | ((with_reducible refine xif_kf (by with_reducible assumption) ?_); conv => whnf) | (((with_reducible refine xif_s ?_ ?_) <;> (intro hb; (try simp (disch := omega) only [wr, ge_dec, gt_dec, decide_eq_true_eq, decide_eq_false_iff_not, beq_iff_eq, bne_iff_ne, beq_eq_false_iff_ne, bne_eq_false_iff_eq, Bool.not_eq_true', Bool.not_eq_false', Bool.and_eq_true, Bool.or_eq_true, Bool.not_not, ne_eq, Decidable.not_not, Int.not_le, Int.not_lt, Int.toNat_natCast, not_true_eq_false, eq_self, Bool.not_true, Bool.not_false, Bool.true_eq_false, Bool.false_eq_true] at hb))) <;> (conv => whnf)))
    refine Fin_addNil 5 1 ?_
    exact Fin_m ⟨(none, 0), fun _ => rfl⟩ [1] ⟨rfl, by simp [SV.wf, SV.wfs]⟩ ⟨⟨rfl, rfl, rfl, rfl, rfl, rfl⟩, trivial⟩ (by decide) rfl
  | true =>
    rw [hv] at kv
    have hlen := vE_len hv
    have hne : neT (seenL l) := List.Pairwise.filter _ (asc_ne (vE_pairwise hv))
    have hgood : ∀ x ∈ seenL l, (-16384 ≤ x.1 ∧ x.1 ≤ 16384) ∧ -16384 ≤ x.2.1 ∧ x.2.1 ≤ 16384 := by
      intro x hx
      have := vE_good hv (List.mem_filter.1 hx).1
      simp only [goodB, szB, Bool.and_eq_true, decide_eq_true_eq] at this
      exact ⟨this.1.2, this.2⟩
    have hsl := seen_len l
    have htk : ∀ k, k < n → seenL (l.take (k + 1)) = seenL (l.take k) ++ if 0 < valueF (l.getD k e0) then [l.getD k e0] else [] := fun k hk => seen_take (by omega)
    have htl : ∀ k, (seenL (l.take k)).length ≤ k := fun k => Nat.le_trans (seen_len _) (by rw [List.length_take]; omega)
    have hval := seen_val (asc_ne (vE_pairwise hv))
    have hfe : r = if seenL l = [] then ((0, 0, 0, 0), [], 0)
        else if 64 < fW (bbF (seenL l)) ∨ 64 < fH (bbF (seenL l)) then ((0, 0, 0, 0), [], 6)
        else (((bbF (seenL l)).1, (bbF (seenL l)).2.2.1, fW (bbF (seenL l)), fH (bbF (seenL l))), (List.range (fW (bbF (seenL l)) * fH (bbF (seenL l))).toNat).map (gB (seenL l) (bbF (seenL l)).1 (bbF (seenL l)).2.2.1 (fW (bbF (seenL l)))), 0) := by
      rw [← hr]
      unfold fldE
      rw [hv, if_pos rfl]
      have : gB l (bbF (seenL l)).1 (bbF (seenL l)).2.2.1 (fW (bbF (seenL l))) = gB (seenL l) (bbF (seenL l)).1 (bbF (seenL l)).2.2.1 (fW (bbF (seenL l))) := funext fun i => (hval _).symm
      rw [this]
    refine CallM.of (m := 0) Try.func36 rfl tabOk rfl rfl rfl rfl (by simp [SV.wfs, SV.wf]) fun w M π hpre => ?_
    (conv => whnf); repeat' (first | ((with_reducible refine isC ?_); first | ((with_reducible refine isF 19 ?_); (with_reducible refine CallX_v (kv) ?_ ?_); (focus (exact ArgN.mem hpre (by decide))); conv => whnf)) | ((with_reducible refine isO ?_); first | ((refine OpX_build0 tabOk rfl rfl rfl ?_); intro bN; conv => whnf) | ((refine OpX_build tabOk rfl rfl rfl rfl rfl ?_); intro bN; conv => whnf)) | ((with_reducible refine isW ?_); first | ((with_reducible refine xwr_ok (by omega) (by omega) ?_); conv => whnf) | ((with_reducible refine xwr_raw ?_); conv => whnf)) | ((with_reducible refine isQ ?_); first | ((with_reducible refine xquo_nn (by omega) (by omega) (by omega) ?_); conv => whnf) | ((with_reducible refine xquo_ok (by omega) (by omega) (by omega) ?_); conv => whnf) | ((with_reducible refine xquo_raw (by omega) ?_); conv => whnf)) | ((with_reducible refine isR ?_); first | ((with_reducible refine xrem_nn (by omega) (by omega) ?_); conv => whnf) | ((with_reducible refine xrem_raw (by omega) ?_); conv => whnf)) | ((with_reducible refine isS ?_); first | ((with_reducible refine xshr_1 ?_); conv => whnf)) | ((with_reducible refine isK ?_); first | ((with_reducible refine xcv_i64 (by omega) (by omega) ?_); conv => whnf) | ((with_reducible refine xcv_u64 (by omega) (by omega) ?_); conv => whnf) | ((with_reducible refine xcv_u8 (by omega) (by omega) ?_); conv => whnf) | ((with_reducible refine xcv_raw ?_); conv => whnf)) | ((with_reducible refine need_i ?_ ?_) <;> first | omega | (conv => whnf)) | ((refine DrawX_s tabOk folOk ?_); conv => whnf) | ((refine DrawS_i (by kernel_rfl) ?_); conv => whnf) | ((with_reducible refine andX_i ?_ ?_) <;> (conv => whnf)) | (with_reducible exact rfl) | ((with_reducible refine xif_kt (by with_reducible assumption) ?_); conv => whnf) | ((with_reducible refine xif_kf (by with_reducible assumption) ?_); conv => whnf) | (((with_reducible refine xif_s ?_ ?_) <;> (intro hb; (try simp (disch := omega) only [wr, ge_dec, gt_dec, decide_eq_true_eq, decide_eq_false_iff_not, beq_iff_eq, bne_iff_ne, beq_eq_false_iff_ne, bne_eq_false_iff_eq, Bool.not_eq_true', Bool.not_eq_false', Bool.and_eq_true, Bool.or_eq_true, Bool.not_not, ne_eq, Decidable.not_not, Int.not_le, Int.not_lt, Int.toNat_natCast, not_true_eq_false, eq_self, Bool.not_true, Bool.not_false, Bool.true_eq_false, Bool.false_eq_true] at hb))) <;> (conv => whnf)))
    refine LoopX_addNil 36 4 ?_
    conv => whnf
    refine LoopX_inv tabOk (α := Nat × Option Addr × Nat) (fun p => p.1 ≤ n) (fun p => [(2, .p 0 0), (3, I 0), (4, .v (.slice p.2.1 (seenL (l.take p.1)).length p.2.2)), (18, .v (.slice A n c)), (19, I n), (20, I p.1)])
      (fun p => [.box 61 [I 0, I 0, I 0, I 0, .v (.slice none 0 0)], .row 36 4 p.2.1 (seenL (l.take p.1)).length p.2.2 ((seenL (l.take p.1)).map encE)]) (fun p => n - p.1) (0, none, 0) [0, 1] (Nat.zero_le _) ?_ ?_
    · ((refine ⟨?_, ?_, ?_, ?_⟩) <;> (repeat' ((conv => whnf); apply And.intro)) <;> (try (first | exact trivial | decide)))
      all_goals first | rfl | exact fun _ _ h => h | (simp [SV.wf, SV.wfs]; done) | trace_state
    · rintro ⟨k, A1, c1⟩ hk
      dsimp only at hk ⊢
      have hk2 := htl k
      by_cases hlt : k < n
      · have hx := Value_x (l.getD k e0)
        have hb1 := value_bd (l.getD k e0)
        have hsk := htk k hlt
        generalize seenL (l.take k) = s at *
        (conv => whnf); repeat' (first | ((with_reducible refine isC ?_); first | ((with_reducible refine CallX_pure (hx) ?_) <;> first | omega | (with_reducible show (_ : Int) ≤ _) | (with_reducible show (_ : Int) < _) | (with_reducible show (_ : Nat) ≤ _) | (with_reducible show (_ : Nat) < _) | (conv => whnf))) | ((with_reducible refine isV ?_); first | ((refine ValX_index tabOk rfl (ArgN.mem hpre (by decide)) rfl ?_ ?_ ?_) <;> first | omega | (with_reducible show (_ : Int) ≤ _) | (with_reducible show (_ : Int) < _) | (with_reducible show (_ : Nat) ≤ _) | (with_reducible show (_ : Nat) < _) | (conv => whnf)) | ((with_reducible refine nat_idx ?_); (refine ValX_loadEn _ _ (e0) tabOk rfl rfl rfl rfl (ArgN.mem hpre (by decide)) ?_ ?_ ?_) <;> first | rfl | omega | (with_reducible show (_ : Int) ≤ _) | (with_reducible show (_ : Int) < _) | (with_reducible show (_ : Nat) ≤ _) | (with_reducible show (_ : Nat) < _) | (conv => whnf)) | ((refine ValX_loadE _ _ (e0) tabOk rfl rfl rfl rfl (ArgN.mem hpre (by decide)) ?_ ?_ ?_) <;> first | rfl | omega | (with_reducible show (_ : Int) ≤ _) | (with_reducible show (_ : Int) < _) | (with_reducible show (_ : Nat) ≤ _) | (with_reducible show (_ : Nat) < _) | (conv => whnf))) | ((with_reducible refine isO ?_); first | ((refine OpX_append 1 tabOk rfl rfl rfl rfl (ArgSl.row 3 rfl) (by decide) ?_ ?_ ?_) <;> first | omega | (dsimp only; omega) | (intro A' c'; conv => whnf)) | ((refine OpX_build0 tabOk rfl rfl rfl ?_); intro bN; conv => whnf) | ((refine OpX_build tabOk rfl rfl rfl rfl rfl ?_); intro bN; conv => whnf)) | ((with_reducible refine isW ?_); first | ((with_reducible refine xwr_ok (by omega) (by omega) ?_); conv => whnf) | ((with_reducible refine xwr_raw ?_); conv => whnf)) | ((with_reducible refine isQ ?_); first | ((with_reducible refine xquo_nn (by omega) (by omega) (by omega) ?_); conv => whnf) | ((with_reducible refine xquo_ok (by omega) (by omega) (by omega) ?_); conv => whnf) | ((with_reducible refine xquo_raw (by omega) ?_); conv => whnf)) | ((with_reducible refine isR ?_); first | ((with_reducible refine xrem_nn (by omega) (by omega) ?_); conv => whnf) | ((with_reducible refine xrem_raw (by omega) ?_); conv => whnf)) | ((with_reducible refine isS ?_); first | ((with_reducible refine xshr_1 ?_); conv => whnf)) | ((with_reducible refine isK ?_); first | ((with_reducible refine xcv_i64 (by omega) (by omega) ?_); conv => whnf) | ((with_reducible refine xcv_u64 (by omega) (by omega) ?_); conv => whnf) | ((with_reducible refine xcv_u8 (by omega) (by omega) ?_); conv => whnf) | ((with_reducible refine xcv_raw ?_); conv => whnf)) | ((with_reducible refine need_i ?_ ?_) <;> first | omega | (conv => whnf)) | ((refine DrawX_s tabOk folOk ?_); conv => whnf) | ((refine DrawS_i (by kernel_rfl) ?_); conv => whnf) | ((with_reducible refine andX_i ?_ ?_) <;> (conv => whnf)) | (with_reducible exact rfl) | ((with_reducible refine xif_kt (by with_reducible assumption) ?_); conv => whnf) | ((with_reducible refine xif_kf (by with_reducible assumption) ?_); conv => whnf) | (((with_reducible refine xif_s ?_ ?_) <;> (intro hb; (try simp (disch := omega) only [wr, ge_dec, gt_dec, decide_eq_true_eq, decide_eq_false_iff_not, beq_iff_eq, bne_iff_ne, beq_eq_false_iff_ne, bne_eq_false_iff_eq, Bool.not_eq_true', Bool.not_eq_false', Bool.and_eq_true, Bool.or_eq_true, Bool.not_not, ne_eq, Decidable.not_not, Int.not_le, Int.not_lt, Int.toNat_natCast, not_true_eq_false, eq_self, Bool.not_true, Bool.not_false, Bool.true_eq_false, Bool.false_eq_true] at hb))) <;> (conv => whnf)))
        all_goals try (exfalso; omega)
        · refine ⟨(k + 1, A', c'), [0, 1], by (try dsimp only); omega, ?_, by (try dsimp only); omega⟩
          dsimp only
          rw [hsk, if_pos (by simpa using hb), List.length_append, List.map_append]
          ((refine ⟨?_, ?_, ?_, ?_⟩) <;> (repeat' ((conv => whnf); apply And.intro)) <;> (try (first | exact trivial | decide)))
          all_goals first | rfl | exact fun _ _ h => h | (simp [SV.wf, SV.wfs]; done) | trace_state
        · refine ⟨(k + 1, A1, c1), [0, 1], by (try dsimp only); omega, ?_, by (try dsimp only); omega⟩
          dsimp only
          rw [hsk, if_neg (by simpa using hb), List.append_nil]
          ((refine ⟨?_, ?_, ?_, ?_⟩) <;> (repeat' ((conv => whnf); apply And.intro)) <;> (try (first | exact trivial | decide)))
          all_goals first | rfl | exact fun _ _ h => h | (simp [SV.wf, SV.wfs]; done) | trace_state
      · obtain rfl : k = n := by omega
        have htn : l.take k = l := by rw [← hl]; exact List.take_length
        rw [htn]
        clear htk htl hval kv
        clear hr
        by_cases hS : seenL l = []
        · obtain rfl : r = ((0, 0, 0, 0), [], 0) := by rw [hfe, if_pos hS]
          rw [hS]
          (conv => whnf); repeat' (first | ((with_reducible refine isO ?_); first | ((refine OpX_build0 tabOk rfl rfl rfl ?_); intro bN; conv => whnf) | ((refine OpX_build tabOk rfl rfl rfl rfl rfl ?_); intro bN; conv => whnf)) | ((with_reducible refine isW ?_); first | ((with_reducible refine xwr_ok (by omega) (by omega) ?_); conv => whnf) | ((with_reducible refine xwr_raw ?_); conv => whnf)) | ((with_reducible refine isQ ?_); first | ((with_reducible refine xquo_nn (by omega) (by omega) (by omega) ?_); conv => whnf) | ((with_reducible refine xquo_ok (by omega) (by omega) (by omega) ?_); conv => whnf) | ((with_reducible refine xquo_raw (by omega) ?_); conv => whnf)) | ((with_reducible refine isR ?_); first | ((with_reducible refine xrem_nn (by omega) (by omega) ?_); conv => whnf) | ((with_reducible refine xrem_raw (by omega) ?_); conv => whnf)) | ((with_reducible refine isS ?_); first | ((with_reducible refine xshr_1 ?_); conv => whnf)) | ((with_reducible refine isK ?_); first | ((with_reducible refine xcv_i64 (by omega) (by omega) ?_); conv => whnf) | ((with_reducible refine xcv_u64 (by omega) (by omega) ?_); conv => whnf) | ((with_reducible refine xcv_u8 (by omega) (by omega) ?_); conv => whnf) | ((with_reducible refine xcv_raw ?_); conv => whnf)) | ((with_reducible refine need_i ?_ ?_) <;> first | omega | (conv => whnf)) | ((refine DrawX_s tabOk folOk ?_); conv => whnf) | ((refine DrawS_i (by kernel_rfl) ?_); conv => whnf) | ((with_reducible refine andX_i ?_ ?_) <;> (conv => whnf)) | (with_reducible exact rfl) | ((with_reducible refine xif_kt (by with_reducible assumption) ?_); conv => whnf) | ((with_reducible refine xif_kf (by with_reducible assumption) ?_); conv => whnf) | (((with_reducible refine xif_s ?_ ?_) <;> (intro hb; (try simp (disch := omega) only [wr, ge_dec, gt_dec, decide_eq_true_eq, decide_eq_false_iff_not, beq_iff_eq, bne_iff_ne, beq_eq_false_iff_ne, bne_eq_false_iff_eq, Bool.not_eq_true', Bool.not_eq_false', Bool.and_eq_true, Bool.or_eq_true, Bool.not_not, ne_eq, Decidable.not_not, Int.not_le, Int.not_lt, Int.toNat_natCast, not_true_eq_false, eq_self, Bool.not_true, Bool.not_false, Bool.true_eq_false, Bool.false_eq_true] at hb))) <;> (conv => whnf)))
          all_goals try (exfalso; omega)
          refine Fin_addNil 5 1 ?_
          exact Fin_m ⟨(none, 0), fun _ => rfl⟩ [2] ⟨by rfl, by simp [SV.wf, SV.wfs]⟩ ⟨⟨rfl, rfl, rfl, rfl, rfl, rfl⟩, trivial⟩ (by decide) rfl
        · rw [if_neg hS] at hfe
          have hf1 : (64 < fW (bbF (seenL l)) ∨ 64 < fH (bbF (seenL l))) → r = ((0, 0, 0, 0), [], 6) := fun h => by rw [hfe, if_pos h]
          have hf2 : ¬ (64 < fW (bbF (seenL l)) ∨ 64 < fH (bbF (seenL l))) → r = (((bbF (seenL l)).1, (bbF (seenL l)).2.2.1, fW (bbF (seenL l)), fH (bbF (seenL l))), (List.range (fW (bbF (seenL l)) * fH (bbF (seenL l))).toNat).map (gB (seenL l) (bbF (seenL l)).1 (bbF (seenL l)).2.2.1 (fW (bbF (seenL l)))), 0) := fun h => by rw [hfe, if_neg h]
          clear hfe
          have hpos : 0 < (seenL l).length := List.length_pos_iff.2 hS
          have hfold : ∀ j, j < (seenL l).length → ((seenL l).take (j + 1)).foldl bbS (bb1 ((seenL l).getD 0 e0)) = bbS (((seenL l).take j).foldl bbS (bb1 ((seenL l).getD 0 e0))) ((seenL l).getD j e0) := fun j hj => fold_take bbS _ (d := e0) hj
          have hbb : bbF (seenL l) = ((seenL l).take (seenL l).length).foldl bbS (bb1 ((seenL l).getD 0 e0)) := by
            rw [List.take_length]
            cases hq : seenL l with
            | nil => exact (hS hq).elim
            | cons x r => rfl
          have hbd : ∀ j, (-16384 ≤ (((seenL l).take j).foldl bbS (bb1 ((seenL l).getD 0 e0))).1 ∧ (((seenL l).take j).foldl bbS (bb1 ((seenL l).getD 0 e0))).1 ≤ 16384) ∧ (-16384 ≤ (((seenL l).take j).foldl bbS (bb1 ((seenL l).getD 0 e0))).2.1 ∧ (((seenL l).take j).foldl bbS (bb1 ((seenL l).getD 0 e0))).2.1 ≤ 16384) ∧ (-16384 ≤ (((seenL l).take j).foldl bbS (bb1 ((seenL l).getD 0 e0))).2.2.1 ∧ (((seenL l).take j).foldl bbS (bb1 ((seenL l).getD 0 e0))).2.2.1 ≤ 16384) ∧ -16384 ≤ (((seenL l).take j).foldl bbS (bb1 ((seenL l).getD 0 e0))).2.2.2 ∧ (((seenL l).take j).foldl bbS (bb1 ((seenL l).getD 0 e0))).2.2.2 ≤ 16384 := by
            intro j
            have h0 := hgood ((seenL l).getD 0 e0) (by simp [hpos])
            refine bbfold_bd _ _ ?_ fun e he => hgood e (List.mem_of_mem_take he)
            unfold bb1
            dsimp only
            omega
          have hin : ∀ j, j < (seenL l).length → (bbF (seenL l)).1 ≤ ((seenL l).getD j e0).1 ∧ ((seenL l).getD j e0).1 ≤ (bbF (seenL l)).2.1 ∧ (bbF (seenL l)).2.2.1 ≤ ((seenL l).getD j e0).2.1 ∧ ((seenL l).getD j e0).2.1 ≤ (bbF (seenL l)).2.2.2 := fun j hj => bbF_in (by simp [hj])
          have hB0 := hbd (seenL l).length
          rw [← hbb] at hB0
          have hset : ∀ j, j < (seenL l).length → 1 ≤ fW (bbF (seenL l)) → _ := fun j hj hw => gB_set (s := (seenL l).take j) (e := (seenL l).getD j e0) (x0 := (bbF (seenL l)).1) (y0 := (bbF (seenL l)).2.2.1) (W := fW (bbF (seenL l))) (H := fH (bbF (seenL l))) hw (by have := hin j hj; unfold fW; omega) (by have := hin j hj; unfold fH; omega) (neT_before hne hj)
          have hg0 : gB [] (bbF (seenL l)).1 (bbF (seenL l)).2.2.1 (fW (bbF (seenL l))) = fun _ => 0 := by
            funext i
            unfold gB getF
            exact value_zero _
          have hWH : 1 ≤ fW (bbF (seenL l)) ∧ 1 ≤ fH (bbF (seenL l)) := by
            have := hin 0 hpos
            unfold fW fH
            omega
          have hmle : (seenL l).length ≤ 1048576 := by omega
          clear hne hgood hsl hlen
          have hts : ∀ j, j < (seenL l).length → (seenL l).take (j + 1) = (seenL l).take j ++ [(seenL l).getD j e0] := fun j hj => take_snoc hj
          generalize seenL l = S at *
          clear hS hv hk2 hpre htn hl
          generalize hm : S.length = m at *
          (conv => whnf); repeat' (first | ((with_reducible refine isV ?_); first | ((with_reducible refine nat_idxF ?_); (refine ValX_loadGn _ _ (e0) _ tabOk rfl rfl rfl (ArgSl.row 1 rfl) ?_ ?_ rfl rfl ?_) <;> first | omega | (with_reducible show (_ : Int) ≤ _) | (with_reducible show (_ : Int) < _) | (with_reducible show (_ : Nat) ≤ _) | (with_reducible show (_ : Nat) < _) | (conv => whnf)) | ((refine ValX_loadG _ _ (e0) _ tabOk rfl rfl rfl (ArgSl.row 1 rfl) ?_ ?_ rfl rfl ?_) <;> first | omega | (with_reducible show (_ : Int) ≤ _) | (with_reducible show (_ : Int) < _) | (with_reducible show (_ : Nat) ≤ _) | (with_reducible show (_ : Nat) < _) | (conv => whnf)) | ((with_reducible refine nat_idxF ?_); (refine ValX_loadFn _ _ (e0) _ tabOk rfl rfl rfl (ArgSl.row 1 rfl) ?_ ?_ rfl ?_) <;> first | omega | (simp; omega) | (with_reducible show (_ : Int) ≤ _) | (with_reducible show (_ : Int) < _) | (with_reducible show (_ : Nat) ≤ _) | (with_reducible show (_ : Nat) < _) | (conv => whnf)) | ((refine ValX_loadF _ _ (e0) _ tabOk rfl rfl rfl (ArgSl.row 1 rfl) ?_ ?_ rfl ?_) <;> first | omega | (simp; omega) | (with_reducible show (_ : Int) ≤ _) | (with_reducible show (_ : Int) < _) | (with_reducible show (_ : Nat) ≤ _) | (with_reducible show (_ : Nat) < _) | (conv => whnf)) | ((refine ValX_index tabOk rfl (ArgSl.row 1 rfl) rfl ?_ ?_ ?_) <;> first | omega | (with_reducible show (_ : Int) ≤ _) | (with_reducible show (_ : Int) < _) | (with_reducible show (_ : Nat) ≤ _) | (with_reducible show (_ : Nat) < _) | (conv => whnf))) | ((with_reducible refine isO ?_); first | ((refine OpX_build0 tabOk rfl rfl rfl ?_); intro bN; conv => whnf) | ((refine OpX_build tabOk rfl rfl rfl rfl rfl ?_); intro bN; conv => whnf)) | ((with_reducible refine isW ?_); first | ((with_reducible refine xwr_ok (by omega) (by omega) ?_); conv => whnf) | ((with_reducible refine xwr_raw ?_); conv => whnf)) | ((with_reducible refine isQ ?_); first | ((with_reducible refine xquo_nn (by omega) (by omega) (by omega) ?_); conv => whnf) | ((with_reducible refine xquo_ok (by omega) (by omega) (by omega) ?_); conv => whnf) | ((with_reducible refine xquo_raw (by omega) ?_); conv => whnf)) | ((with_reducible refine isR ?_); first | ((with_reducible refine xrem_nn (by omega) (by omega) ?_); conv => whnf) | ((with_reducible refine xrem_raw (by omega) ?_); conv => whnf)) | ((with_reducible refine isS ?_); first | ((with_reducible refine xshr_1 ?_); conv => whnf)) | ((with_reducible refine isK ?_); first | ((with_reducible refine xcv_i64 (by omega) (by omega) ?_); conv => whnf) | ((with_reducible refine xcv_u64 (by omega) (by omega) ?_); conv => whnf) | ((with_reducible refine xcv_u8 (by omega) (by omega) ?_); conv => whnf) | ((with_reducible refine xcv_raw ?_); conv => whnf)) | ((with_reducible refine need_i ?_ ?_) <;> first | omega | (conv => whnf)) | ((refine DrawX_s tabOk folOk ?_); conv => whnf) | ((refine DrawS_i (by kernel_rfl) ?_); conv => whnf) | ((with_reducible refine andX_i ?_ ?_) <;> (conv => whnf)) | (with_reducible exact rfl) | ((with_reducible refine xif_kt (by with_reducible assumption) ?_); conv => whnf) | ((with_reducible refine xif_kf (by with_reducible assumption) ?_); conv => whnf) | (((with_reducible refine xif_s ?_ ?_) <;> (intro hb; (try simp (disch := omega) only [wr, ge_dec, gt_dec, decide_eq_true_eq, decide_eq_false_iff_not, beq_iff_eq, bne_iff_ne, beq_eq_false_iff_ne, bne_eq_false_iff_eq, Bool.not_eq_true', Bool.not_eq_false', Bool.and_eq_true, Bool.or_eq_true, Bool.not_not, ne_eq, Decidable.not_not, Int.not_le, Int.not_lt, Int.toNat_natCast, not_true_eq_false, eq_self, Bool.not_true, Bool.not_false, Bool.true_eq_false, Bool.false_eq_true] at hb))) <;> (conv => whnf)))
          all_goals try (exfalso; omega)
          refine LoopX_inv tabOk (α := Nat) (fun j => j ≤ m) (fun j => [(2, .p 0 0), (3, I 0), (4, .v (.slice A1 m c1)), (7, .p 2 0), (8, .p 3 0), (44, .v (.slice A1 m c1)), (45, I m), (46, I j)])
            (fun j => [.box 61 [I 0, I 0, I 0, I 0, .v (.slice none 0 0)], .row 36 4 A1 m c1 (S.map encE), .box 32 [I ((S.take j).foldl bbS (bb1 (S.getD 0 e0))).1, I ((S.take j).foldl bbS (bb1 (S.getD 0 e0))).2.2.1], .box 32 [I ((S.take j).foldl bbS (bb1 (S.getD 0 e0))).2.1, I ((S.take j).foldl bbS (bb1 (S.getD 0 e0))).2.2.2]]) (fun j => m - j) 0 [0, 1, 2, 3] (Nat.zero_le _) ?_ ?_
          · ((refine ⟨?_, ?_, ?_, ?_⟩) <;> (repeat' ((conv => whnf); apply And.intro)) <;> (try (first | exact trivial | decide)))
            all_goals first | rfl | exact fun _ _ h => h | (simp [SV.wf, SV.wfs]; done) | trace_state
          · intro j hj
            have hbj := hbd j
            by_cases hjl : j < m
            · have hfj := hfold j hjl
              generalize (S.take j).foldl bbS (bb1 (S.getD 0 e0)) = b at *
              (conv => whnf); repeat' (first | ((with_reducible refine isV ?_); first | ((refine ValX_index tabOk rfl (ArgSl.row 1 rfl) rfl ?_ ?_ ?_) <;> first | omega | (with_reducible show (_ : Int) ≤ _) | (with_reducible show (_ : Int) < _) | (with_reducible show (_ : Nat) ≤ _) | (with_reducible show (_ : Nat) < _) | (conv => whnf)) | ((with_reducible refine nat_idx ?_); (refine ValX_loadEn _ _ (e0) tabOk rfl rfl rfl rfl (ArgSl.row 1 rfl) ?_ ?_ ?_) <;> first | rfl | omega | (with_reducible show (_ : Int) ≤ _) | (with_reducible show (_ : Int) < _) | (with_reducible show (_ : Nat) ≤ _) | (with_reducible show (_ : Nat) < _) | (conv => whnf)) | ((refine ValX_loadE _ _ (e0) tabOk rfl rfl rfl rfl (ArgSl.row 1 rfl) ?_ ?_ ?_) <;> first | rfl | omega | (with_reducible show (_ : Int) ≤ _) | (with_reducible show (_ : Int) < _) | (with_reducible show (_ : Nat) ≤ _) | (with_reducible show (_ : Nat) < _) | (conv => whnf))) | ((with_reducible refine isO ?_); first | ((refine OpX_build0 tabOk rfl rfl rfl ?_); intro bN; conv => whnf) | ((refine OpX_build tabOk rfl rfl rfl rfl rfl ?_); intro bN; conv => whnf)) | ((with_reducible refine isW ?_); first | ((with_reducible refine xwr_ok (by omega) (by omega) ?_); conv => whnf) | ((with_reducible refine xwr_raw ?_); conv => whnf)) | ((with_reducible refine isQ ?_); first | ((with_reducible refine xquo_nn (by omega) (by omega) (by omega) ?_); conv => whnf) | ((with_reducible refine xquo_ok (by omega) (by omega) (by omega) ?_); conv => whnf) | ((with_reducible refine xquo_raw (by omega) ?_); conv => whnf)) | ((with_reducible refine isR ?_); first | ((with_reducible refine xrem_nn (by omega) (by omega) ?_); conv => whnf) | ((with_reducible refine xrem_raw (by omega) ?_); conv => whnf)) | ((with_reducible refine isS ?_); first | ((with_reducible refine xshr_1 ?_); conv => whnf)) | ((with_reducible refine isK ?_); first | ((with_reducible refine xcv_i64 (by omega) (by omega) ?_); conv => whnf) | ((with_reducible refine xcv_u64 (by omega) (by omega) ?_); conv => whnf) | ((with_reducible refine xcv_u8 (by omega) (by omega) ?_); conv => whnf) | ((with_reducible refine xcv_raw ?_); conv => whnf)) | ((with_reducible refine need_i ?_ ?_) <;> first | omega | (conv => whnf)) | ((refine DrawX_s tabOk folOk ?_); conv => whnf) | ((refine DrawS_i (by kernel_rfl) ?_); conv => whnf) | ((with_reducible refine andX_i ?_ ?_) <;> (conv => whnf)) | (with_reducible exact rfl) | ((with_reducible refine xif_kt (by with_reducible assumption) ?_); conv => whnf) | ((with_reducible refine xif_kf (by with_reducible assumption) ?_); conv => whnf) | (((with_reducible refine xif_s ?_ ?_) <;> (intro hb; (try simp (disch := omega) only [wr, ge_dec, gt_dec, decide_eq_true_eq, decide_eq_false_iff_not, beq_iff_eq, bne_iff_ne, beq_eq_false_iff_ne, bne_eq_false_iff_eq, Bool.not_eq_true', Bool.not_eq_false', Bool.and_eq_true, Bool.or_eq_true, Bool.not_not, ne_eq, Decidable.not_not, Int.not_le, Int.not_lt, Int.toNat_natCast, not_true_eq_false, eq_self, Bool.not_true, Bool.not_false, Bool.true_eq_false, Bool.false_eq_true] at hb))) <;> (conv => whnf)))
              all_goals try (exfalso; omega)
              refine ⟨j + 1, [0, 1, 2, 3], by (try dsimp only); omega, ?_, by (try dsimp only); omega⟩
              dsimp only
              rw [hfj]
              ((refine ⟨?_, ?_, ?_, ?_⟩) <;> (repeat' ((conv => whnf); apply And.intro)) <;> (try (first | exact trivial | decide)))
              all_goals first | rfl | exact fun _ _ h => h | (simp [SV.wf, SV.wfs]; done) | trace_state
            · obtain rfl : j = m := by omega
              rw [← hbb]
              clear hbb hfold hbd hbj
              generalize bbF S = b at *
              simp only [fW, fH] at hset hg0 hWH hf1 hf2
              by_cases hbig : 64 < b.2.1 - b.1 + 1 ∨ 64 < b.2.2.2 - b.2.2.1 + 1
              · obtain rfl : r = ((0, 0, 0, 0), [], 6) := hf1 hbig
                (conv => whnf); repeat' (first | ((with_reducible refine isO ?_); first | ((refine OpX_build0 tabOk rfl rfl rfl ?_); intro bN; conv => whnf) | ((refine OpX_build tabOk rfl rfl rfl rfl rfl ?_); intro bN; conv => whnf)) | ((with_reducible refine isW ?_); first | ((with_reducible refine xwr_ok (by omega) (by omega) ?_); conv => whnf) | ((with_reducible refine xwr_raw ?_); conv => whnf)) | ((with_reducible refine isQ ?_); first | ((with_reducible refine xquo_nn (by omega) (by omega) (by omega) ?_); conv => whnf) | ((with_reducible refine xquo_ok (by omega) (by omega) (by omega) ?_); conv => whnf) | ((with_reducible refine xquo_raw (by omega) ?_); conv => whnf)) | ((with_reducible refine isR ?_); first | ((with_reducible refine xrem_nn (by omega) (by omega) ?_); conv => whnf) | ((with_reducible refine xrem_raw (by omega) ?_); conv => whnf)) | ((with_reducible refine isS ?_); first | ((with_reducible refine xshr_1 ?_); conv => whnf)) | ((with_reducible refine isK ?_); first | ((with_reducible refine xcv_i64 (by omega) (by omega) ?_); conv => whnf) | ((with_reducible refine xcv_u64 (by omega) (by omega) ?_); conv => whnf) | ((with_reducible refine xcv_u8 (by omega) (by omega) ?_); conv => whnf) | ((with_reducible refine xcv_raw ?_); conv => whnf)) | ((with_reducible refine need_i ?_ ?_) <;> first | omega | (conv => whnf)) | ((refine DrawX_s tabOk folOk ?_); conv => whnf) | ((refine DrawS_i (by kernel_rfl) ?_); conv => whnf) | ((with_reducible refine andX_i ?_ ?_) <;> (conv => whnf)) | (with_reducible exact rfl) | ((with_reducible refine xif_kt (by with_reducible assumption) ?_); conv => whnf) | ((with_reducible refine xif_kf (by with_reducible assumption) ?_); conv => whnf) | (((with_reducible refine xif_s ?_ ?_) <;> (intro hb; (try simp (disch := omega) only [wr, ge_dec, gt_dec, decide_eq_true_eq, decide_eq_false_iff_not, beq_iff_eq, bne_iff_ne, beq_eq_false_iff_ne, bne_eq_false_iff_eq, Bool.not_eq_true', Bool.not_eq_false', Bool.and_eq_true, Bool.or_eq_true, Bool.not_not, ne_eq, Decidable.not_not, Int.not_le, Int.not_lt, Int.toNat_natCast, not_true_eq_false, eq_self, Bool.not_true, Bool.not_false, Bool.true_eq_false, Bool.false_eq_true] at hb))) <;> (conv => whnf)))
                all_goals try (exfalso; omega)
                all_goals refine Fin_addNil 5 1 ?_
                all_goals exact Fin_m ⟨(none, 0), fun _ => rfl⟩ [5] ⟨rfl, by simp [SV.wf, SV.wfs]⟩ ⟨⟨rfl, rfl, rfl, rfl, rfl, rfl⟩, trivial⟩ (by decide) rfl
              · have hfe := hf2 hbig
                clear hf1 hf2
                have hmb := mul_bd (a := b.2.1 - b.1 + 1) (b := b.2.2.2 - b.2.2.1 + 1) (A := 64) (B := 64) (by omega) (by omega)
                have hm1 : 1 * 1 ≤ (b.2.1 - b.1 + 1) * (b.2.2.2 - b.2.2.1 + 1) := Int.mul_le_mul (by omega) (by omega) (by decide) (by omega)
                obtain ⟨N, hN⟩ : ∃ N : Nat, (b.2.1 - b.1 + 1) * (b.2.2.2 - b.2.2.1 + 1) = N := ⟨_, (Int.toNat_of_nonneg (by omega)).symm⟩
                rw [hN] at hmb hm1 hfe
                obtain ⟨BL, hBL⟩ : ∃ BL : Nat → List Int, ∀ j, (List.range N).map (gB (S.take j) b.1 b.2.2.1 (b.2.1 - b.1 + 1)) = BL j := ⟨_, fun _ => rfl⟩
                have hBl : ∀ j, (BL j).length = N := fun j => by rw [← hBL]; simp
                have hB0' : BL 0 = List.replicate N 0 := by
                  rw [← hBL, List.take_zero, hg0]
                  refine List.eq_replicate_iff.2 ⟨by simp, fun x hx => ?_⟩
                  obtain ⟨_, _, rfl⟩ := List.mem_map.1 hx
                  rfl
                have hBs : ∀ i, i < j → 0 ≤ ((S.getD i e0).2.1 - b.2.2.1) * (b.2.1 - b.1 + 1) + (S.getD i e0).1 - b.1 ∧ ((S.getD i e0).2.1 - b.2.2.1) * (b.2.1 - b.1 + 1) + (S.getD i e0).1 - b.1 < N ∧ BL (i + 1) = (BL i).set (((S.getD i e0).2.1 - b.2.2.1) * (b.2.1 - b.1 + 1) + (S.getD i e0).1 - b.1).toNat (valueF (S.getD i e0)) := by
                  intro i hi
                  have := hset i hi hWH.1
                  rw [hN, Int.toNat_natCast, ← hts i hi, hBL, hBL] at this
                  exact this
                have hBn : (List.range N).map (gB S b.1 b.2.2.1 (b.2.1 - b.1 + 1)) = BL j := by
                  rw [← hBL, ← hm, List.take_length]
                rw [Int.toNat_natCast, hBn] at hfe
                subst hfe
                clear hset hg0 hBL hBn hts
                have hrep : (BL 0).map encY = List.replicate N [Value.int .u8 0] := by rw [hB0']; simp [encY]
                (conv => whnf); repeat' (first | ((with_reducible refine isO ?_); first | (rw [hN]; refine OpX_make (m := N) tabOk rfl rfl rfl rfl ?_ ?_ ?_ <;> first | omega | (dsimp only; omega) | (intro bM; conv => whnf)) | ((refine OpX_build0 tabOk rfl rfl rfl ?_); intro bN; conv => whnf) | ((refine OpX_build tabOk rfl rfl rfl rfl rfl ?_); intro bN; conv => whnf)) | ((with_reducible refine isW ?_); first | ((with_reducible refine xwr_ok (by omega) (by omega) ?_); conv => whnf) | ((with_reducible refine xwr_raw ?_); conv => whnf)) | ((with_reducible refine isQ ?_); first | ((with_reducible refine xquo_nn (by omega) (by omega) (by omega) ?_); conv => whnf) | ((with_reducible refine xquo_ok (by omega) (by omega) (by omega) ?_); conv => whnf) | ((with_reducible refine xquo_raw (by omega) ?_); conv => whnf)) | ((with_reducible refine isR ?_); first | ((with_reducible refine xrem_nn (by omega) (by omega) ?_); conv => whnf) | ((with_reducible refine xrem_raw (by omega) ?_); conv => whnf)) | ((with_reducible refine isS ?_); first | ((with_reducible refine xshr_1 ?_); conv => whnf)) | ((with_reducible refine isK ?_); first | ((with_reducible refine xcv_i64 (by omega) (by omega) ?_); conv => whnf) | ((with_reducible refine xcv_u64 (by omega) (by omega) ?_); conv => whnf) | ((with_reducible refine xcv_u8 (by omega) (by omega) ?_); conv => whnf) | ((with_reducible refine xcv_raw ?_); conv => whnf)) | ((with_reducible refine need_i ?_ ?_) <;> first | omega | (conv => whnf)) | ((refine DrawX_s tabOk folOk ?_); conv => whnf) | ((refine DrawS_i (by kernel_rfl) ?_); conv => whnf) | ((with_reducible refine andX_i ?_ ?_) <;> (conv => whnf)) | (with_reducible exact rfl) | ((with_reducible refine xif_kt (by with_reducible assumption) ?_); conv => whnf) | ((with_reducible refine xif_kf (by with_reducible assumption) ?_); conv => whnf) | (((with_reducible refine xif_s ?_ ?_) <;> (intro hb; (try simp (disch := omega) only [wr, ge_dec, gt_dec, decide_eq_true_eq, decide_eq_false_iff_not, beq_iff_eq, bne_iff_ne, beq_eq_false_iff_ne, bne_eq_false_iff_eq, Bool.not_eq_true', Bool.not_eq_false', Bool.and_eq_true, Bool.or_eq_true, Bool.not_not, ne_eq, Decidable.not_not, Int.not_le, Int.not_lt, Int.toNat_natCast, not_true_eq_false, eq_self, Bool.not_true, Bool.not_false, Bool.true_eq_false, Bool.false_eq_true] at hb))) <;> (conv => whnf)))
                all_goals try (exfalso; omega)
                refine LoopX_inv tabOk (α := Nat) (fun i => i ≤ j) (fun i => [(2, .p 0 0), (3, I 0), (11, .p 4 0), (110, .v (.slice A1 j c1)), (111, I j), (112, I i)])
                  (fun i => [.box 61 [I 0, I 0, I 0, I 0, .v (.slice none 0 0)], .row 36 4 A1 j c1 (S.map encE), .box 32 [I b.1, I b.2.2.1], .box 32 [I b.2.1, I b.2.2.2], .box 61 [I b.1, I b.2.2.1, I (b.2.1 - b.1 + 1), I (b.2.2.2 - b.2.2.1 + 1), .v (.slice (some ⟨bM, 0, none⟩) N N)], .row 5 1 (some ⟨bM, 0, none⟩) N N ((BL i).map encY)]) (fun i => j - i) 0 [0, 1, 2, 3, 4, 5] (Nat.zero_le _) ?_ ?_
                · dsimp only
                  rw [hrep]
                  ((refine ⟨?_, ?_, ?_, ?_⟩) <;> (repeat' ((conv => whnf); apply And.intro)) <;> (try (first | exact trivial | decide)))
                  all_goals first | rfl | exact fun _ _ h => h | (simp [SV.wf, SV.wfs]; done) | trace_state
                · intro i hi
                  by_cases hil : i < j
                  · obtain ⟨i1, i2, i3⟩ := hBs i hil
                    have hx := Value_x (S.getD i e0)
                    have hv1 := value_bd (S.getD i e0)
                    have hg1 := hin i hil
                    have hlb := hBl i
                    have hst : ((BL i).map encY).set (((S.getD i e0).2.1 - b.2.2.1) * (b.2.1 - b.1 + 1) + (S.getD i e0).1 - b.1).toNat [Value.int .u8 (valueF (S.getD i e0))] = (BL (i + 1)).map encY := by
                      rw [i3, List.map_set]
                      rfl
                    clear i3 hBs hin
                    (conv => whnf); repeat' (first | ((with_reducible refine isC ?_); first | ((with_reducible refine CallX_pure (hx) ?_) <;> first | omega | (with_reducible show (_ : Int) ≤ _) | (with_reducible show (_ : Int) < _) | (with_reducible show (_ : Nat) ≤ _) | (with_reducible show (_ : Nat) < _) | (conv => whnf))) | ((with_reducible refine isV ?_); first | ((refine ValX_index tabOk rfl (ArgSl.row 1 rfl) rfl ?_ ?_ ?_) <;> first | omega | (with_reducible show (_ : Int) ≤ _) | (with_reducible show (_ : Int) < _) | (with_reducible show (_ : Nat) ≤ _) | (with_reducible show (_ : Nat) < _) | (conv => whnf)) | ((with_reducible refine nat_idx ?_); (refine ValX_loadEn _ _ (e0) tabOk rfl rfl rfl rfl (ArgSl.row 1 rfl) ?_ ?_ ?_) <;> first | rfl | omega | (with_reducible show (_ : Int) ≤ _) | (with_reducible show (_ : Int) < _) | (with_reducible show (_ : Nat) ≤ _) | (with_reducible show (_ : Nat) < _) | (conv => whnf)) | ((refine ValX_loadE _ _ (e0) tabOk rfl rfl rfl rfl (ArgSl.row 1 rfl) ?_ ?_ ?_) <;> first | rfl | omega | (with_reducible show (_ : Int) ≤ _) | (with_reducible show (_ : Int) < _) | (with_reducible show (_ : Nat) ≤ _) | (with_reducible show (_ : Nat) < _) | (conv => whnf)) | ((refine ValX_index tabOk rfl (ArgSl.row 5 rfl) rfl ?_ ?_ ?_) <;> first | omega | (with_reducible show (_ : Int) ≤ _) | (with_reducible show (_ : Int) < _) | (with_reducible show (_ : Nat) ≤ _) | (with_reducible show (_ : Nat) < _) | (conv => whnf))) | ((with_reducible refine isO ?_); first | ((refine OpX_store 5 tabOk rfl rfl rfl rfl rfl rfl ?_ ?_) <;> first | omega | (with_reducible show (_ : Int) ≤ _) | (with_reducible show (_ : Int) < _) | (with_reducible show (_ : Nat) ≤ _) | (with_reducible show (_ : Nat) < _) | (conv => whnf)) | ((refine OpX_build0 tabOk rfl rfl rfl ?_); intro bN; conv => whnf) | ((refine OpX_build tabOk rfl rfl rfl rfl rfl ?_); intro bN; conv => whnf)) | ((with_reducible refine isW ?_); first | ((with_reducible refine xwr_ok (by omega) (by omega) ?_); conv => whnf) | ((with_reducible refine xwr_raw ?_); conv => whnf)) | ((with_reducible refine isQ ?_); first | ((with_reducible refine xquo_nn (by omega) (by omega) (by omega) ?_); conv => whnf) | ((with_reducible refine xquo_ok (by omega) (by omega) (by omega) ?_); conv => whnf) | ((with_reducible refine xquo_raw (by omega) ?_); conv => whnf)) | ((with_reducible refine isR ?_); first | ((with_reducible refine xrem_nn (by omega) (by omega) ?_); conv => whnf) | ((with_reducible refine xrem_raw (by omega) ?_); conv => whnf)) | ((with_reducible refine isS ?_); first | ((with_reducible refine xshr_1 ?_); conv => whnf)) | ((with_reducible refine isK ?_); first | ((with_reducible refine xcv_i64 (by omega) (by omega) ?_); conv => whnf) | ((with_reducible refine xcv_u64 (by omega) (by omega) ?_); conv => whnf) | ((with_reducible refine xcv_u8 (by omega) (by omega) ?_); conv => whnf) | ((with_reducible refine xcv_raw ?_); conv => whnf)) | ((with_reducible refine need_i ?_ ?_) <;> first | omega | (conv => whnf)) | ((refine DrawX_s tabOk folOk ?_); conv => whnf) | ((refine DrawS_i (by kernel_rfl) ?_); conv => whnf) | ((with_reducible refine andX_i ?_ ?_) <;> (conv => whnf)) | (with_reducible exact rfl) | ((with_reducible refine xif_kt (by with_reducible assumption) ?_); conv => whnf) | ((with_reducible refine xif_kf (by with_reducible assumption) ?_); conv => whnf) | (((with_reducible refine xif_s ?_ ?_) <;> (intro hb; (try simp (disch := omega) only [wr, ge_dec, gt_dec, decide_eq_true_eq, decide_eq_false_iff_not, beq_iff_eq, bne_iff_ne, beq_eq_false_iff_ne, bne_eq_false_iff_eq, Bool.not_eq_true', Bool.not_eq_false', Bool.and_eq_true, Bool.or_eq_true, Bool.not_not, ne_eq, Decidable.not_not, Int.not_le, Int.not_lt, Int.toNat_natCast, not_true_eq_false, eq_self, Bool.not_true, Bool.not_false, Bool.true_eq_false, Bool.false_eq_true] at hb))) <;> (conv => whnf)))
                    all_goals try (exfalso; omega)
                    refine ⟨i + 1, [0, 1, 2, 3, 4, 5], by (try dsimp only); omega, ?_, by (try dsimp only); omega⟩
                    dsimp only
                    rw [← hst]
                    ((refine ⟨?_, ?_, ?_, ?_⟩) <;> (repeat' ((conv => whnf); apply And.intro)) <;> (try (first | exact trivial | decide)))
                    all_goals first | rfl | exact fun _ _ h => h | (simp [SV.wf, SV.wfs]; done) | trace_state
                  · obtain rfl : i = j := by omega
                    have hlb := hBl i
                    (conv => whnf); repeat' (first | ((with_reducible refine isO ?_); first | ((refine OpX_build0 tabOk rfl rfl rfl ?_); intro bN; conv => whnf) | ((refine OpX_build tabOk rfl rfl rfl rfl rfl ?_); intro bN; conv => whnf)) | ((with_reducible refine isW ?_); first | ((with_reducible refine xwr_ok (by omega) (by omega) ?_); conv => whnf) | ((with_reducible refine xwr_raw ?_); conv => whnf)) | ((with_reducible refine isQ ?_); first | ((with_reducible refine xquo_nn (by omega) (by omega) (by omega) ?_); conv => whnf) | ((with_reducible refine xquo_ok (by omega) (by omega) (by omega) ?_); conv => whnf) | ((with_reducible refine xquo_raw (by omega) ?_); conv => whnf)) | ((with_reducible refine isR ?_); first | ((with_reducible refine xrem_nn (by omega) (by omega) ?_); conv => whnf) | ((with_reducible refine xrem_raw (by omega) ?_); conv => whnf)) | ((with_reducible refine isS ?_); first | ((with_reducible refine xshr_1 ?_); conv => whnf)) | ((with_reducible refine isK ?_); first | ((with_reducible refine xcv_i64 (by omega) (by omega) ?_); conv => whnf) | ((with_reducible refine xcv_u64 (by omega) (by omega) ?_); conv => whnf) | ((with_reducible refine xcv_u8 (by omega) (by omega) ?_); conv => whnf) | ((with_reducible refine xcv_raw ?_); conv => whnf)) | ((with_reducible refine need_i ?_ ?_) <;> first | omega | (conv => whnf)) | ((refine DrawX_s tabOk folOk ?_); conv => whnf) | ((refine DrawS_i (by kernel_rfl) ?_); conv => whnf) | ((with_reducible refine andX_i ?_ ?_) <;> (conv => whnf)) | (with_reducible exact rfl) | ((with_reducible refine xif_kt (by with_reducible assumption) ?_); conv => whnf) | ((with_reducible refine xif_kf (by with_reducible assumption) ?_); conv => whnf) | (((with_reducible refine xif_s ?_ ?_) <;> (intro hb; (try simp (disch := omega) only [wr, ge_dec, gt_dec, decide_eq_true_eq, decide_eq_false_iff_not, beq_iff_eq, bne_iff_ne, beq_eq_false_iff_ne, bne_eq_false_iff_eq, Bool.not_eq_true', Bool.not_eq_false', Bool.and_eq_true, Bool.or_eq_true, Bool.not_not, ne_eq, Decidable.not_not, Int.not_le, Int.not_lt, Int.toNat_natCast, not_true_eq_false, eq_self, Bool.not_true, Bool.not_false, Bool.true_eq_false, Bool.false_eq_true] at hb))) <;> (conv => whnf)))
                    all_goals try (exfalso; omega)
                    subst hlb
                    exact Fin_m ⟨(some ⟨bM, 0, none⟩, (BL i).length), fun h => by dsimp only at h; omega⟩ [5] ⟨rfl, by simp [SV.wf, SV.wfs]⟩ ⟨⟨rfl, rfl, rfl, rfl, rfl, rfl⟩, trivial⟩ (by decide) rfl
end Go.Proofs.Ytdjimfngnhnhnaa.En
