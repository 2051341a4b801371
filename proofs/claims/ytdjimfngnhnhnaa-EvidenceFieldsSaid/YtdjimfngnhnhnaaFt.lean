/- frame.Entries by the executor: the walk. -/
import Derived.Test.YtdjimfngnhnhnaaFs
set_option linter.all false
namespace Go.Proofs.Ytdjimfngnhnhnaa.En
open Go.RowKit Go.Sort
set_option maxRecDepth 100000

abbrev OutT (f : FrT) (l : List EntT) := {p : Option Addr × Nat × List EntT // IsOut f l p.2.2}
theorem IsOut_bad {f : FrT} {l : List EntT} (h : codeF f l ≠ 0) : IsOut f l [] := by
  unfold IsOut
  rw [if_neg h]
theorem CallX_args {C : Ctx} {f : FuncId} {args : List SV} (args' : List SV) {ob : List OB} {k : SV → List OB → Prop} (he : ∀ σ, SV.vals σ args = SV.vals σ args') (h : CallX C f args' ob k) : CallX C f args ob k := by
  unfold CallX at *
  refine ⟨h.1, fun σ fp w hm => ?_⟩
  rw [he σ]
  exact h.2 σ fp w hm
theorem Entries_m (f : FrT) (A : Option Addr) (c : Nat) (l : List EntT) {n : Nat} (hl : l.length = n) (hn : n ≤ 1000000000) :
    CallM Try.prog 17 [.a [I f.1, I f.2.1, I f.2.2], .v (.slice A n c)] (fun w M => ArgN w M A n 4 (l.map encE)) []
      (fun (p : OutT f l) => .t [.v (.slice p.1.1 p.1.2.2.length p.1.2.1), I (codeF f l)]) (fun p => [.row 36 4 p.1.1 p.1.2.2.length p.1.2.1 (p.1.2.2.map encE)]) := by
  refine CallM.of (m := 0) Try.func17 rfl tabOk rfl rfl rfl rfl (by simp [SV.wfs, SV.wf]) fun w M π hpre => ?_
  (conv => whnf); repeat' (first | ((with_reducible refine isC ?_); first | ((with_reducible refine CallX_pure (Valid_x _ _ _) ?_) <;> first | omega | (with_reducible show (_ : Int) ≤ _) | (with_reducible show (_ : Int) < _) | (with_reducible show (_ : Nat) ≤ _) | (with_reducible show (_ : Nat) < _) | (conv => whnf)) | (refine CallX_v (Valid_v A c l hl (by unfold maxLen; omega)) (ArgN.mem hpre (by decide)) ?_; conv => whnf)) | ((with_reducible refine isO ?_); first | ((refine OpX_build0 tabOk rfl rfl rfl ?_); intro bN; conv => whnf) | ((refine OpX_build tabOk rfl rfl rfl rfl rfl ?_); intro bN; conv => whnf)) | ((with_reducible refine isW ?_); first | ((with_reducible refine xwr_ok (by omega) (by omega) ?_); conv => whnf) | ((with_reducible refine xwr_raw ?_); conv => whnf)) | ((with_reducible refine isQ ?_); first | ((with_reducible refine xquo_nn (by omega) (by omega) (by omega) ?_); conv => whnf) | ((with_reducible refine xquo_ok (by omega) (by omega) (by omega) ?_); conv => whnf) | ((with_reducible refine xquo_raw (by omega) ?_); conv => whnf)) | ((with_reducible refine isR ?_); first | ((with_reducible refine xrem_nn (by omega) (by omega) ?_); conv => whnf) | ((with_reducible refine xrem_raw (by omega) ?_); conv => whnf)) | ((with_reducible refine isS ?_); first | ((with_reducible refine xshr_1 ?_); conv => whnf)) | ((with_reducible refine isK ?_); first | ((with_reducible refine xcv_i64 (by omega) (by omega) ?_); conv => whnf) | ((with_reducible refine xcv_u64 (by omega) (by omega) ?_); conv => whnf) | ((with_reducible refine xcv_u8 (by omega) (by omega) ?_); conv => whnf) | ((with_reducible refine xcv_raw ?_); conv => whnf)) | ((with_reducible refine need_i ?_ ?_) <;> first | omega | (conv => whnf)) | ((refine DrawX_s tabOk folOk ?_); conv => whnf) | ((refine DrawS_i (by kernel_rfl) ?_); conv => whnf) | ((with_reducible refine andX_i ?_ ?_) <;> (conv => whnf)) | (with_reducible exact rfl) | ((with_reducible refine xif_kt (by with_reducible assumption) ?_); conv => whnf) | ((with_reducible refine xif_kf (by with_reducible assumption) ?_); conv => whnf) | (((with_reducible refine xif_s ?_ ?_) <;> (intro hb; (try simp (disch := omega) only [wr, ge_dec, gt_dec, decide_eq_true_eq, decide_eq_false_iff_not, beq_iff_eq, bne_iff_ne, beq_eq_false_iff_ne, bne_eq_false_iff_eq, Bool.not_eq_true', Bool.not_eq_false', Bool.and_eq_true, Bool.or_eq_true, Bool.not_not, ne_eq, Decidable.not_not, Int.not_le, Int.not_lt, Int.toNat_natCast, not_true_eq_false, eq_self, Bool.not_true, Bool.not_false, Bool.true_eq_false, Bool.false_eq_true] at hb))) <;> (conv => whnf)))
  · refine Fin_addNil 36 4 ?_
    have h1 : codeF f l = 1 := by simp only [codeF, okF, hb, Bool.false_and, Bool.false_eq_true, if_false]
    exact Fin_m ⟨(none, 0, []), IsOut_bad (by omega)⟩ [1] ⟨congrArg (fun i => SV.t [.v (.slice none 0 0), I i]) h1.symm, by simp [SV.wf, SV.wfs]⟩ ⟨⟨rfl, rfl, rfl, rfl, rfl, rfl⟩, trivial⟩ (by decide) rfl
  · refine Fin_addNil 36 4 ?_
    have h1 : codeF f l = 1 := by simp only [codeF, okF, hb, Bool.and_false, Bool.false_eq_true, if_false]
    exact Fin_m ⟨(none, 0, []), IsOut_bad (by omega)⟩ [1] ⟨congrArg (fun i => SV.t [.v (.slice none 0 0), I i]) h1.symm, by simp [SV.wf, SV.wfs]⟩ ⟨⟨rfl, rfl, rfl, rfl, rfl, rfl⟩, trivial⟩ (by decide) rfl
  rename_i hb1
  have hok : okF f l = true := by simp only [okF, hb, hb1.1, hb1.2, Bool.and_self]
  have hlen : l.length ≤ 1048576 := by
    by_cases h : l.length ≤ 1048576
    · exact h
    · rw [vE_long h] at hb
      cases hb
  have h2 : codeF f l = orI (errsF f l) := by simp only [codeF, hok, if_true]
  have hel : (errsF f l).length = n := by simp [errsF, hl]
  have hml : (l.map (imgE f)).length = n := by simp [hl]
  refine LoopX_addNil 36 4 ?_
  conv => whnf
  refine LoopX_inv tabOk (α := Nat × Option Addr × Nat) (fun p => p.1 ≤ n ∧ ∀ i, i < p.1 → (errsF f l).getD i 0 = 0) (fun p => [(19, .v (.slice A n c)), (20, I n), (21, I p.1), (2, .p 0 0), (6, .v (.slice p.2.1 p.1 p.2.2))]) (fun p => [.box 23 [I f.1, I f.2.1, I f.2.2], .row 36 4 p.2.1 p.1 p.2.2 (((l.map (imgE f)).take p.1).map encE)]) (fun p => n - p.1) (0, none, 0) [0, 1] ⟨by (try dsimp only); omega, fun i hi => by (try dsimp only at hi); omega⟩ ?_ ?_
  · try dsimp only
    ((refine ⟨?_, ?_, ?_, ?_⟩) <;> (repeat' ((conv => whnf); apply And.intro)) <;> (try (first | exact trivial | decide)))
    all_goals first | rfl | exact fun _ _ h => h | simp [SV.wf, SV.wfs]
  · rintro ⟨k, A', c'⟩ hk
    try dsimp only at hk ⊢
    obtain ⟨hkn, hz⟩ := hk
    by_cases hlt : k < n
    · have hat : (errsF f l).getD k 0 = (cellR f (l.getD k e0).cell).2 := by
        simp [errsF, hl, hlt]
      (conv => whnf); repeat' (first | ((with_reducible refine isC ?_); first | ((with_reducible refine CallX_pure (Cell_x f (_, _)) ?_) <;> first | omega | (with_reducible show (_ : Int) ≤ _) | (with_reducible show (_ : Int) < _) | (with_reducible show (_ : Nat) ≤ _) | (with_reducible show (_ : Nat) < _) | (conv => whnf))) | ((with_reducible refine isV ?_); first | ((refine ValX_index tabOk rfl (ArgN.mem hpre (by decide)) rfl ?_ ?_ ?_) <;> first | omega | (with_reducible show (_ : Int) ≤ _) | (with_reducible show (_ : Int) < _) | (with_reducible show (_ : Nat) ≤ _) | (with_reducible show (_ : Nat) < _) | (conv => whnf)) | ((with_reducible refine nat_idx ?_); (refine ValX_loadEn _ _ (e0) tabOk rfl rfl rfl rfl (ArgN.mem hpre (by decide)) ?_ ?_ ?_) <;> first | rfl | omega | (with_reducible show (_ : Int) ≤ _) | (with_reducible show (_ : Int) < _) | (with_reducible show (_ : Nat) ≤ _) | (with_reducible show (_ : Nat) < _) | (conv => whnf)) | ((refine ValX_loadE _ _ (e0) tabOk rfl rfl rfl rfl (ArgN.mem hpre (by decide)) ?_ ?_ ?_) <;> first | rfl | omega | (with_reducible show (_ : Int) ≤ _) | (with_reducible show (_ : Int) < _) | (with_reducible show (_ : Nat) ≤ _) | (with_reducible show (_ : Nat) < _) | (conv => whnf))) | ((with_reducible refine isO ?_); first | ((refine OpX_append 1 tabOk rfl rfl rfl rfl (ArgSl.row 4 rfl) (by decide) ?_ ?_ ?_) <;> first | omega | (dsimp only; omega) | (intro A' c'; conv => whnf)) | ((refine OpX_build0 tabOk rfl rfl rfl ?_); intro bN; conv => whnf) | ((refine OpX_build tabOk rfl rfl rfl rfl rfl ?_); intro bN; conv => whnf)) | ((with_reducible refine isW ?_); first | ((with_reducible refine xwr_ok (by omega) (by omega) ?_); conv => whnf) | ((with_reducible refine xwr_raw ?_); conv => whnf)) | ((with_reducible refine isQ ?_); first | ((with_reducible refine xquo_nn (by omega) (by omega) (by omega) ?_); conv => whnf) | ((with_reducible refine xquo_ok (by omega) (by omega) (by omega) ?_); conv => whnf) | ((with_reducible refine xquo_raw (by omega) ?_); conv => whnf)) | ((with_reducible refine isR ?_); first | ((with_reducible refine xrem_nn (by omega) (by omega) ?_); conv => whnf) | ((with_reducible refine xrem_raw (by omega) ?_); conv => whnf)) | ((with_reducible refine isS ?_); first | ((with_reducible refine xshr_1 ?_); conv => whnf)) | ((with_reducible refine isK ?_); first | ((with_reducible refine xcv_i64 (by omega) (by omega) ?_); conv => whnf) | ((with_reducible refine xcv_u64 (by omega) (by omega) ?_); conv => whnf) | ((with_reducible refine xcv_u8 (by omega) (by omega) ?_); conv => whnf) | ((with_reducible refine xcv_raw ?_); conv => whnf)) | ((with_reducible refine need_i ?_ ?_) <;> first | omega | (conv => whnf)) | ((refine DrawX_s tabOk folOk ?_); conv => whnf) | ((refine DrawS_i (by kernel_rfl) ?_); conv => whnf) | ((with_reducible refine andX_i ?_ ?_) <;> (conv => whnf)) | (with_reducible exact rfl) | ((with_reducible refine xif_kt (by with_reducible assumption) ?_); conv => whnf) | ((with_reducible refine xif_kf (by with_reducible assumption) ?_); conv => whnf) | (((with_reducible refine xif_s ?_ ?_) <;> (intro hb; (try simp (disch := omega) only [wr, ge_dec, gt_dec, decide_eq_true_eq, decide_eq_false_iff_not, beq_iff_eq, bne_iff_ne, beq_eq_false_iff_ne, bne_eq_false_iff_eq, Bool.not_eq_true', Bool.not_eq_false', Bool.and_eq_true, Bool.or_eq_true, Bool.not_not, ne_eq, Decidable.not_not, Int.not_le, Int.not_lt, Int.toNat_natCast, not_true_eq_false, eq_self, Bool.not_true, Bool.not_false, Bool.true_eq_false, Bool.false_eq_true] at hb))) <;> (conv => whnf)))
      · refine Fin_addNil 36 4 ?_
        have h1 : codeF f l = (cellR f (l.getD k e0).cell).2 := by rw [h2, orI_at (by omega) hz (by rw [hat]; exact hb), hat]
        have h3 : codeF f l ≠ 0 := by rw [h1]; exact hb
        exact Fin_m ⟨(none, 0, []), IsOut_bad h3⟩ [4] ⟨congrArg (fun i => SV.t [.v (.slice none 0 0), I i]) h1.symm, by simp [SV.wf, SV.wfs]⟩ ⟨⟨rfl, rfl, rfl, rfl, rfl, rfl⟩, trivial⟩ (by decide) rfl
      · refine ⟨(k + 1, A', c'), [0, 1], ⟨by (try dsimp only); omega, fun i hi => ?_⟩, ?_, by (try dsimp only); omega⟩
        · try dsimp only at hi
          by_cases e : i = k
          · rw [e, hat]
            exact hb
          · exact hz i (by omega)
        · try dsimp only
          have ht : (l.map (imgE f)).take (k + 1) = (l.map (imgE f)).take k ++ [imgE f (l.getD k e0)] := by
            rw [List.take_succ_eq_append_getElem (by omega)]
            simp [hl, hlt]
          rw [ht, List.map_append]
          ((refine ⟨?_, ?_, ?_, ?_⟩) <;> (repeat' ((conv => whnf); apply And.intro)) <;> (try (first | exact trivial | decide)))
          all_goals first | rfl | exact fun _ _ h => h | simp [SV.wf, SV.wfs]
      all_goals omega
    · obtain rfl : k = n := by omega
      have hc0 : codeF f l = 0 := by
        rw [h2, orI_zero (k := k) (by omega) hz, ← hel]
        simp [orI]
      have htk : (l.map (imgE f)).take k = l.map (imgE f) := List.take_of_length_le (by omega)
      rw [htk]
      (conv => whnf); repeat' (first | ((with_reducible refine isC ?_); first | (refine CallX_args [.v (.slice A' k c'), .fn 58 []] (fun σ => rfl) ?_; refine CallX_sortE rfl (Entries1_d e0 e0).1 Entries1_d 1 (l.map (imgE f)) rfl hml (by omega) ?_; intro ys hp hs; conv => whnf)) | ((with_reducible refine isO ?_); first | ((refine OpX_build0 tabOk rfl rfl rfl ?_); intro bN; conv => whnf) | ((refine OpX_build tabOk rfl rfl rfl rfl rfl ?_); intro bN; conv => whnf)) | ((with_reducible refine isW ?_); first | ((with_reducible refine xwr_ok (by omega) (by omega) ?_); conv => whnf) | ((with_reducible refine xwr_raw ?_); conv => whnf)) | ((with_reducible refine isQ ?_); first | ((with_reducible refine xquo_nn (by omega) (by omega) (by omega) ?_); conv => whnf) | ((with_reducible refine xquo_ok (by omega) (by omega) (by omega) ?_); conv => whnf) | ((with_reducible refine xquo_raw (by omega) ?_); conv => whnf)) | ((with_reducible refine isR ?_); first | ((with_reducible refine xrem_nn (by omega) (by omega) ?_); conv => whnf) | ((with_reducible refine xrem_raw (by omega) ?_); conv => whnf)) | ((with_reducible refine isS ?_); first | ((with_reducible refine xshr_1 ?_); conv => whnf)) | ((with_reducible refine isK ?_); first | ((with_reducible refine xcv_i64 (by omega) (by omega) ?_); conv => whnf) | ((with_reducible refine xcv_u64 (by omega) (by omega) ?_); conv => whnf) | ((with_reducible refine xcv_u8 (by omega) (by omega) ?_); conv => whnf) | ((with_reducible refine xcv_raw ?_); conv => whnf)) | ((with_reducible refine need_i ?_ ?_) <;> first | omega | (conv => whnf)) | ((refine DrawX_s tabOk folOk ?_); conv => whnf) | ((refine DrawS_i (by kernel_rfl) ?_); conv => whnf) | ((with_reducible refine andX_i ?_ ?_) <;> (conv => whnf)) | (with_reducible exact rfl) | ((with_reducible refine xif_kt (by with_reducible assumption) ?_); conv => whnf) | ((with_reducible refine xif_kf (by with_reducible assumption) ?_); conv => whnf) | (((with_reducible refine xif_s ?_ ?_) <;> (intro hb; (try simp (disch := omega) only [wr, ge_dec, gt_dec, decide_eq_true_eq, decide_eq_false_iff_not, beq_iff_eq, bne_iff_ne, beq_eq_false_iff_ne, bne_eq_false_iff_eq, Bool.not_eq_true', Bool.not_eq_false', Bool.and_eq_true, Bool.or_eq_true, Bool.not_not, ne_eq, Decidable.not_not, Int.not_le, Int.not_lt, Int.toNat_natCast, not_true_eq_false, eq_self, Bool.not_true, Bool.not_false, Bool.true_eq_false, Bool.false_eq_true] at hb))) <;> (conv => whnf)))
      · exfalso
        omega
      · have hy : ys.length = k := by rw [hp.length_eq, hml]
        refine Fin_m ⟨(A', c', ys), ?_⟩ [1] ⟨?_, by simp [SV.wf, SV.wfs]⟩ ⟨⟨rfl, rfl, rfl, ?_, rfl, rfl⟩, trivial⟩ (by decide) rfl
        · unfold IsOut
          rw [if_pos hc0]
          exact ⟨hp, asc_of_sorted hp (by rw [hy]; exact hs) (img_ne hc0)⟩
        · show _ = SV.t [.v (.slice A' ys.length c'), I (codeF f l)]
          rw [hy, hc0]
        · first | exact hy | exact hy.symm
end Go.Proofs.Ytdjimfngnhnhnaa.En
