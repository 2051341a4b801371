/- The reference's Entries by the executor: the walk. -/
import Derived.Test.YtbjkbjiglcomkaaFu
set_option linter.all false
namespace Go.Proofs.Ytbjkbjiglcomkaa.En
open Go.RowKit Go.Sort
set_option maxRecDepth 100000

set_option maxHeartbeats 2000000 in
theorem rEntries_m (f : FrT) (A : Option Addr) (c : Nat) (l : List EntT) {n : Nat} (hl : l.length = n) (hn : n ≤ 1000000000) :
    CallM Try.prog 21 [.a [I f.1, I f.2.1, I f.2.2], .v (.slice A n c)] (fun w M => ArgN w M A n 4 (l.map encE)) []
      (fun (p : OutT f l) => .t [.v (.slice p.1.1 p.1.2.2.length p.1.2.1), I (codeF f l)]) (fun p => [.row 42 4 p.1.1 p.1.2.2.length p.1.2.1 (p.1.2.2.map encE)]) := by
  refine CallM.of (m := 0) Try.func21 rfl tabOk rfl rfl rfl rfl (by simp [SV.wfs, SV.wf]) fun w M π hpre => ?_
  (conv => whnf); repeat' (first | ((with_reducible refine isC ?_); first | ((with_reducible refine CallX_pure (rValid_x _ _ _) ?_) <;> first | omega | (with_reducible show (_ : Int) ≤ _) | (with_reducible show (_ : Int) < _) | (with_reducible show (_ : Nat) ≤ _) | (with_reducible show (_ : Nat) < _) | (conv => whnf)) | (refine CallX_w (rVE_w A c l hl (by unfold maxLen; omega)) (ArgN.mem hpre (by decide)) ?_; conv => whnf)) | ((with_reducible refine isO ?_); first | ((refine OpX_build0 tabOk rfl rfl rfl ?_); intro bN; conv => whnf) | ((refine OpX_build tabOk rfl rfl rfl rfl rfl ?_); intro bN; conv => whnf)) | ((with_reducible refine isW ?_); first | ((with_reducible refine xwr_ok (by omega) (by omega) ?_); conv => whnf) | ((with_reducible refine xwr_raw ?_); conv => whnf)) | ((with_reducible refine isQ ?_); first | ((with_reducible refine xquo_nn (by omega) (by omega) (by omega) ?_); conv => whnf) | ((with_reducible refine xquo_ok (by omega) (by omega) (by omega) ?_); conv => whnf) | ((with_reducible refine xquo_raw (by omega) ?_); conv => whnf)) | ((with_reducible refine isR ?_); first | ((with_reducible refine xrem_nn (by omega) (by omega) ?_); conv => whnf) | ((with_reducible refine xrem_raw (by omega) ?_); conv => whnf)) | ((with_reducible refine need_i ?_ ?_) <;> first | omega | (conv => whnf)) | ((refine DrawX_s tabOk folOk ?_); conv => whnf) | ((refine DrawS_i (by kernel_rfl) ?_); conv => whnf) | ((with_reducible refine andX_i ?_ ?_) <;> (conv => whnf)) | (with_reducible exact rfl) | ((with_reducible refine xif_kt (by with_reducible assumption) ?_); conv => whnf) | ((with_reducible refine xif_kf (by with_reducible assumption) ?_); conv => whnf) | (((with_reducible refine xif_s ?_ ?_) <;> (intro hb; (try simp (disch := omega) only [wr, ge_dec, gt_dec, decide_eq_true_eq, decide_eq_false_iff_not, beq_iff_eq, bne_iff_ne, beq_eq_false_iff_ne, bne_eq_false_iff_eq, Bool.not_eq_true', Bool.not_eq_false', Bool.and_eq_true, Bool.or_eq_true, Bool.not_not, ne_eq, Decidable.not_not, Int.not_le, Int.not_lt, Int.toNat_natCast, not_true_eq_false, eq_self, Bool.not_true, Bool.not_false, Bool.true_eq_false, Bool.false_eq_true] at hb))) <;> (conv => whnf)))
  · refine Fin_addNil 42 4 ?_
    have h1 : codeF f l = 1 := by simp only [codeF, okF, hb, Bool.false_and, Bool.false_eq_true, if_false]
    exact Fin_m ⟨(none, 0, []), IsOut_bad (by omega)⟩ [1] ⟨congrArg (fun i => SV.t [.v (.slice none 0 0), I i]) h1.symm, by simp [SV.wf, SV.wfs]⟩ ⟨⟨rfl, rfl, rfl, rfl, rfl, rfl⟩, trivial⟩ (by decide) rfl
  · refine Fin_addNil 42 4 ?_
    have h1 : codeF f l = 1 := by simp only [codeF, okF, hb, Bool.and_false, Bool.false_eq_true, if_false]
    exact Fin_m ⟨(none, 0, []), IsOut_bad (by omega)⟩ [1] ⟨congrArg (fun i => SV.t [.v (.slice none 0 0), I i]) h1.symm, by simp [SV.wf, SV.wfs]⟩ ⟨⟨rfl, rfl, rfl, rfl, rfl, rfl⟩, trivial⟩ (by decide) rfl
  rename_i hb1
  have hok : okF f l = true := by simp only [okF, hb, hb1.1, hb1.2, Bool.and_self]
  have hlen : l.length ≤ 1048576 := by
    by_cases h : l.length ≤ 1048576
    · exact h
    · rw [vE_long h] at hb
      cases hb
  have h2 : codeF f l = orI (errsF f l) := by simp only [codeF, hok, if_true]
  have hel : (errsF f l).length = n := by simp [errsF, hl]
  have hml : (l.map (imgE f)).length = n := by simp [hl]
  refine LoopX_addNil 42 4 ?_
  conv => whnf
  refine LoopX_inv tabOk (α := Nat × Option Addr × Nat × List EntT) (fun p => p.1 ≤ n ∧ p.2.2.2.length = p.1 ∧ p.2.2.2.Perm ((l.map (imgE f)).take p.1) ∧ wk p.2.2.2 ∧ ∀ i, i < p.1 → (errsF f l).getD i 0 = 0) (fun p => [(7, I p.1), (1, .v (.slice A n c)), (2, .p 0 0), (6, .v (.slice p.2.1 p.1 p.2.2.1))]) (fun p => [.box 23 [I f.1, I f.2.1, I f.2.2], .row 42 4 p.2.1 p.1 p.2.2.1 (p.2.2.2.map encE)]) (fun p => n - p.1) (0, none, 0, []) [0, 1] ⟨by (try dsimp only); omega, rfl, .refl _, .nil, fun i hi => by (try dsimp only at hi); omega⟩ ?_ ?_
  · try dsimp only
    ((refine ⟨?_, ?_, ?_, ?_⟩) <;> (repeat' ((conv => whnf); apply And.intro)) <;> (try (first | exact trivial | decide)))
    all_goals first | rfl | exact fun _ _ h => h | simp [SV.wf, SV.wfs]
  · rintro ⟨k, A', c', ys⟩ hk
    try dsimp only at hk ⊢
    obtain ⟨hkn, hyl, hyp, hyw, hz⟩ := hk
    by_cases hlt : k < n
    · have hat : (errsF f l).getD k 0 = (cellR f (l.getD k e0).cell).2 := by
        simp [errsF, hl, hlt]
      (conv => whnf); repeat' (first | ((with_reducible refine isC ?_); first | ((with_reducible refine CallX_pure (rCell_x f (_, _)) ?_) <;> first | omega | (with_reducible show (_ : Int) ≤ _) | (with_reducible show (_ : Int) < _) | (with_reducible show (_ : Nat) ≤ _) | (with_reducible show (_ : Nat) < _) | (conv => whnf))) | ((with_reducible refine isV ?_); first | ((refine ValX_index tabOk rfl (ArgN.mem hpre (by decide)) rfl ?_ ?_ ?_) <;> first | omega | (with_reducible show (_ : Int) ≤ _) | (with_reducible show (_ : Int) < _) | (with_reducible show (_ : Nat) ≤ _) | (with_reducible show (_ : Nat) < _) | (conv => whnf)) | ((with_reducible refine nat_idx ?_); (refine ValX_loadEn _ _ (e0) tabOk rfl rfl rfl rfl (ArgN.mem hpre (by decide)) ?_ ?_ ?_) <;> first | rfl | omega | (with_reducible show (_ : Int) ≤ _) | (with_reducible show (_ : Int) < _) | (with_reducible show (_ : Nat) ≤ _) | (with_reducible show (_ : Nat) < _) | (conv => whnf)) | ((refine ValX_loadE _ _ (e0) tabOk rfl rfl rfl rfl (ArgN.mem hpre (by decide)) ?_ ?_ ?_) <;> first | rfl | omega | (with_reducible show (_ : Int) ≤ _) | (with_reducible show (_ : Int) < _) | (with_reducible show (_ : Nat) ≤ _) | (with_reducible show (_ : Nat) < _) | (conv => whnf)) | ((with_reducible refine nat_idxF ?_); (refine ValX_loadGn _ _ (e0) _ tabOk rfl rfl rfl (ArgN.mem hpre (by decide)) ?_ ?_ rfl rfl ?_) <;> first | omega | (with_reducible show (_ : Int) ≤ _) | (with_reducible show (_ : Int) < _) | (with_reducible show (_ : Nat) ≤ _) | (with_reducible show (_ : Nat) < _) | (conv => whnf)) | ((refine ValX_loadG _ _ (e0) _ tabOk rfl rfl rfl (ArgN.mem hpre (by decide)) ?_ ?_ rfl rfl ?_) <;> first | omega | (with_reducible show (_ : Int) ≤ _) | (with_reducible show (_ : Int) < _) | (with_reducible show (_ : Nat) ≤ _) | (with_reducible show (_ : Nat) < _) | (conv => whnf)) | ((with_reducible refine nat_idxF ?_); (refine ValX_loadFn _ _ (e0) _ tabOk rfl rfl rfl (ArgN.mem hpre (by decide)) ?_ ?_ rfl ?_) <;> first | omega | (simp; omega) | (with_reducible show (_ : Int) ≤ _) | (with_reducible show (_ : Int) < _) | (with_reducible show (_ : Nat) ≤ _) | (with_reducible show (_ : Nat) < _) | (conv => whnf)) | ((refine ValX_loadF _ _ (e0) _ tabOk rfl rfl rfl (ArgN.mem hpre (by decide)) ?_ ?_ rfl ?_) <;> first | omega | (simp; omega) | (with_reducible show (_ : Int) ≤ _) | (with_reducible show (_ : Int) < _) | (with_reducible show (_ : Nat) ≤ _) | (with_reducible show (_ : Nat) < _) | (conv => whnf))) | ((with_reducible refine isO ?_); first | ((refine OpX_append 1 tabOk rfl rfl rfl rfl (ArgSl.row 4 rfl) (by decide) ?_ ?_ ?_) <;> first | omega | (dsimp only; omega) | (intro A' c'; conv => whnf)) | ((refine OpX_build0 tabOk rfl rfl rfl ?_); intro bN; conv => whnf) | ((refine OpX_build tabOk rfl rfl rfl rfl rfl ?_); intro bN; conv => whnf)) | ((with_reducible refine isW ?_); first | ((with_reducible refine xwr_ok (by omega) (by omega) ?_); conv => whnf) | ((with_reducible refine xwr_raw ?_); conv => whnf)) | ((with_reducible refine isQ ?_); first | ((with_reducible refine xquo_nn (by omega) (by omega) (by omega) ?_); conv => whnf) | ((with_reducible refine xquo_ok (by omega) (by omega) (by omega) ?_); conv => whnf) | ((with_reducible refine xquo_raw (by omega) ?_); conv => whnf)) | ((with_reducible refine isR ?_); first | ((with_reducible refine xrem_nn (by omega) (by omega) ?_); conv => whnf) | ((with_reducible refine xrem_raw (by omega) ?_); conv => whnf)) | ((with_reducible refine need_i ?_ ?_) <;> first | omega | (conv => whnf)) | ((refine DrawX_s tabOk folOk ?_); conv => whnf) | ((refine DrawS_i (by kernel_rfl) ?_); conv => whnf) | ((with_reducible refine andX_i ?_ ?_) <;> (conv => whnf)) | (with_reducible exact rfl) | ((with_reducible refine xif_kt (by with_reducible assumption) ?_); conv => whnf) | ((with_reducible refine xif_kf (by with_reducible assumption) ?_); conv => whnf) | (((with_reducible refine xif_s ?_ ?_) <;> (intro hb; (try simp (disch := omega) only [wr, ge_dec, gt_dec, decide_eq_true_eq, decide_eq_false_iff_not, beq_iff_eq, bne_iff_ne, beq_eq_false_iff_ne, bne_eq_false_iff_eq, Bool.not_eq_true', Bool.not_eq_false', Bool.and_eq_true, Bool.or_eq_true, Bool.not_not, ne_eq, Decidable.not_not, Int.not_le, Int.not_lt, Int.toNat_natCast, not_true_eq_false, eq_self, Bool.not_true, Bool.not_false, Bool.true_eq_false, Bool.false_eq_true] at hb))) <;> (conv => whnf)))
      · refine Fin_addNil 42 4 ?_
        have h1 : codeF f l = (cellR f (l.getD k e0).cell).2 := by rw [h2, orI_at (by omega) hz (by rw [hat]; exact hb), hat]
        have h3 : codeF f l ≠ 0 := by rw [h1]; exact hb
        exact Fin_m ⟨(none, 0, []), IsOut_bad h3⟩ [3] ⟨congrArg (fun i => SV.t [.v (.slice none 0 0), I i]) h1.symm, by simp [SV.wf, SV.wfs]⟩ ⟨⟨rfl, rfl, rfl, rfl, rfl, rfl⟩, trivial⟩ (by decide) rfl
      · have hz' : ∀ i, i < k + 1 → (errsF f l).getD i 0 = 0 := by
          intro i hi
          by_cases e : i = k
          · rw [e, hat]
            exact hb
          · exact hz i (by omega)
        have ht : (l.map (imgE f)).take (k + 1) = (l.map (imgE f)).take k ++ [imgE f (l.getD k e0)] := by
          rw [List.take_succ_eq_append_getElem (by omega)]
          simp [hl, hlt]
        obtain ⟨x, hx⟩ : ∃ x, x = imgE f (l.getD k e0) := ⟨_, rfl⟩
        have hin : insAt ys k x = ys ++ [imgE f (l.getD k e0)] := by
          rw [← hx]
          subst hyl
          exact insAt_all ys x
        refine LoopX_inv tabOk (α := Nat) (fun j => j ≤ k ∧ ∀ y ∈ ys.drop j, befB x.cell y.cell = true) (fun j => [(11, I j), (7, I k), (1, .v (.slice A n c)), (2, .p 0 0), (6, .v (.slice A' (k + 1) c'))]) (fun j => [.box 23 [I f.1, I f.2.1, I f.2.2], .row 42 4 A' (k + 1) c' ((insAt ys j x).map encE)]) (fun j => j) k [0, 1] ⟨by omega, fun y hy => by rw [← hyl] at hy; simp at hy⟩ ?_ ?_
        · try dsimp only
          rw [hin, List.map_append]
          ((refine ⟨?_, ?_, ?_, ?_⟩) <;> (repeat' ((conv => whnf); apply And.intro)) <;> (try (first | exact trivial | decide)))
          all_goals first | rfl | exact fun _ _ h => h | exact congrArg (fun i => SV.v (Value.int .i64 i)) (show ((k + 1 : Nat) : Int) - 1 = k by omega) | (simp [SV.wf, SV.wfs]; done) | trace_state
        · intro j hj
          try dsimp only at hj ⊢
          obtain ⟨hjk, hd⟩ := hj
          have hyp2 : (insAt ys j x).Perm ((l.map (imgE f)).take (k + 1)) := by
            rw [ht, ← hx]
            exact (insAt_perm ys j x).trans (hyp.append_right [x])
          clear hb hx hin ht hat hz
          have hjy : j ≤ ys.length := by omega
          have hil : (insAt ys j x).length = k + 1 := by rw [insAt_len (by omega), hyl]
          (conv => whnf); repeat' (first | ((with_reducible refine isC ?_); first | ((with_reducible refine CallX_pure (Before_x (_, _) (_, _)) ?_) <;> first | omega | (with_reducible show (_ : Int) ≤ _) | (with_reducible show (_ : Int) < _) | (with_reducible show (_ : Nat) ≤ _) | (with_reducible show (_ : Nat) < _) | (conv => whnf))) | ((with_reducible refine isV ?_); first | ((with_reducible refine nat_idxF ?_); (refine ValX_loadGn _ _ (e0) _ tabOk rfl rfl rfl (ArgSl.row 1 rfl) ?_ ?_ rfl rfl ?_) <;> first | omega | (with_reducible show (_ : Int) ≤ _) | (with_reducible show (_ : Int) < _) | (with_reducible show (_ : Nat) ≤ _) | (with_reducible show (_ : Nat) < _) | (conv => whnf)) | ((refine ValX_loadG _ _ (e0) _ tabOk rfl rfl rfl (ArgSl.row 1 rfl) ?_ ?_ rfl rfl ?_) <;> first | omega | (with_reducible show (_ : Int) ≤ _) | (with_reducible show (_ : Int) < _) | (with_reducible show (_ : Nat) ≤ _) | (with_reducible show (_ : Nat) < _) | (conv => whnf)) | ((refine ValX_index tabOk rfl (ArgSl.row 1 rfl) rfl ?_ ?_ ?_) <;> first | omega | (with_reducible show (_ : Int) ≤ _) | (with_reducible show (_ : Int) < _) | (with_reducible show (_ : Nat) ≤ _) | (with_reducible show (_ : Nat) < _) | (conv => whnf)) | ((with_reducible refine nat_idx ?_); (refine ValX_loadEn _ _ (e0) tabOk rfl rfl rfl rfl (ArgSl.row 1 rfl) ?_ ?_ ?_) <;> first | rfl | omega | (with_reducible show (_ : Int) ≤ _) | (with_reducible show (_ : Int) < _) | (with_reducible show (_ : Nat) ≤ _) | (with_reducible show (_ : Nat) < _) | (conv => whnf)) | ((refine ValX_loadE _ _ (e0) tabOk rfl rfl rfl rfl (ArgSl.row 1 rfl) ?_ ?_ ?_) <;> first | rfl | omega | (with_reducible show (_ : Int) ≤ _) | (with_reducible show (_ : Int) < _) | (with_reducible show (_ : Nat) ≤ _) | (with_reducible show (_ : Nat) < _) | (conv => whnf)) | ((refine ValX_index tabOk rfl (ArgSl.row 1 rfl) rfl ?_ ?_ ?_) <;> first | omega | (with_reducible show (_ : Int) ≤ _) | (with_reducible show (_ : Int) < _) | (with_reducible show (_ : Nat) ≤ _) | (with_reducible show (_ : Nat) < _) | (conv => whnf))) | ((with_reducible refine isO ?_); first | ((refine OpX_store 1 tabOk rfl rfl rfl rfl rfl rfl ?_ ?_) <;> first | omega | (with_reducible show (_ : Int) ≤ _) | (with_reducible show (_ : Int) < _) | (with_reducible show (_ : Nat) ≤ _) | (with_reducible show (_ : Nat) < _) | (conv => whnf)) | ((refine OpX_build0 tabOk rfl rfl rfl ?_); intro bN; conv => whnf) | ((refine OpX_build tabOk rfl rfl rfl rfl rfl ?_); intro bN; conv => whnf)) | ((with_reducible refine isW ?_); first | ((with_reducible refine xwr_ok (by omega) (by omega) ?_); conv => whnf) | ((with_reducible refine xwr_raw ?_); conv => whnf)) | ((with_reducible refine isQ ?_); first | ((with_reducible refine xquo_nn (by omega) (by omega) (by omega) ?_); conv => whnf) | ((with_reducible refine xquo_ok (by omega) (by omega) (by omega) ?_); conv => whnf) | ((with_reducible refine xquo_raw (by omega) ?_); conv => whnf)) | ((with_reducible refine isR ?_); first | ((with_reducible refine xrem_nn (by omega) (by omega) ?_); conv => whnf) | ((with_reducible refine xrem_raw (by omega) ?_); conv => whnf)) | ((with_reducible refine need_i ?_ ?_) <;> first | omega | (conv => whnf)) | ((refine DrawX_s tabOk folOk ?_); conv => whnf) | ((refine DrawS_i (by kernel_rfl) ?_); conv => whnf) | ((with_reducible refine andX_i ?_ ?_) <;> (conv => whnf)) | (with_reducible exact rfl) | ((with_reducible refine xif_kt (by with_reducible assumption) ?_); conv => whnf) | ((with_reducible refine xif_kf (by with_reducible assumption) ?_); conv => whnf) | (((with_reducible refine xif_s ?_ ?_) <;> (intro hb; (try simp (disch := omega) only [wr, ge_dec, gt_dec, decide_eq_true_eq, decide_eq_false_iff_not, beq_iff_eq, bne_iff_ne, beq_eq_false_iff_ne, bne_eq_false_iff_eq, Bool.not_eq_true', Bool.not_eq_false', Bool.and_eq_true, Bool.or_eq_true, Bool.not_not, ne_eq, Decidable.not_not, Int.not_le, Int.not_lt, Int.toNat_natCast, not_true_eq_false, eq_self, Bool.not_true, Bool.not_false, Bool.true_eq_false, Bool.false_eq_true] at hb))) <;> (conv => whnf)))
          all_goals try exact hil
          · have hi : ((j : Int) - 1).toNat = j - 1 := by omega
            have h1j : 1 ≤ j := by omega
            rw [hi, insAt_at hjy, insAt_pre h1j hjy] at hb
            have key : (((insAt ys j x).map encE).set j (encE (ys.getD (j - 1) e0))).set (j - 1) (encE x) = (insAt ys (j - 1) x).map encE := by rw [← insAt_swap h1j hjy, List.map_set, List.map_set]
            refine ⟨j - 1, [0, 1], ⟨by omega, fun y hy => ?_⟩, ?_, by (try dsimp only); omega⟩
            · rw [List.drop_eq_getElem_cons (show j - 1 < ys.length by omega), show j - 1 + 1 = j by omega] at hy
              rcases List.mem_cons.1 hy with rfl | hy
              · have e : ys.getD (j - 1) e0 = ys[j - 1] := by simp [show j - 1 < ys.length by omega]
                rw [e] at hb
                exact hb
              · exact hd y hy
            · try dsimp only
              rw [← key]
              try rw [hi]
              try rw [insAt_at hjy]
              try rw [insAt_pre h1j hjy]
              ((refine ⟨?_, ?_, ?_, ?_⟩) <;> (repeat' ((conv => whnf); apply And.intro)) <;> (try (first | exact trivial | decide)))
              all_goals first | rfl | exact fun _ _ h => h | exact congrArg (fun i => SV.v (Value.int .i64 i)) (show (j : Int) - 1 = ((j - 1 : Nat) : Int) by omega) | (simp [SV.wf, SV.wfs]; done) | trace_state
          · have hi : ((j : Int) - 1).toNat = j - 1 := by omega
            have h1j : 1 ≤ j := by omega
            rw [hi, insAt_at hjy, insAt_pre h1j hjy] at hb
            refine ⟨(k + 1, A', c', insAt ys j x), [0, 1], ⟨by (try dsimp only); omega, hil, hyp2, insAt_wk hjy hyw hd (fun _ => hb), hz'⟩, ?_, by (try dsimp only); omega⟩
            try dsimp only
            ((refine ⟨?_, ?_, ?_, ?_⟩) <;> (repeat' ((conv => whnf); apply And.intro)) <;> (try (first | exact trivial | decide)))
            all_goals first | rfl | exact fun _ _ h => h | exact I_eq (wr (by omega) (by omega)) | (simp [SV.wf, SV.wfs]; done) | trace_state
          · refine ⟨(k + 1, A', c', insAt ys j x), [0, 1], ⟨by (try dsimp only); omega, hil, hyp2, insAt_wk hjy hyw hd (fun h0 => by omega), hz'⟩, ?_, by (try dsimp only); omega⟩
            try dsimp only
            ((refine ⟨?_, ?_, ?_, ?_⟩) <;> (repeat' ((conv => whnf); apply And.intro)) <;> (try (first | exact trivial | decide)))
            all_goals first | rfl | exact fun _ _ h => h | exact I_eq (wr (by omega) (by omega)) | (simp [SV.wf, SV.wfs]; done) | trace_state
      · exfalso
        omega
    · obtain rfl : k = n := by omega
      have hc0 : codeF f l = 0 := by
        rw [h2, orI_zero (k := k) (by omega) hz, ← hel]
        simp [orI]
      have htk : (l.map (imgE f)).take k = l.map (imgE f) := List.take_of_length_le (by omega)
      rw [htk] at hyp
      (conv => whnf); repeat' (first | ((with_reducible refine isO ?_); first | ((refine OpX_build0 tabOk rfl rfl rfl ?_); intro bN; conv => whnf) | ((refine OpX_build tabOk rfl rfl rfl rfl rfl ?_); intro bN; conv => whnf)) | ((with_reducible refine isW ?_); first | ((with_reducible refine xwr_ok (by omega) (by omega) ?_); conv => whnf) | ((with_reducible refine xwr_raw ?_); conv => whnf)) | ((with_reducible refine isQ ?_); first | ((with_reducible refine xquo_nn (by omega) (by omega) (by omega) ?_); conv => whnf) | ((with_reducible refine xquo_ok (by omega) (by omega) (by omega) ?_); conv => whnf) | ((with_reducible refine xquo_raw (by omega) ?_); conv => whnf)) | ((with_reducible refine isR ?_); first | ((with_reducible refine xrem_nn (by omega) (by omega) ?_); conv => whnf) | ((with_reducible refine xrem_raw (by omega) ?_); conv => whnf)) | ((with_reducible refine need_i ?_ ?_) <;> first | omega | (conv => whnf)) | ((refine DrawX_s tabOk folOk ?_); conv => whnf) | ((refine DrawS_i (by kernel_rfl) ?_); conv => whnf) | ((with_reducible refine andX_i ?_ ?_) <;> (conv => whnf)) | (with_reducible exact rfl) | ((with_reducible refine xif_kt (by with_reducible assumption) ?_); conv => whnf) | ((with_reducible refine xif_kf (by with_reducible assumption) ?_); conv => whnf) | (((with_reducible refine xif_s ?_ ?_) <;> (intro hb; (try simp (disch := omega) only [wr, ge_dec, gt_dec, decide_eq_true_eq, decide_eq_false_iff_not, beq_iff_eq, bne_iff_ne, beq_eq_false_iff_ne, bne_eq_false_iff_eq, Bool.not_eq_true', Bool.not_eq_false', Bool.and_eq_true, Bool.or_eq_true, Bool.not_not, ne_eq, Decidable.not_not, Int.not_le, Int.not_lt, Int.toNat_natCast, not_true_eq_false, eq_self, Bool.not_true, Bool.not_false, Bool.true_eq_false, Bool.false_eq_true] at hb))) <;> (conv => whnf)))
      · exfalso
        omega
      · refine Fin_m ⟨(A', c', ys), ?_⟩ [1] ⟨?_, by simp [SV.wf, SV.wfs]⟩ ⟨⟨rfl, rfl, rfl, ?_, rfl, rfl⟩, trivial⟩ (by decide) rfl
        · unfold IsOut
          rw [if_pos hc0]
          exact ⟨hyp, asc_of_sorted hyp (wk_get hyw) (img_ne hc0)⟩
        · show _ = SV.t [.v (.slice A' ys.length c'), I (codeF f l)]
          rw [hyl, hc0]
        · first | exact hyl | exact hyl.symm
end Go.Proofs.Ytbjkbjiglcomkaa.En
