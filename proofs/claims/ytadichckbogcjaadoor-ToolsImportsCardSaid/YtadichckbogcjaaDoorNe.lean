/- The reference's Export: a number's text, a list's lines. -/
import Derived.Test.YtadichckbogcjaaDoorNg
import Derived.Test.YtadichckbogcjaaDoorXt
set_option linter.all false
namespace Go.Proofs.YtadichckbogcjaaDoor.En
open Go.RowKit
set_option maxRecDepth 100000

theorem number_x (n : Int) (h0 : -9223372036854775808 ≤ n) (h1 : n ≤ 9223372036854775807) : PureX Tryd.prog 34 [I n] (S (Lib.itoa n)) := by
  rw [← txt_itoa]
  have ko := Of_m n h0 h1
  have hv : 0 ≤ (if n < 0 then -n else n) ∧ (if n < 0 then -n else n) < 18446744073709551616 := by split <;> omega
  have kx := fun A c => Text_m (decide (n < 0)) A c (if n < 0 then -n else n) hv.1 hv.2 rfl
  generalize (if n < 0 then -n else n) = v at *
  generalize decide (n < 0) = N at *
  generalize txt N v = T at *
  refine PureX.of Tryd.func34 rfl tabOk rfl rfl rfl (by simp [SV.wfs, SV.wf]) (by simp [SV.wfs, SV.wf]) fun w => ?_
  (conv=>whnf);repeat' (first|((with_reducible refine isC ?_);first|((first|(with_reducible refine isF 53 ?_);((refine CallX_m ko [] rfl trivial (by decide) (fun _ _ _ _ => trivial) ?_; intro q; obtain ⟨A1, c1⟩ := q; dsimp only))|(with_reducible refine isF 52 ?_);((refine CallX_m (kx A1 c1) [] rfl trivial (by decide) (fun σ fp w' hm => ⟨ArgN.row 0 rfl (m := 0) (fun j hj => by omega) σ fp w' hm, row_capN 0 rfl σ fp w' hm⟩) ?_; intro q2)));conv=>whnf))|with_reducible exact rfl|((with_reducible first|refine xif_kt (by assumption) ?_|refine xif_kf (by assumption) ?_);conv=>whnf)|((with_reducible refine xif_s ?_ ?_)<;>(intro hb;(try simp (disch:=omega) only [hbS] at hb)<;>conv=>whnf)))
  exact Fin_pure rfl rfl trivial
set_option maxHeartbeats 4000000 in
theorem rExport_w (A : Option Addr) (c : Nat) (l : List EntT) {n : Nat} (hl : l.length = n) (hn : n ≤ maxLen) :
    CallW Tryd.prog 14 [.v (.slice A n c)] (fun w => ArgSl w A n 4 (l.map encE)) (S (if vE l then exportS l else [])) := by
  have kv := rVE_w A c l hl hn
  rcases Bool.eq_false_or_eq_true (vE l) with hv | hv
  rotate_left
  · rw [hv] at kv ⊢
    refine CallW.of Tryd.func14 rfl tabOk rfl rfl rfl (by simp [SV.wfs, SV.wf]) (by simp [SV.wfs, SV.wf]) fun w hpre => ?_
    (conv=>whnf);repeat' (first|((with_reducible refine isC ?_);first|(((with_reducible refine isF 15 ?_;refine CallX_w (kv) ?_ ?_);(focus exact hpre.mem (by decide) rfl));conv=>whnf))|((with_reducible refine isW ?_;first|refine xwr_ok (by omega) (by omega) ?_|refine xwr_raw ?_);conv=>whnf)|((first|refine DrawX_s tabOk folOk ?_|refine DrawS_i (by kernel_rfl) ?_|with_reducible refine andX_i ?_ ?_)<;>conv=>whnf)|with_reducible exact rfl|((with_reducible first|refine xif_kt (by assumption) ?_|refine xif_kf (by assumption) ?_);conv=>whnf)|((with_reducible refine xif_s ?_ ?_)<;>(intro hb;(try simp (disch:=omega) only [hbS] at hb)<;>conv=>whnf)))
    exact Fin_pure rfl rfl trivial
  · rw [hv] at kv ⊢
    have hg : ∀ e ∈ l, goodB e = true := fun e he => vE_good hv he
    have hlen : l.length ≤ 1048576 := by
      simp only [vE, Bool.and_eq_true, decide_eq_true_eq] at hv
      exact hv.1
    refine CallW.of Tryd.func14 rfl tabOk rfl rfl rfl (by simp [SV.wfs, SV.wf]) (by simp [SV.wfs, SV.wf]) fun w hpre => ?_
    (conv=>whnf);repeat' (first|((with_reducible refine isC ?_);first|(((with_reducible refine isF 15 ?_;refine CallX_w (kv) ?_ ?_);(focus exact hpre.mem (by decide) rfl));conv=>whnf))|((with_reducible refine isW ?_;first|refine xwr_ok (by omega) (by omega) ?_|refine xwr_raw ?_);conv=>whnf)|((first|refine DrawX_s tabOk folOk ?_|refine DrawS_i (by kernel_rfl) ?_|with_reducible refine andX_i ?_ ?_)<;>conv=>whnf)|with_reducible exact rfl|((with_reducible first|refine xif_kt (by assumption) ?_|refine xif_kf (by assumption) ?_);conv=>whnf)|((with_reducible refine xif_s ?_ ?_)<;>(intro hb;(try simp (disch:=omega) only [hbS] at hb)<;>conv=>whnf)))
    refine LoopX_inv tabOk (α := Nat) (fun k => k ≤ n) (fun k => [(0, .v (.slice A n c)), (3, S (exportS (l.take k))), (4, I k)]) (fun _ => []) (fun k => n - k) 0 [] (Nat.zero_le _) ?_ ?_
    · ((refine ⟨?_, ?_, ?_, ?_⟩) <;> (repeat' ((conv => whnf); apply And.intro)) <;> (try (first | exact trivial | decide)))
      all_goals first | rfl | exact fun _ _ h => h | (simp [SV.wf, SV.wfs]; done) | trace_state
    · intro k hk
      have hbd : (exportS (l.take k)).length ≤ 88 * 1048576 := by
        have := exportS_len (l := l.take k) fun e he => hg e (List.mem_of_mem_take he)
        rw [List.length_take] at this
        omega
      by_cases hlt : k < n
      · have hnx := exportS_succ (l := l) (k := k) (by omega)
        have hge := hg (l.getD k e0) (by simp [show k < l.length by omega])
        have hll := lineE_len hge
        simp only [goodB, countB, szB, Bool.and_eq_true, decide_eq_true_eq] at hge
        have i1 : PureX Tryd.prog 34 [I (l.getD ((k : Int)).toNat e0).1] (S (Lib.itoa (l.getD k e0).1)) := number_x (l.getD k e0).1 (by omega) (by omega)
        have i2 : PureX Tryd.prog 34 [I (l.getD ((k : Int)).toNat e0).2.1] (S (Lib.itoa (l.getD k e0).2.1)) := number_x (l.getD k e0).2.1 (by omega) (by omega)
        have i3 : PureX Tryd.prog 34 [I (l.getD ((k : Int)).toNat e0).2.2.1] (S (Lib.itoa (l.getD k e0).2.2.1)) := number_x (l.getD k e0).2.2.1 (by omega) (by omega)
        have i4 : PureX Tryd.prog 34 [I (l.getD ((k : Int)).toNat e0).2.2.2] (S (Lib.itoa (l.getD k e0).2.2.2)) := number_x (l.getD k e0).2.2.2 (by omega) (by omega)
        have j1 := number_x (l.getD k e0).1 (by omega) (by omega)
        have j2 := number_x (l.getD k e0).2.1 (by omega) (by omega)
        have j3 := number_x (l.getD k e0).2.2.1 (by omega) (by omega)
        have j4 := number_x (l.getD k e0).2.2.2 (by omega) (by omega)
        generalize exportS (l.take k) = X at *
        unfold lineE at hnx hll
        simp only [List.length_append, List.length_cons, List.length_nil] at hll
        clear hg hge kv
        (conv=>whnf);repeat' (first|((with_reducible refine isC ?_);first|((first|with_reducible refine CallX_pure (i1) ?_|with_reducible refine CallX_pure (i2) ?_|with_reducible refine CallX_pure (i3) ?_|with_reducible refine CallX_pure (i4) ?_|with_reducible refine CallX_pure (j1) ?_|with_reducible refine CallX_pure (j2) ?_|with_reducible refine CallX_pure (j3) ?_|with_reducible refine CallX_pure (j4) ?_)<;>first|omega|with_reducible refine isP ?_|conv=>whnf))|((with_reducible refine isV ?_);first|((first|(with_reducible refine nat_idxF ?_);refine ValX_loadFn _ _ (e0) _ tabOk rfl rfl rfl (hpre.mem (by decide) rfl) ?_ ?_ rfl ?_|refine ValX_loadF _ _ (e0) _ tabOk rfl rfl rfl (hpre.mem (by decide) rfl) ?_ ?_ rfl ?_)<;>first|omega|(simp;omega)|with_reducible refine isP ?_|conv=>whnf)|((refine ValX_index tabOk rfl (hpre.mem (by decide) rfl) rfl ?_ ?_ ?_)<;>first|rfl|omega|with_reducible refine isP ?_|conv=>whnf)|(refine ValX_sAdd rfl (by simp only [List.length_append, List.length_cons, List.length_nil]; omega) ?_; conv => whnf))|((with_reducible refine isW ?_;first|refine xwr_ok (by omega) (by omega) ?_|refine xwr_raw ?_);conv=>whnf)|((first|refine DrawX_s tabOk folOk ?_|refine DrawS_i (by kernel_rfl) ?_|with_reducible refine andX_i ?_ ?_)<;>conv=>whnf)|with_reducible exact rfl|((with_reducible first|refine xif_kt (by assumption) ?_|refine xif_kf (by assumption) ?_);conv=>whnf)|((with_reducible refine xif_s ?_ ?_)<;>(intro hb;(try simp (disch:=omega) only [hbS] at hb)<;>conv=>whnf)))
        all_goals try (exfalso; omega)
        refine ⟨k + 1, [], by (try dsimp only); omega, ?_, by (try dsimp only); omega⟩
        dsimp only
        rw [hnx]
        ((refine ⟨?_, ?_, ?_, ?_⟩) <;> (repeat' ((conv => whnf); apply And.intro)) <;> (try (first | exact trivial | decide)))
        all_goals first | rfl | exact fun _ _ h => h | (simp [SV.wf, SV.wfs]; done) | trace_state
      · obtain rfl : k = n := by omega
        rw [List.take_of_length_le (by omega)] at hbd ⊢
        (conv=>whnf);repeat' (first|((with_reducible refine isW ?_;first|refine xwr_ok (by omega) (by omega) ?_|refine xwr_raw ?_);conv=>whnf)|((first|refine DrawX_s tabOk folOk ?_|refine DrawS_i (by kernel_rfl) ?_|with_reducible refine andX_i ?_ ?_)<;>conv=>whnf)|with_reducible exact rfl|((with_reducible first|refine xif_kt (by assumption) ?_|refine xif_kf (by assumption) ?_);conv=>whnf)|((with_reducible refine xif_s ?_ ?_)<;>(intro hb;(try simp (disch:=omega) only [hbS] at hb)<;>conv=>whnf)))
        all_goals try (exfalso; omega)
        exact Fin_pure rfl rfl trivial
end Go.Proofs.YtadichckbogcjaaDoor.En
