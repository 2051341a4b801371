/- The reference's Compare. -/
import Derived.Test.YtadichckbogcjaaDoorXu
set_option linter.all false
namespace Go.Proofs.YtadichckbogcjaaDoor.En
open Go.RowKit
set_option maxRecDepth 100000

theorem occ45_w (A : Option Addr) (c : Nat) (l : List EntT) (x : CellT) {n : Nat} (hl : l.length = n) (hn : n ≤ maxLen) :
    CallW Tryd.prog 27 [.v (.slice A n c), .a [I x.1, I x.2]] (fun w => ArgSl w A n 4 (l.map encE)) (B (occE (atF l x))) := by
  have k1 := rAtF_w A c l x hl hn
  have k2 := rOccupied_x (atF l x)
  unfold occE
  generalize atF l x = e at *
  refine CallW.of Tryd.func27 rfl tabOk rfl rfl rfl (by simp [SV.wfs, SV.wf]) (by simp [SV.wfs, SV.wf]) fun w hpre => ?_
  (conv=>whnf);repeat' (first|((with_reducible refine isC ?_);first|(((with_reducible refine isF 45 ?_;refine CallX_w (k1) ?_ ?_);(focus exact hpre.mem (by decide) rfl));conv=>whnf)|((with_reducible refine CallX_pure (k2) ?_)<;>first|omega|with_reducible refine isP ?_|conv=>whnf))|with_reducible exact rfl|((with_reducible first|refine xif_kt (by assumption) ?_|refine xif_kf (by assumption) ?_);conv=>whnf)|((with_reducible refine xif_s ?_ ?_)<;>(intro hb;(try simp (disch:=omega) only [hbS] at hb)<;>conv=>whnf)))
  exact Fin_pure rfl rfl trivial
set_option maxHeartbeats 4000000 in
theorem rCompare_w (A : Option Addr) (c : Nat) (a : List EntT) {n : Nat} (hl : a.length = n) (hn : n ≤ maxLen) (A2 : Option Addr) (c2 : Nat) (b : List EntT) {m : Nat} (hm : b.length = m) (hm2 : m ≤ maxLen) :
    CallW Tryd.prog 11 [.v (.slice A n c), .v (.slice A2 m c2)] (fun w => ArgSl w A n 4 (a.map encE) ∧ ArgSl w A2 m 4 (b.map encE)) (.t [.a [I (cmpD a b).1, I (cmpD a b).2.1, I (cmpD a b).2.2.1, I (cmpD a b).2.2.2], I (if vE a && vE b then 0 else 1)]) := by
  have k1 := rVE_w A c a hl hn
  have k2 := rVE_w A2 c2 b hm hm2
  unfold cmpD
  refine CallW.of Tryd.func11 rfl tabOk rfl rfl rfl (by simp [SV.wfs, SV.wf]) (by simp [SV.wfs, SV.wf]) fun w hpre => ?_
  obtain ⟨hpre, hpre2⟩ := hpre
  (conv=>whnf);repeat' (first|((with_reducible refine isC ?_);first|((first|(with_reducible refine isF 15 ?_;refine CallX_w (k1) ?_ ?_);(focus exact hpre.mem (by decide) rfl)|(with_reducible refine isF 15 ?_;refine CallX_w (k2) ?_ ?_);(focus exact hpre2.mem (by decide) rfl));conv=>whnf))|((with_reducible refine isW ?_;first|refine xwr_ok (by omega) (by omega) ?_|refine xwr_raw ?_);conv=>whnf)|((first|refine DrawX_s tabOk folOk ?_|refine DrawS_i (by kernel_rfl) ?_|with_reducible refine andX_i ?_ ?_)<;>conv=>whnf)|with_reducible exact rfl|((with_reducible first|refine xif_kt (by assumption) ?_|refine xif_kf (by assumption) ?_);conv=>whnf)|((with_reducible refine xif_s ?_ ?_)<;>(intro hb;(try simp (disch:=omega) only [hbS] at hb)<;>conv=>whnf)))
  · rw [hb]
    exact Fin_pure rfl rfl (by simp [SV.wf, SV.wfs])
  · rename_i hb1
    rw [hb1, hb]
    exact Fin_pure rfl rfl (by simp [SV.wf, SV.wfs])
  · rename_i hb1
    have l1 := vE_le hb1
    have l2 := vE_le hb
    have ea : ∀ x, atF a x = getF a x := fun x => by unfold atF; rw [hb1, if_pos rfl]
    have eb : ∀ x, atF b x = getF b x := fun x => by unfold atF; rw [hb, if_pos rfl]
    clear k1 k2
    rw [hb1, hb]
    refine LoopX_inv tabOk (α := Nat) (fun i => i ≤ n) (fun i => [(0, .v (.slice A n c)), (1, .v (.slice A2 m c2)), (4, .p 0 0), (6, .p 1 0), (7, I i)])
      (fun i => [boxD (0, 0, 0, 0), boxD ((a.take i).countP (qB b), (a.take i).countP (qF b), 0, kn (a.take i) b)]) (fun i => n - i) 0 [0, 1] (Nat.zero_le _) ?_ ?_
    · ((refine ⟨?_, ?_, ?_, ?_⟩) <;> (repeat' ((conv => whnf); apply And.intro)) <;> (try (first | exact trivial | decide)))
      all_goals first | rfl | exact fun _ _ h => h | (simp [SV.wf, SV.wfs]; done) | trace_state
    · intro i hi
      have c1 := cnt_le (qB b) a i
      have c2' := cnt_le (qF b) a i
      have c3 := kn_le l2 (a.take i)
      have c3' : (a.take i).length ≤ i := by simp; omega
      simp only [boxD]
      by_cases hlt : i < n
      · have kt := kn_take (a := a) (b := b) (i := i) (by omega)
        have tB := cnt_take (qB b) (l := a) (k := i) (by omega)
        have tF := cnt_take (qF b) (l := a) (k := i) (by omega)
        have kO : CallW Tryd.prog 27 [.v (.slice A2 m c2), .a [I (a.getD i e0).1, I (a.getD i e0).2.1]] (fun w => ArgSl w A2 m 4 (b.map encE)) (B (occE (getF b (a.getD i e0).cell))) := by
          have := occ45_w A2 c2 b (a.getD i e0).cell hm hm2
          rw [eb] at this
          exact this
        have ho : PureX Tryd.prog 26 [.a [I (a.getD i e0).1, I (a.getD i e0).2.1, I (a.getD i e0).2.2.1, I (a.getD i e0).2.2.2]] (B (occE (a.getD i e0))) := rOccupied_x _
        rw [qB] at tB
        rw [qF] at tF
        generalize hB : (a.take i).countP (qB b) = dB at *
        generalize hF : (a.take i).countP (qF b) = dF at *
        generalize hK : kn (a.take i) b = dK at *
        clear ea eb
        (conv=>whnf);repeat' (first|((with_reducible refine isW ?_;first|refine xwr_ok (by omega) (by omega) ?_|refine xwr_raw ?_);conv=>whnf)|((first|refine DrawX_s tabOk folOk ?_|refine DrawS_i (by kernel_rfl) ?_|with_reducible refine andX_i ?_ ?_)<;>conv=>whnf)|with_reducible exact rfl|((with_reducible first|refine xif_kt (by assumption) ?_|refine xif_kf (by assumption) ?_);conv=>whnf)|((with_reducible refine xif_s ?_ ?_)<;>(intro hb;(try simp (disch:=omega) only [hbS] at hb)<;>conv=>whnf)))
        all_goals try (exfalso; omega)
        refine LoopX_inv tabOk (α := Nat) (fun k => k ≤ m) (fun k => [(0, .v (.slice A n c)), (1, .v (.slice A2 m c2)), (4, .p 0 0), (6, .p 1 0), (7, I i), (8, I k)])
          (fun k => [boxD (0, 0, 0, 0), boxD (dB, dF, 0, dK + (b.take k).countP (qK (a.getD i e0)))]) (fun k => m - k) 0 [0, 1] (Nat.zero_le _) ?_ ?_
        · ((refine ⟨?_, ?_, ?_, ?_⟩) <;> (repeat' ((conv => whnf); apply And.intro)) <;> (try (first | exact trivial | decide)))
          all_goals first | rfl | exact fun _ _ h => h | (simp [SV.wf, SV.wfs]; done) | trace_state
        · intro k hk
          have c4 := cnt_le (qK (a.getD i e0)) b k
          simp only [boxD]
          by_cases hkm : k < m
          · have tK := cnt_take (qK (a.getD i e0)) (l := b) (k := k) (by omega)
            have hq : qK (a.getD i e0) (b.getD k e0) = true ↔ (a.getD i e0).1 = (b.getD k e0).1 ∧ (a.getD i e0).2.1 = (b.getD k e0).2.1 := by simp [qK, EntT.cell, Prod.ext_iff]
            generalize hC : (b.take k).countP (qK (a.getD i e0)) = dC at *
            rcases Bool.eq_false_or_eq_true (qK (a.getD i e0) (b.getD k e0)) with h | h
            · have hc := hq.1 h
              rw [h] at tK
              (conv=>whnf);repeat' (first|((with_reducible refine isV ?_);first|((first|refine ValX_index tabOk rfl (hpre.mem (by decide) rfl) rfl ?_ ?_ ?_|(with_reducible refine nat_idx ?_);refine ValX_loadEn _ _ (e0) tabOk rfl rfl rfl rfl (hpre.mem (by decide) rfl) ?_ ?_ ?_|refine ValX_loadE _ _ (e0) tabOk rfl rfl rfl rfl (hpre.mem (by decide) rfl) ?_ ?_ ?_|refine ValX_index tabOk rfl (hpre2.mem (by decide) rfl) rfl ?_ ?_ ?_|(with_reducible refine nat_idx ?_);refine ValX_loadEn _ _ (e0) tabOk rfl rfl rfl rfl (hpre2.mem (by decide) rfl) ?_ ?_ ?_|refine ValX_loadE _ _ (e0) tabOk rfl rfl rfl rfl (hpre2.mem (by decide) rfl) ?_ ?_ ?_)<;>first|rfl|omega|with_reducible refine isP ?_|conv=>whnf)|((first|(with_reducible refine nat_idxF ?_);refine ValX_loadGn _ _ (e0) _ tabOk rfl rfl rfl (hpre.mem (by decide) rfl) ?_ ?_ rfl rfl ?_|refine ValX_loadG _ _ (e0) _ tabOk rfl rfl rfl (hpre.mem (by decide) rfl) ?_ ?_ rfl rfl ?_|(with_reducible refine nat_idxF ?_);refine ValX_loadGn _ _ (e0) _ tabOk rfl rfl rfl (hpre2.mem (by decide) rfl) ?_ ?_ rfl rfl ?_|refine ValX_loadG _ _ (e0) _ tabOk rfl rfl rfl (hpre2.mem (by decide) rfl) ?_ ?_ rfl rfl ?_)<;>first|omega|with_reducible refine isP ?_|conv=>whnf))|((with_reducible refine isW ?_;first|refine xwr_ok (by omega) (by omega) ?_|refine xwr_raw ?_);conv=>whnf)|((first|refine DrawX_s tabOk folOk ?_|refine DrawS_i (by kernel_rfl) ?_|with_reducible refine andX_i ?_ ?_)<;>conv=>whnf)|with_reducible exact rfl|((with_reducible first|refine xif_kt (by assumption) ?_|refine xif_kf (by assumption) ?_);conv=>whnf)|((with_reducible refine xif_s ?_ ?_)<;>(intro hb;(try simp (disch:=omega) only [hbS] at hb)<;>conv=>whnf)))
              all_goals try (exfalso; omega)
              all_goals try (exfalso; rw [hc.1, hc.2] at hb; simp only [beq_self_eq_true, Bool.and_true, Bool.and_self, Bool.true_eq_false] at hb; done)
              refine ⟨k + 1, [0, 1], by (try dsimp only); omega, ?_, by (try dsimp only); omega⟩
              dsimp only
              rw [tK]
              ((refine ⟨?_, ?_, ?_, ?_⟩) <;> (repeat' ((conv => whnf); apply And.intro)) <;> (try (first | exact trivial | decide)))
              all_goals first | rfl | exact fun _ _ h => h | (simp [SV.wf, SV.wfs]; done) | trace_state
            · have hc : ¬ ((a.getD i e0).1 = (b.getD k e0).1 ∧ (a.getD i e0).2.1 = (b.getD k e0).2.1) := fun h' => by rw [hq.2 h'] at h; cases h
              rw [h] at tK
              (conv=>whnf);repeat' (first|((with_reducible refine isV ?_);first|((first|refine ValX_index tabOk rfl (hpre.mem (by decide) rfl) rfl ?_ ?_ ?_|(with_reducible refine nat_idx ?_);refine ValX_loadEn _ _ (e0) tabOk rfl rfl rfl rfl (hpre.mem (by decide) rfl) ?_ ?_ ?_|refine ValX_loadE _ _ (e0) tabOk rfl rfl rfl rfl (hpre.mem (by decide) rfl) ?_ ?_ ?_|refine ValX_index tabOk rfl (hpre2.mem (by decide) rfl) rfl ?_ ?_ ?_|(with_reducible refine nat_idx ?_);refine ValX_loadEn _ _ (e0) tabOk rfl rfl rfl rfl (hpre2.mem (by decide) rfl) ?_ ?_ ?_|refine ValX_loadE _ _ (e0) tabOk rfl rfl rfl rfl (hpre2.mem (by decide) rfl) ?_ ?_ ?_)<;>first|rfl|omega|with_reducible refine isP ?_|conv=>whnf)|((first|(with_reducible refine nat_idxF ?_);refine ValX_loadGn _ _ (e0) _ tabOk rfl rfl rfl (hpre.mem (by decide) rfl) ?_ ?_ rfl rfl ?_|refine ValX_loadG _ _ (e0) _ tabOk rfl rfl rfl (hpre.mem (by decide) rfl) ?_ ?_ rfl rfl ?_|(with_reducible refine nat_idxF ?_);refine ValX_loadGn _ _ (e0) _ tabOk rfl rfl rfl (hpre2.mem (by decide) rfl) ?_ ?_ rfl rfl ?_|refine ValX_loadG _ _ (e0) _ tabOk rfl rfl rfl (hpre2.mem (by decide) rfl) ?_ ?_ rfl rfl ?_)<;>first|omega|with_reducible refine isP ?_|conv=>whnf))|((with_reducible refine isW ?_;first|refine xwr_ok (by omega) (by omega) ?_|refine xwr_raw ?_);conv=>whnf)|((first|refine DrawX_s tabOk folOk ?_|refine DrawS_i (by kernel_rfl) ?_|with_reducible refine andX_i ?_ ?_)<;>conv=>whnf)|with_reducible exact rfl|((with_reducible first|refine xif_kt (by assumption) ?_|refine xif_kf (by assumption) ?_);conv=>whnf)|((with_reducible refine xif_s ?_ ?_)<;>(intro hb;(try simp (disch:=omega) only [hbS] at hb)<;>conv=>whnf)))
              all_goals try (exfalso; omega)
              refine ⟨k + 1, [0, 1], by (try dsimp only); omega, ?_, by (try dsimp only); omega⟩
              dsimp only
              rw [tK]
              ((refine ⟨?_, ?_, ?_, ?_⟩) <;> (repeat' ((conv => whnf); apply And.intro)) <;> (try (first | exact trivial | decide)))
              all_goals first | rfl | exact fun _ _ h => h | (simp [SV.wf, SV.wfs]; done) | trace_state
          · obtain rfl : k = m := by omega
            rw [List.take_of_length_le (by omega)]
            rw [List.take_of_length_le (by omega)] at c4
            generalize hC : b.countP (qK (a.getD i e0)) = dC at *
            rcases Bool.eq_false_or_eq_true (occE (a.getD i e0)) with h | h
            · rcases Bool.eq_false_or_eq_true (occE (getF b (a.getD i e0).cell)) with h' | h'
              all_goals
                rw [h] at ho tB tF
                rw [h'] at kO tB tF
                (conv=>whnf);repeat' (first|((with_reducible refine isC ?_);first|((with_reducible refine CallX_pure (ho) ?_)<;>first|omega|with_reducible refine isP ?_|conv=>whnf)|(((with_reducible refine isF 27 ?_;refine CallX_w (kO) ?_ ?_);(focus exact hpre2.mem (by decide) rfl));conv=>whnf))|((with_reducible refine isV ?_);first|((first|refine ValX_index tabOk rfl (hpre.mem (by decide) rfl) rfl ?_ ?_ ?_|(with_reducible refine nat_idx ?_);refine ValX_loadEn _ _ (e0) tabOk rfl rfl rfl rfl (hpre.mem (by decide) rfl) ?_ ?_ ?_|refine ValX_loadE _ _ (e0) tabOk rfl rfl rfl rfl (hpre.mem (by decide) rfl) ?_ ?_ ?_)<;>first|rfl|omega|with_reducible refine isP ?_|conv=>whnf)|((first|(with_reducible refine nat_idxF ?_);refine ValX_loadGn _ _ (e0) _ tabOk rfl rfl rfl (hpre.mem (by decide) rfl) ?_ ?_ rfl rfl ?_|refine ValX_loadG _ _ (e0) _ tabOk rfl rfl rfl (hpre.mem (by decide) rfl) ?_ ?_ rfl rfl ?_)<;>first|omega|with_reducible refine isP ?_|conv=>whnf))|((with_reducible refine isW ?_;first|refine xwr_ok (by omega) (by omega) ?_|refine xwr_raw ?_);conv=>whnf)|((first|refine DrawX_s tabOk folOk ?_|refine DrawS_i (by kernel_rfl) ?_|with_reducible refine andX_i ?_ ?_)<;>conv=>whnf)|with_reducible exact rfl|((with_reducible first|refine xif_kt (by assumption) ?_|refine xif_kf (by assumption) ?_);conv=>whnf)|((with_reducible refine xif_s ?_ ?_)<;>(intro hb;(try simp (disch:=omega) only [hbS] at hb)<;>conv=>whnf)))
                all_goals try (exfalso; omega)
                refine ⟨i + 1, [0, 1], by (try dsimp only); omega, ?_, by (try dsimp only); omega⟩
                dsimp only
                rw [tB, tF, kt]
                ((refine ⟨?_, ?_, ?_, ?_⟩) <;> (repeat' ((conv => whnf); apply And.intro)) <;> (try (first | exact trivial | decide)))
                all_goals first | rfl | exact fun _ _ h => h | (simp [SV.wf, SV.wfs]; done) | trace_state
            · rw [h] at ho tB tF
              (conv=>whnf);repeat' (first|((with_reducible refine isC ?_);first|((with_reducible refine CallX_pure (ho) ?_)<;>first|omega|with_reducible refine isP ?_|conv=>whnf))|((with_reducible refine isV ?_);first|((first|refine ValX_index tabOk rfl (hpre.mem (by decide) rfl) rfl ?_ ?_ ?_|(with_reducible refine nat_idx ?_);refine ValX_loadEn _ _ (e0) tabOk rfl rfl rfl rfl (hpre.mem (by decide) rfl) ?_ ?_ ?_|refine ValX_loadE _ _ (e0) tabOk rfl rfl rfl rfl (hpre.mem (by decide) rfl) ?_ ?_ ?_)<;>first|rfl|omega|with_reducible refine isP ?_|conv=>whnf))|((with_reducible refine isW ?_;first|refine xwr_ok (by omega) (by omega) ?_|refine xwr_raw ?_);conv=>whnf)|((first|refine DrawX_s tabOk folOk ?_|refine DrawS_i (by kernel_rfl) ?_|with_reducible refine andX_i ?_ ?_)<;>conv=>whnf)|with_reducible exact rfl|((with_reducible first|refine xif_kt (by assumption) ?_|refine xif_kf (by assumption) ?_);conv=>whnf)|((with_reducible refine xif_s ?_ ?_)<;>(intro hb;(try simp (disch:=omega) only [hbS] at hb)<;>conv=>whnf)))
              all_goals try (exfalso; omega)
              refine ⟨i + 1, [0, 1], by (try dsimp only); omega, ?_, by (try dsimp only); omega⟩
              dsimp only
              rw [tB, tF, kt]
              ((refine ⟨?_, ?_, ?_, ?_⟩) <;> (repeat' ((conv => whnf); apply And.intro)) <;> (try (first | exact trivial | decide)))
              all_goals first | rfl | exact fun _ _ h => h | (simp [SV.wf, SV.wfs]; done) | trace_state
      · obtain rfl : i = n := by omega
        rw [List.take_of_length_le (by omega)] at *
        have hR : refD a b = (a.countP (qB b), a.countP (qF b), b.countP (qF a), kn a b) := rfl
        rw [if_pos (by rfl), if_pos (by rfl), hR]
        generalize hB : a.countP (qB b) = dB at *
        generalize hF : a.countP (qF b) = dF at *
        generalize hK : kn a b = dK at *
        (conv=>whnf);repeat' (first|((with_reducible refine isW ?_;first|refine xwr_ok (by omega) (by omega) ?_|refine xwr_raw ?_);conv=>whnf)|((first|refine DrawX_s tabOk folOk ?_|refine DrawS_i (by kernel_rfl) ?_|with_reducible refine andX_i ?_ ?_)<;>conv=>whnf)|with_reducible exact rfl|((with_reducible first|refine xif_kt (by assumption) ?_|refine xif_kf (by assumption) ?_);conv=>whnf)|((with_reducible refine xif_s ?_ ?_)<;>(intro hb;(try simp (disch:=omega) only [hbS] at hb)<;>conv=>whnf)))
        all_goals try (exfalso; omega)
        refine LoopX_inv tabOk (α := Nat) (fun k => k ≤ m) (fun k => [(0, .v (.slice A i c)), (1, .v (.slice A2 m c2)), (4, .p 0 0), (6, .p 1 0), (9, I k)])
          (fun k => [boxD (0, 0, 0, 0), boxD (dB, dF, (b.take k).countP (qF a), dK)]) (fun k => m - k) 0 [0, 1] (Nat.zero_le _) ?_ ?_
        · ((refine ⟨?_, ?_, ?_, ?_⟩) <;> (repeat' ((conv => whnf); apply And.intro)) <;> (try (first | exact trivial | decide)))
          all_goals first | rfl | exact fun _ _ h => h | (simp [SV.wf, SV.wfs]; done) | trace_state
        · intro k hk
          have c4 := cnt_le (qF a) b k
          simp only [boxD]
          by_cases hkm : k < m
          · have tF := cnt_take (qF a) (l := b) (k := k) (by omega)
            have kO : CallW Tryd.prog 27 [.v (.slice A i c), .a [I (b.getD k e0).1, I (b.getD k e0).2.1]] (fun w => ArgSl w A i 4 (a.map encE)) (B (occE (getF a (b.getD k e0).cell))) := by
              have := occ45_w A c a (b.getD k e0).cell hl hn
              rw [ea] at this
              exact this
            have ho : PureX Tryd.prog 26 [.a [I (b.getD k e0).1, I (b.getD k e0).2.1, I (b.getD k e0).2.2.1, I (b.getD k e0).2.2.2]] (B (occE (b.getD k e0))) := rOccupied_x _
            rw [qF] at tF
            generalize hC : (b.take k).countP (qF a) = dC at *
            rcases Bool.eq_false_or_eq_true (occE (b.getD k e0)) with h | h
            · rcases Bool.eq_false_or_eq_true (occE (getF a (b.getD k e0).cell)) with h' | h'
              all_goals
                rw [h] at ho tF
                rw [h'] at kO tF
                (conv=>whnf);repeat' (first|((with_reducible refine isC ?_);first|((with_reducible refine CallX_pure (ho) ?_)<;>first|omega|with_reducible refine isP ?_|conv=>whnf)|(((with_reducible refine isF 27 ?_;refine CallX_w (kO) ?_ ?_);(focus exact hpre.mem (by decide) rfl));conv=>whnf))|((with_reducible refine isV ?_);first|((first|refine ValX_index tabOk rfl (hpre2.mem (by decide) rfl) rfl ?_ ?_ ?_|(with_reducible refine nat_idx ?_);refine ValX_loadEn _ _ (e0) tabOk rfl rfl rfl rfl (hpre2.mem (by decide) rfl) ?_ ?_ ?_|refine ValX_loadE _ _ (e0) tabOk rfl rfl rfl rfl (hpre2.mem (by decide) rfl) ?_ ?_ ?_)<;>first|rfl|omega|with_reducible refine isP ?_|conv=>whnf)|((first|(with_reducible refine nat_idxF ?_);refine ValX_loadGn _ _ (e0) _ tabOk rfl rfl rfl (hpre2.mem (by decide) rfl) ?_ ?_ rfl rfl ?_|refine ValX_loadG _ _ (e0) _ tabOk rfl rfl rfl (hpre2.mem (by decide) rfl) ?_ ?_ rfl rfl ?_)<;>first|omega|with_reducible refine isP ?_|conv=>whnf))|((with_reducible refine isW ?_;first|refine xwr_ok (by omega) (by omega) ?_|refine xwr_raw ?_);conv=>whnf)|((first|refine DrawX_s tabOk folOk ?_|refine DrawS_i (by kernel_rfl) ?_|with_reducible refine andX_i ?_ ?_)<;>conv=>whnf)|with_reducible exact rfl|((with_reducible first|refine xif_kt (by assumption) ?_|refine xif_kf (by assumption) ?_);conv=>whnf)|((with_reducible refine xif_s ?_ ?_)<;>(intro hb;(try simp (disch:=omega) only [hbS] at hb)<;>conv=>whnf)))
                all_goals try (exfalso; omega)
                refine ⟨k + 1, [0, 1], by (try dsimp only); omega, ?_, by (try dsimp only); omega⟩
                dsimp only
                rw [tF]
                ((refine ⟨?_, ?_, ?_, ?_⟩) <;> (repeat' ((conv => whnf); apply And.intro)) <;> (try (first | exact trivial | decide)))
                all_goals first | rfl | exact fun _ _ h => h | (simp [SV.wf, SV.wfs]; done) | trace_state
            · rw [h] at ho tF
              (conv=>whnf);repeat' (first|((with_reducible refine isC ?_);first|((with_reducible refine CallX_pure (ho) ?_)<;>first|omega|with_reducible refine isP ?_|conv=>whnf))|((with_reducible refine isV ?_);first|((first|refine ValX_index tabOk rfl (hpre2.mem (by decide) rfl) rfl ?_ ?_ ?_|(with_reducible refine nat_idx ?_);refine ValX_loadEn _ _ (e0) tabOk rfl rfl rfl rfl (hpre2.mem (by decide) rfl) ?_ ?_ ?_|refine ValX_loadE _ _ (e0) tabOk rfl rfl rfl rfl (hpre2.mem (by decide) rfl) ?_ ?_ ?_)<;>first|rfl|omega|with_reducible refine isP ?_|conv=>whnf))|((with_reducible refine isW ?_;first|refine xwr_ok (by omega) (by omega) ?_|refine xwr_raw ?_);conv=>whnf)|((first|refine DrawX_s tabOk folOk ?_|refine DrawS_i (by kernel_rfl) ?_|with_reducible refine andX_i ?_ ?_)<;>conv=>whnf)|with_reducible exact rfl|((with_reducible first|refine xif_kt (by assumption) ?_|refine xif_kf (by assumption) ?_);conv=>whnf)|((with_reducible refine xif_s ?_ ?_)<;>(intro hb;(try simp (disch:=omega) only [hbS] at hb)<;>conv=>whnf)))
              all_goals try (exfalso; omega)
              refine ⟨k + 1, [0, 1], by (try dsimp only); omega, ?_, by (try dsimp only); omega⟩
              dsimp only
              rw [tF]
              ((refine ⟨?_, ?_, ?_, ?_⟩) <;> (repeat' ((conv => whnf); apply And.intro)) <;> (try (first | exact trivial | decide)))
              all_goals first | rfl | exact fun _ _ h => h | (simp [SV.wf, SV.wfs]; done) | trace_state
          · obtain rfl : k = m := by omega
            rw [List.take_of_length_le (by omega)]
            (conv=>whnf);repeat' (first|((with_reducible refine isW ?_;first|refine xwr_ok (by omega) (by omega) ?_|refine xwr_raw ?_);conv=>whnf)|((first|refine DrawX_s tabOk folOk ?_|refine DrawS_i (by kernel_rfl) ?_|with_reducible refine andX_i ?_ ?_)<;>conv=>whnf)|with_reducible exact rfl|((with_reducible first|refine xif_kt (by assumption) ?_|refine xif_kf (by assumption) ?_);conv=>whnf)|((with_reducible refine xif_s ?_ ?_)<;>(intro hb;(try simp (disch:=omega) only [hbS] at hb)<;>conv=>whnf)))
            all_goals try (exfalso; omega)
            exact Fin_pure rfl rfl (by simp [SV.wf, SV.wfs])
end Go.Proofs.YtadichckbogcjaaDoor.En
