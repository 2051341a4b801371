import Derived.Test.YtadichckbogcjaaGreatDoorZToolsFirst22
import Derived.Test.YtadichckbogcjaaGreatDoorZToolsFirst17
set_option linter.all false
section
namespace Go.Proofs.YtadichckbogcjaaGreatDoor.En
open Go.RowKit
set_option maxRecDepth 100000
theorem rowG_succ (x0 y : Int) (j : Nat) : rowK allC x0 y (j + 1) = rowK allC x0 y j ++ [(x0 + (j : Int), y)] := by
  rw [rowK_succ, if_pos (show allC (x0 + (j : Int), y) = true from rfl)]
theorem stepG_cases (a : PoseT) (b : BeamT) (L : List EntT) (c : CellT) : (mB a b c = false → stepG a b L c = L) ∧ (mB a b c = true → eB a b c = true → stepG a b L c = (putE L (c.1, c.2, 1, 0)).1) ∧ (mB a b c = true → eB a b c = false → stepG a b L c = (putE L (c.1, c.2, 0, 1)).1) := by
  refine ⟨fun h => ?_, fun h h2 => ?_, fun h h2 => ?_⟩ <;> unfold stepG
  · rw [h, if_neg (by simp)]
  · rw [h, if_pos rfl]
    unfold entG
    rw [h2, if_pos rfl]
  · rw [h, if_pos rfl]
    unfold entG
    rw [h2, if_neg (by simp)]
theorem grid_len (a : PoseT) (b : BeamT) (hb : -1 ≤ b.2 ∧ b.2 ≤ 1024) : (gridC a b).length ≤ 10000 := by
  have hk : 2 ≤ kB b ∧ kB b ≤ 18 := by
    unfold kB reachB
    split <;> omega
  have := outK_len allC (a.1 / 64 - kB b) (a.2.1 / 64 - kB b) (2 * kB b + 1).toNat (by omega) (2 * kB b + 1).toNat
  unfold gridC
  omega
set_option maxHeartbeats 8000000 in
theorem rOf_m (a : PoseT) (A : Option Addr) (c : Nat) (s : List BeamT) {n : Nat} (hl : s.length = n) (hn : n ≤ maxLen) :
    CallM Tryz.prog 28 [.a [I a.1, I a.2.1, I a.2.2], .v (.slice A n c)] (fun w M => ArgN w M A n 2 (s.map encB)) []
      (fun q : Option Addr × Nat => .t [.v (.slice q.1 (ofE a s).1.length q.2), I (ofE a s).2]) (fun q => [.row 34 4 q.1 (ofE a s).1.length q.2 ((ofE a s).1.map encE)]) := by
  have kp := bPose_x a
  have ks := bScan_w A c s hl hn
  have hn' := hn
  unfold maxLen at hn'
  have hbad := ofE_bad (at_ := a) (s := s)
  have hcode := ofE_code a s
  have hok : ofOk a s = (szB a.1 262144 && szB a.2.1 262144 && decide (0 ≤ a.2.2) && decide (a.2.2 < 256) && scanB s) := rfl
  cases hk : ofOk a s with
  | false =>
    rw [hk, if_neg (by simp)] at hcode
    obtain ⟨q1, q2⟩ := hbad (by omega)
    have e : ofE a s = ([], 1) := Prod.ext q1 q2
    rw [hk] at hok
    have hno : ¬ (szB a.1 262144 = true ∧ szB a.2.1 262144 = true ∧ 0 ≤ a.2.2 ∧ a.2.2 < 256 ∧ scanB s = true) := by
      rintro ⟨g1, g2, g3, g4, g5⟩
      rw [g1, g2, g5, decide_eq_true g3, decide_eq_true g4] at hok
      cases hok
    rw [e]
    clear q1 q2 hbad hcode e
    refine CallM.of (m := 0) Tryz.func28 rfl tabOk rfl rfl rfl rfl (by simp [SV.wfs, SV.wf]) fun w M π hpre => ?_
    (conv=>whnf);repeat' (first|((with_reducible refine isC ?_);first|((first|with_reducible refine CallX_pure (kp) ?_|with_reducible refine CallX_pure (Size_x _ _ ?_ ?_) ?_)<;>first|omega|with_reducible refine isP ?_|conv=>whnf)|(((with_reducible refine isF 65 ?_;refine CallX_w (ks) ?_ ?_);(focus exact ArgN.mem hpre (by decide)));conv=>whnf))|((with_reducible refine isW ?_;first|refine xwr_ok (by omega) (by omega) ?_|refine xwr_raw ?_);conv=>whnf)|((with_reducible refine isQ ?_;first|refine xquo_nn (by omega) (by omega) (by omega) ?_|refine xquo_ok (by omega) (by omega) (by omega) ?_|refine xquo_raw (by omega) ?_);conv=>whnf)|((with_reducible refine need_i ?_ ?_)<;>first|omega|conv=>whnf)|((first|refine DrawX_s tabOk folOk ?_|refine DrawS_i (by kernel_rfl) ?_|with_reducible refine andX_i ?_ ?_)<;>conv=>whnf)|with_reducible exact rfl|((with_reducible first|refine xif_kt (by assumption) ?_|refine xif_kf (by assumption) ?_);conv=>whnf)|((with_reducible refine xif_s ?_ ?_)<;>(intro hb;(try simp (disch:=omega) only [hbS] at hb)<;>conv=>whnf)))
    all_goals try (refine Fin_addNil 34 4 ?_; exact Fin_m (none, 0) [1] ⟨rfl, by simp [SV.wf, SV.wfs]⟩ ⟨⟨rfl, rfl, rfl, rfl, rfl, rfl⟩, trivial⟩ (by decide) rfl)
    all_goals
      exfalso
      have hp : poseB a = true := by assumption
      simp only [poseB, Bool.and_eq_true, decide_eq_true_eq] at hp
      exact hno ⟨by assumption, by assumption, hp.1.2, hp.2, by assumption⟩
  | true =>
    have heq := ofG_eq hk
    rw [hk, if_pos rfl] at hcode
    obtain ⟨o1, o2, o3⟩ := ofOk_bd hk
    have x1 := szB_bd o1
    have x2 := szB_bd o2
    have hbm : ∀ k, k < n → -1 ≤ (s.getD k b0).2 ∧ (s.getD k b0).2 ≤ 1024 := fun k hk' => by
      have := scan_mem o3 (b := s.getD k b0) (by simp [show k < s.length by omega])
      omega
    have hlen32 : n ≤ 32 := by
      unfold scanB at o3
      simp only [Bool.and_eq_true, decide_eq_true_eq] at o3
      omega
    rw [hcode, ← heq]
    rw [o1, o2, o3] at hok
    have hH : 0 ≤ a.2.2 ∧ a.2.2 < 256 := by
      rw [hk] at hok
      simpa using hok.symm
    rw [show poseB a = true by simp [poseB, szB]; omega] at kp
    rw [o3] at ks
    have z1 := Size_x a.1 262144 (by decide) (by decide)
    have z2 := Size_x a.2.1 262144 (by decide) (by decide)
    rw [o1] at z1
    rw [o2] at z2
    have f1 := bFloor_x a.1 (by omega)
    have f2 := bFloor_x a.2.1 (by omega)
    clear hcode hbad heq hok
    have hfold : ∀ k, k < n → (s.take (k + 1)).foldl (beamG a) [] = beamG a ((s.take k).foldl (beamG a) []) (s.getD k b0) := fun k hk' => fold_take (beamG a) [] (d := b0) (by omega)
    have hokG : ∀ k, k ≤ n → okG (k * 10000) ((s.take k).foldl (beamG a) []) := by
      intro k
      induction k with
      | zero => exact fun _ => ⟨by simp, by simp⟩
      | succ k ih =>
        intro hk'
        rw [hfold k (by omega)]
        refine (foldG_ok (gridC a (s.getD k b0)) (ih (by omega))).le ?_
        have := grid_len a (s.getD k b0) (hbm k (by omega))
        omega
    refine CallM.of (m := 0) Tryz.func28 rfl tabOk rfl rfl rfl rfl (by simp [SV.wfs, SV.wf]) fun w M π hpre => ?_
    (conv=>whnf);repeat' (first|((with_reducible refine isC ?_);first|((first|with_reducible refine CallX_pure (kp) ?_|with_reducible refine CallX_pure (z1) ?_|with_reducible refine CallX_pure (z2) ?_)<;>first|omega|with_reducible refine isP ?_|conv=>whnf)|(((with_reducible refine isF 65 ?_;refine CallX_w (ks) ?_ ?_);(focus exact ArgN.mem hpre (by decide)));conv=>whnf))|((with_reducible refine isW ?_;first|refine xwr_ok (by omega) (by omega) ?_|refine xwr_raw ?_);conv=>whnf)|((with_reducible refine isQ ?_;first|refine xquo_nn (by omega) (by omega) (by omega) ?_|refine xquo_ok (by omega) (by omega) (by omega) ?_|refine xquo_raw (by omega) ?_);conv=>whnf)|((with_reducible refine need_i ?_ ?_)<;>first|omega|conv=>whnf)|((first|refine DrawX_s tabOk folOk ?_|refine DrawS_i (by kernel_rfl) ?_|with_reducible refine andX_i ?_ ?_)<;>conv=>whnf)|with_reducible exact rfl|((with_reducible first|refine xif_kt (by assumption) ?_|refine xif_kf (by assumption) ?_);conv=>whnf)|((with_reducible refine xif_s ?_ ?_)<;>(intro hb;(try simp (disch:=omega) only [hbS] at hb)<;>conv=>whnf)))
    refine LoopX_addNil 34 4 ?_
    conv => whnf
    unfold ofG
    have hst0 : (s.take 0).foldl (beamG a) [] = [] := rfl
    have hstn : (s.take n).foldl (beamG a) [] = s.foldl (beamG a) [] := by rw [← hl, List.take_length]
    rw [← hstn]
    obtain ⟨st, hst⟩ : ∃ st : Nat → List EntT, ∀ k, (s.take k).foldl (beamG a) [] = st k := ⟨_, fun _ => rfl⟩
    rw [hst]
    simp only [hst] at hfold hokG hst0
    clear hstn hst
    have hgr : ∀ (b : BeamT) (out : List EntT), beamG a out b = (outK allC (a.1 / 64 - kB b) (a.2.1 / 64 - kB b) (2 * kB b + 1).toNat (2 * kB b + 1).toNat).foldl (stepG a b) out := fun _ _ => rfl
    have hCX : -4096 ≤ a.1 / 64 ∧ a.1 / 64 ≤ 4096 := by omega
    have hCY : -4096 ≤ a.2.1 / 64 ∧ a.2.1 / 64 ≤ 4096 := by omega
    generalize a.1 / 64 = CX at *
    generalize a.2.1 / 64 = CY at *
    refine LoopX_inv tabOk (α := Nat × Option Addr × Nat) (fun p => p.1 ≤ n) (fun p => [(1, .v (.slice A n c)), (2, .p 0 0), (6, .p 1 0), (7, .v (.slice p.2.1 (st p.1).length p.2.2)), (8, I p.1)])
      (fun p => [.box 63 [I a.1, I a.2.1, I a.2.2], .box 96 [I a.1, I a.2.1], .row 34 4 p.2.1 (st p.1).length p.2.2 ((st p.1).map encE)]) (fun p => n - p.1) (0, none, 0) [0, 1, 2] (Nat.zero_le _) ?_ ?_
    · dsimp only
      rw [hst0]
      ((refine ⟨?_, ?_, ?_, ?_⟩) <;> (repeat' ((conv => whnf); apply And.intro)) <;> (try (first | exact trivial | decide)))
      all_goals first | rfl | exact fun _ _ h => h | (simp [SV.wf, SV.wfs]; done) | trace_state
    · rintro ⟨k, A1, c1⟩ hk'
      dsimp only at hk' ⊢
      by_cases hlt : k < n
      · have hb := hbm k hlt
        have hsk := hfold k hlt
        rw [hgr] at hsk
        have hok0 := hokG k hk'
        clear hfold hokG hgr hbm hst0
        have kv := rvBeam_x a.2.2 (s.getD k b0).1
        have hvec := beam_vec a.2.2 (s.getD k b0).1
        by_cases hz : (s.getD k b0).2 = -1
        · have hK : kB (s.getD k b0) = (1024 : Int) / 64 + 2 := by
            unfold kB reachB
            rw [if_pos (by omega)]
          have hF : reachB (s.getD k b0) = (1024 : Int) := by
            unfold reachB
            rw [if_pos (by omega)]
          (conv=>whnf);repeat' (first|((with_reducible refine isC ?_);first|((first|with_reducible refine CallX_pure (kv) ?_|with_reducible refine CallX_pure (f1) ?_|with_reducible refine CallX_pure (f2) ?_)<;>first|omega|with_reducible refine isP ?_|conv=>whnf))|((with_reducible refine isV ?_);first|((first|(with_reducible refine nat_idxF ?_);refine ValX_loadFn _ _ (b0) _ tabOk rfl rfl rfl (ArgN.mem hpre (by decide)) ?_ ?_ rfl ?_|refine ValX_loadF _ _ (b0) _ tabOk rfl rfl rfl (ArgN.mem hpre (by decide)) ?_ ?_ rfl ?_)<;>first|omega|(simp;omega)|with_reducible refine isP ?_|conv=>whnf)|((refine ValX_index tabOk rfl (ArgN.mem hpre (by decide)) rfl ?_ ?_ ?_)<;>first|rfl|omega|with_reducible refine isP ?_|conv=>whnf))|((with_reducible refine isW ?_;first|refine xwr_ok (by omega) (by omega) ?_|refine xwr_raw ?_);conv=>whnf)|((with_reducible refine isQ ?_;first|refine xquo_nn (by omega) (by omega) (by omega) ?_|refine xquo_ok (by omega) (by omega) (by omega) ?_|refine xquo_raw (by omega) ?_);conv=>whnf)|((with_reducible refine need_i ?_ ?_)<;>first|omega|conv=>whnf)|((first|refine DrawX_s tabOk folOk ?_|refine DrawS_i (by kernel_rfl) ?_|with_reducible refine andX_i ?_ ?_)<;>conv=>whnf)|with_reducible exact rfl|((with_reducible first|refine xif_kt (by assumption) ?_|refine xif_kf (by assumption) ?_);conv=>whnf)|((with_reducible refine xif_s ?_ ?_)<;>(intro hb;(try simp (disch:=omega) only [hbS] at hb)<;>conv=>whnf)))
          all_goals try (exfalso; omega)
          clear kv f1 f2 kp z1 z2 ks
          rw [hK] at hsk
          have hmB : ∀ cc : CellT, mB a (s.getD k b0) cc = rMeetF (a.1, a.2.1) (beamF a.2.2 (s.getD k b0).1) 0 (1024 : Int) (sqR cc) := fun cc => by
            unfold mB
            rw [hF]
          have heB : ∀ cc : CellT, eB a (s.getD k b0) cc = (!decide ((s.getD k b0).2 = -1) && rMeetF (a.1, a.2.1) (beamF a.2.2 (s.getD k b0).1) (s.getD k b0).2 (s.getD k b0).2 (sqR cc)) := fun _ => rfl
          clear hK hF
          generalize hv : beamF a.2.2 (s.getD k b0).1 = v at *
          generalize hB : s.getD k b0 = b at *
          refine LoopX_inv tabOk (α := Nat × Option Addr × Nat) (fun q => (q.1 : Int) ≤ 2 * ((1024 : Int) / 64 + 2) + 1) (fun q => [(1, .v (.slice A n c)), (2, .p 0 0), (6, .p 1 0), (7, .v (.slice q.2.1 ((outK allC (CX - ((1024 : Int) / 64 + 2)) (CY - ((1024 : Int) / 64 + 2)) (2 * ((1024 : Int) / 64 + 2) + 1).toNat q.1).foldl (stepG a b) (st k)).length q.2.2)), (8, I k), (9, .p 3 0), (10, I b.2), (11, I (1024 : Int)), (12, I CX), (13, I CY), (14, I ((1024 : Int) / 64 + 2)), (15, I (CY - ((1024 : Int) / 64 + 2) + (q.1 : Int)))])
            (fun q => [.box 63 [I a.1, I a.2.1, I a.2.2], .box 96 [I a.1, I a.2.1], .row 34 4 q.2.1 ((outK allC (CX - ((1024 : Int) / 64 + 2)) (CY - ((1024 : Int) / 64 + 2)) (2 * ((1024 : Int) / 64 + 2) + 1).toNat q.1).foldl (stepG a b) (st k)).length q.2.2 (((outK allC (CX - ((1024 : Int) / 64 + 2)) (CY - ((1024 : Int) / 64 + 2)) (2 * ((1024 : Int) / 64 + 2) + 1).toNat q.1).foldl (stepG a b) (st k)).map encE), .box 100 [I v.1, I v.2.1, I v.2.2]]) (fun q => (2 * ((1024 : Int) / 64 + 2) + 1 - (q.1 : Int)).toNat) (0, A1, c1) [0, 1, 2, 3] (by (try dsimp only); omega) ?_ ?_
          · dsimp only
            rw [show outK allC (CX - ((1024 : Int) / 64 + 2)) (CY - ((1024 : Int) / 64 + 2)) (2 * ((1024 : Int) / 64 + 2) + 1).toNat 0 = [] from rfl, List.foldl_nil]
            ((refine ⟨?_, ?_, ?_, ?_⟩) <;> (repeat' ((conv => whnf); apply And.intro)) <;> (try (first | exact trivial | decide)))
            all_goals first | rfl | exact fun _ _ h => h | exact I_eq (by simp) | (simp [SV.wf, SV.wfs]; done) | trace_state
          · rintro ⟨j, A2, c2⟩ hj
            dsimp only at hj ⊢
            have hout := outK_len allC (CX - ((1024 : Int) / 64 + 2)) (CY - ((1024 : Int) / 64 + 2)) (2 * ((1024 : Int) / 64 + 2) + 1).toNat (by omega) j
            by_cases hy : CY - ((1024 : Int) / 64 + 2) + (j : Int) ≤ CY + ((1024 : Int) / 64 + 2)
            · (conv=>whnf);repeat' (first|((with_reducible refine isW ?_;first|refine xwr_ok (by omega) (by omega) ?_|refine xwr_raw ?_);conv=>whnf)|((with_reducible refine isQ ?_;first|refine xquo_nn (by omega) (by omega) (by omega) ?_|refine xquo_ok (by omega) (by omega) (by omega) ?_|refine xquo_raw (by omega) ?_);conv=>whnf)|((with_reducible refine need_i ?_ ?_)<;>first|omega|conv=>whnf)|((first|refine DrawX_s tabOk folOk ?_|refine DrawS_i (by kernel_rfl) ?_|with_reducible refine andX_i ?_ ?_)<;>conv=>whnf)|with_reducible exact rfl|((with_reducible first|refine xif_kt (by assumption) ?_|refine xif_kf (by assumption) ?_);conv=>whnf)|((with_reducible refine xif_s ?_ ?_)<;>(intro hb;(try simp (disch:=omega) only [hbS] at hb)<;>conv=>whnf)))
              all_goals try (exfalso; omega)
              have hsO := outK_succ allC (CX - ((1024 : Int) / 64 + 2)) (CY - ((1024 : Int) / 64 + 2)) (2 * ((1024 : Int) / 64 + 2) + 1).toNat j
              generalize outK allC (CX - ((1024 : Int) / 64 + 2)) (CY - ((1024 : Int) / 64 + 2)) (2 * ((1024 : Int) / 64 + 2) + 1).toNat j = O at *
              refine LoopX_inv tabOk (α := Nat × Option Addr × Nat) (fun q => (q.1 : Int) ≤ 2 * ((1024 : Int) / 64 + 2) + 1) (fun q => [(1, .v (.slice A n c)), (2, .p 0 0), (6, .p 1 0), (7, .v (.slice q.2.1 ((O ++ rowK allC (CX - ((1024 : Int) / 64 + 2)) (CY - ((1024 : Int) / 64 + 2) + (j : Int)) q.1).foldl (stepG a b) (st k)).length q.2.2)), (8, I k), (9, .p 3 0), (10, I b.2), (11, I (1024 : Int)), (12, I CX), (13, I CY), (14, I ((1024 : Int) / 64 + 2)), (15, I (CY - ((1024 : Int) / 64 + 2) + (j : Int))), (16, I (CX - ((1024 : Int) / 64 + 2) + (q.1 : Int)))])
                (fun q => [.box 63 [I a.1, I a.2.1, I a.2.2], .box 96 [I a.1, I a.2.1], .row 34 4 q.2.1 ((O ++ rowK allC (CX - ((1024 : Int) / 64 + 2)) (CY - ((1024 : Int) / 64 + 2) + (j : Int)) q.1).foldl (stepG a b) (st k)).length q.2.2 (((O ++ rowK allC (CX - ((1024 : Int) / 64 + 2)) (CY - ((1024 : Int) / 64 + 2) + (j : Int)) q.1).foldl (stepG a b) (st k)).map encE), .box 100 [I v.1, I v.2.1, I v.2.2]]) (fun q => (2 * ((1024 : Int) / 64 + 2) + 1 - (q.1 : Int)).toNat) (0, A2, c2) [0, 1, 2, 3] (by (try dsimp only); omega) ?_ ?_
              · dsimp only
                rw [show rowK allC (CX - ((1024 : Int) / 64 + 2)) (CY - ((1024 : Int) / 64 + 2) + (j : Int)) 0 = [] from rfl, List.append_nil]
                ((refine ⟨?_, ?_, ?_, ?_⟩) <;> (repeat' ((conv => whnf); apply And.intro)) <;> (try (first | exact trivial | decide)))
                all_goals first | rfl | exact fun _ _ h => h | exact I_eq (by simp) | (simp [SV.wf, SV.wfs]; done) | trace_state
              · rintro ⟨i, A3, c3⟩ hi
                dsimp only at hi ⊢
                have hrow := rowK_len allC (CX - ((1024 : Int) / 64 + 2)) (CY - ((1024 : Int) / 64 + 2) + (j : Int)) i
                have hsucc : (O ++ rowK allC (CX - ((1024 : Int) / 64 + 2)) (CY - ((1024 : Int) / 64 + 2) + (j : Int)) (i + 1)).foldl (stepG a b) (st k) = stepG a b ((O ++ rowK allC (CX - ((1024 : Int) / 64 + 2)) (CY - ((1024 : Int) / 64 + 2) + (j : Int)) i).foldl (stepG a b) (st k)) (CX - ((1024 : Int) / 64 + 2) + (i : Int), CY - ((1024 : Int) / 64 + 2) + (j : Int)) := by
                  rw [rowG_succ, ← List.append_assoc, List.foldl_append]
                  rfl
                have hokL := foldG_ok (a := a) (b := b) (O ++ rowK allC (CX - ((1024 : Int) / 64 + 2)) (CY - ((1024 : Int) / 64 + 2) + (j : Int)) i) hok0
                rw [List.length_append] at hokL
                replace hokL := hokL.le (show k * 10000 + (O.length + (rowK allC (CX - ((1024 : Int) / 64 + 2)) (CY - ((1024 : Int) / 64 + 2) + (j : Int)) i).length) ≤ 1000000 by omega)
                by_cases hx : CX - ((1024 : Int) / 64 + 2) + (i : Int) ≤ CX + ((1024 : Int) / 64 + 2)
                · generalize (O ++ rowK allC (CX - ((1024 : Int) / 64 + 2)) (CY - ((1024 : Int) / 64 + 2) + (j : Int)) i).foldl (stepG a b) (st k) = L at *
                  have hsq := bSquare_x (CX - ((1024 : Int) / 64 + 2) + (i : Int), CY - ((1024 : Int) / 64 + 2) + (j : Int)) (by dsimp only; omega)
                  have hargs : argsB (a.1, a.2.1) v (sqR (CX - ((1024 : Int) / 64 + 2) + (i : Int), CY - ((1024 : Int) / 64 + 2) + (j : Int))) = true := by
                    have g1 : ptL (a.1, a.2.1) = true := by
                      unfold ptL
                      rw [Bool.and_eq_true, nearL_iff, nearL_iff]
                      dsimp only
                      omega
                    have g2 : rectL (sqR (CX - ((1024 : Int) / 64 + 2) + (i : Int), CY - ((1024 : Int) / 64 + 2) + (j : Int))) = true := by
                      unfold rectL sqR
                      simp only [Bool.and_eq_true, nearL_iff, decide_eq_true_eq]
                      omega
                    unfold argsB
                    rw [hvec, g1, g2]
                    rfl
                  have km := rMeets_x 0 (1024 : Int) hargs (by omega)
                  rw [← hmB] at km
                  obtain ⟨hln, hall⟩ := hokL
                  have hbo : ∀ i, i < L.length → (-2000000000000000000 ≤ (L.getD i e0).2.2.1 ∧ (L.getD i e0).2.2.1 ≤ 2000000000000000000) ∧ (-2000000000000000000 ≤ (L.getD i e0).2.2.2 ∧ (L.getD i e0).2.2.2 ≤ 2000000000000000000) := fun i hi => by
                    have := hall (L.getD i e0) (by simp [hi])
                    omega
                  have hse := stepG_cases a b L (CX - ((1024 : Int) / 64 + 2) + (i : Int), CY - ((1024 : Int) / 64 + 2) + (j : Int))
                  rw [← hsucc] at hse
                  clear hmB hargs hall
                  dsimp only [sqR] at hsq km
                  cases hm : mB a b (CX - ((1024 : Int) / 64 + 2) + (i : Int), CY - ((1024 : Int) / 64 + 2) + (j : Int)) with
                  | false =>
                    rw [hm] at km
                    have hs1 := hse.1 hm
                    (conv=>whnf);repeat' (first|((with_reducible refine isC ?_);first|((first|with_reducible refine CallX_pure (hsq) ?_|with_reducible refine CallX_pure (km) ?_)<;>first|omega|with_reducible refine isP ?_|conv=>whnf))|((with_reducible refine isW ?_;first|refine xwr_ok (by omega) (by omega) ?_|refine xwr_raw ?_);conv=>whnf)|((with_reducible refine isQ ?_;first|refine xquo_nn (by omega) (by omega) (by omega) ?_|refine xquo_ok (by omega) (by omega) (by omega) ?_|refine xquo_raw (by omega) ?_);conv=>whnf)|((with_reducible refine need_i ?_ ?_)<;>first|omega|conv=>whnf)|((first|refine DrawX_s tabOk folOk ?_|refine DrawS_i (by kernel_rfl) ?_|with_reducible refine andX_i ?_ ?_)<;>conv=>whnf)|with_reducible exact rfl|((with_reducible first|refine xif_kt (by assumption) ?_|refine xif_kf (by assumption) ?_);conv=>whnf)|((with_reducible refine xif_s ?_ ?_)<;>(intro hb;(try simp (disch:=omega) only [hbS] at hb)<;>conv=>whnf)))
                    all_goals try (exfalso; omega)
                    refine ⟨(i + 1, A3, c3), [0, 1, 2, 3], by (try dsimp only); omega, ?_, by (try dsimp only); omega⟩
                    dsimp only
                    rw [hs1]
                    ((refine ⟨?_, ?_, ?_, ?_⟩) <;> (repeat' ((conv => whnf); apply And.intro)) <;> (try (first | exact trivial | decide)))
                    all_goals first | rfl | exact fun _ _ h => h | exact I_eq (by simp; omega) | (simp [SV.wf, SV.wfs]; done) | trace_state
                  | true =>
                    rw [hm] at km
                    have kp0 := put_m A3 c3 L (CX - ((1024 : Int) / 64 + 2) + (i : Int), CY - ((1024 : Int) / 64 + 2) + (j : Int), 0, 1) rfl (by omega) hbo (by dsimp only; omega)
                    have kp1 := put_m A3 c3 L (CX - ((1024 : Int) / 64 + 2) + (i : Int), CY - ((1024 : Int) / 64 + 2) + (j : Int), 1, 0) rfl (by omega) hbo (by dsimp only; omega)
                    dsimp only at kp0 kp1
                    have he : eB a b (CX - ((1024 : Int) / 64 + 2) + (i : Int), CY - ((1024 : Int) / 64 + 2) + (j : Int)) = false := by rw [heB, hz]; rfl
                    have hs1 := hse.2.2 hm he
                    (conv=>whnf);repeat' (first|((with_reducible refine isC ?_);first|((first|with_reducible refine CallX_pure (hsq) ?_|with_reducible refine CallX_pure (km) ?_)<;>first|omega|with_reducible refine isP ?_|conv=>whnf)|(((with_reducible refine isF 70 ?_;refine CallX_m (kp0) [] ?_ ?_ ?_ ?_ ?_);(focus exact rfl);(focus exact trivial);(focus decide);(focus exact fun σ fp w hm => ArgN.row 2 rfl (m := 0) (fun j hj => by omega) σ fp w hm);intro q;obtain ⟨A_9, c_9⟩ := q;dsimp only);conv=>whnf))|((with_reducible refine isW ?_;first|refine xwr_ok (by omega) (by omega) ?_|refine xwr_raw ?_);conv=>whnf)|((with_reducible refine isQ ?_;first|refine xquo_nn (by omega) (by omega) (by omega) ?_|refine xquo_ok (by omega) (by omega) (by omega) ?_|refine xquo_raw (by omega) ?_);conv=>whnf)|((with_reducible refine need_i ?_ ?_)<;>first|omega|conv=>whnf)|((first|refine DrawX_s tabOk folOk ?_|refine DrawS_i (by kernel_rfl) ?_|with_reducible refine andX_i ?_ ?_)<;>conv=>whnf)|with_reducible exact rfl|((with_reducible first|refine xif_kt (by assumption) ?_|refine xif_kf (by assumption) ?_);conv=>whnf)|((with_reducible refine xif_s ?_ ?_)<;>(intro hb;(try simp (disch:=omega) only [hbS] at hb)<;>conv=>whnf)))
                    all_goals try (exfalso; omega)
                    refine ⟨(i + 1, A_9, c_9), [0, 1, 6, 3], by (try dsimp only); omega, ?_, by (try dsimp only); omega⟩
                    dsimp only
                    rw [hs1]
                    ((refine ⟨?_, ?_, ?_, ?_⟩) <;> (repeat' ((conv => whnf); apply And.intro)) <;> (try (first | exact trivial | decide)))
                    all_goals first | rfl | exact fun _ _ h => h | exact I_eq (by simp; omega) | (simp [SV.wf, SV.wfs]; done) | trace_state
                · have hw : (2 * ((1024 : Int) / 64 + 2) + 1).toNat = i := by omega
                  (conv=>whnf);repeat' (first|((with_reducible refine isW ?_;first|refine xwr_ok (by omega) (by omega) ?_|refine xwr_raw ?_);conv=>whnf)|((with_reducible refine isQ ?_;first|refine xquo_nn (by omega) (by omega) (by omega) ?_|refine xquo_ok (by omega) (by omega) (by omega) ?_|refine xquo_raw (by omega) ?_);conv=>whnf)|((with_reducible refine need_i ?_ ?_)<;>first|omega|conv=>whnf)|((first|refine DrawX_s tabOk folOk ?_|refine DrawS_i (by kernel_rfl) ?_|with_reducible refine andX_i ?_ ?_)<;>conv=>whnf)|with_reducible exact rfl|((with_reducible first|refine xif_kt (by assumption) ?_|refine xif_kf (by assumption) ?_);conv=>whnf)|((with_reducible refine xif_s ?_ ?_)<;>(intro hb;(try simp (disch:=omega) only [hbS] at hb)<;>conv=>whnf)))
                  all_goals try (exfalso; omega)
                  refine ⟨(j + 1, A3, c3), [0, 1, 2, 3], by (try dsimp only); omega, ?_, by (try dsimp only); omega⟩
                  dsimp only
                  rw [hw] at hsO ⊢
                  rw [hsO]
                  ((refine ⟨?_, ?_, ?_, ?_⟩) <;> (repeat' ((conv => whnf); apply And.intro)) <;> (try (first | exact trivial | decide)))
                  all_goals first | rfl | exact fun _ _ h => h | exact I_eq (by simp; omega) | (simp [SV.wf, SV.wfs]; done) | trace_state
            · have hw : (2 * ((1024 : Int) / 64 + 2) + 1).toNat = j := by omega
              rw [hw] at hsk ⊢
              (conv=>whnf);repeat' (first|((with_reducible refine isW ?_;first|refine xwr_ok (by omega) (by omega) ?_|refine xwr_raw ?_);conv=>whnf)|((with_reducible refine isQ ?_;first|refine xquo_nn (by omega) (by omega) (by omega) ?_|refine xquo_ok (by omega) (by omega) (by omega) ?_|refine xquo_raw (by omega) ?_);conv=>whnf)|((with_reducible refine need_i ?_ ?_)<;>first|omega|conv=>whnf)|((first|refine DrawX_s tabOk folOk ?_|refine DrawS_i (by kernel_rfl) ?_|with_reducible refine andX_i ?_ ?_)<;>conv=>whnf)|with_reducible exact rfl|((with_reducible first|refine xif_kt (by assumption) ?_|refine xif_kf (by assumption) ?_);conv=>whnf)|((with_reducible refine xif_s ?_ ?_)<;>(intro hb;(try simp (disch:=omega) only [hbS] at hb)<;>conv=>whnf)))
              all_goals try (exfalso; omega)
              refine ⟨(k + 1, A2, c2), [0, 1, 2], by (try dsimp only); omega, ?_, by (try dsimp only); omega⟩
              dsimp only
              rw [hsk]
              ((refine ⟨?_, ?_, ?_, ?_⟩) <;> (repeat' ((conv => whnf); apply And.intro)) <;> (try (first | exact trivial | decide)))
              all_goals first | rfl | exact fun _ _ h => h | exact I_eq (by simp; omega) | (simp [SV.wf, SV.wfs]; done) | trace_state
        · have hK : kB (s.getD k b0) = (s.getD k b0).2 / 64 + 2 := by
            unfold kB reachB
            rw [if_neg (by omega)]
          have hF : reachB (s.getD k b0) = (s.getD k b0).2 := by
            unfold reachB
            rw [if_neg (by omega)]
          (conv=>whnf);repeat' (first|((with_reducible refine isC ?_);first|((first|with_reducible refine CallX_pure (kv) ?_|with_reducible refine CallX_pure (f1) ?_|with_reducible refine CallX_pure (f2) ?_)<;>first|omega|with_reducible refine isP ?_|conv=>whnf))|((with_reducible refine isV ?_);first|((first|(with_reducible refine nat_idxF ?_);refine ValX_loadFn _ _ (b0) _ tabOk rfl rfl rfl (ArgN.mem hpre (by decide)) ?_ ?_ rfl ?_|refine ValX_loadF _ _ (b0) _ tabOk rfl rfl rfl (ArgN.mem hpre (by decide)) ?_ ?_ rfl ?_)<;>first|omega|(simp;omega)|with_reducible refine isP ?_|conv=>whnf)|((refine ValX_index tabOk rfl (ArgN.mem hpre (by decide)) rfl ?_ ?_ ?_)<;>first|rfl|omega|with_reducible refine isP ?_|conv=>whnf))|((with_reducible refine isW ?_;first|refine xwr_ok (by omega) (by omega) ?_|refine xwr_raw ?_);conv=>whnf)|((with_reducible refine isQ ?_;first|refine xquo_nn (by omega) (by omega) (by omega) ?_|refine xquo_ok (by omega) (by omega) (by omega) ?_|refine xquo_raw (by omega) ?_);conv=>whnf)|((with_reducible refine need_i ?_ ?_)<;>first|omega|conv=>whnf)|((first|refine DrawX_s tabOk folOk ?_|refine DrawS_i (by kernel_rfl) ?_|with_reducible refine andX_i ?_ ?_)<;>conv=>whnf)|with_reducible exact rfl|((with_reducible first|refine xif_kt (by assumption) ?_|refine xif_kf (by assumption) ?_);conv=>whnf)|((with_reducible refine xif_s ?_ ?_)<;>(intro hb;(try simp (disch:=omega) only [hbS] at hb)<;>conv=>whnf)))
          all_goals try (exfalso; omega)
          clear kv f1 f2 kp z1 z2 ks
          rw [hK] at hsk
          have hmB : ∀ cc : CellT, mB a (s.getD k b0) cc = rMeetF (a.1, a.2.1) (beamF a.2.2 (s.getD k b0).1) 0 (s.getD k b0).2 (sqR cc) := fun cc => by
            unfold mB
            rw [hF]
          have heB : ∀ cc : CellT, eB a (s.getD k b0) cc = (!decide ((s.getD k b0).2 = -1) && rMeetF (a.1, a.2.1) (beamF a.2.2 (s.getD k b0).1) (s.getD k b0).2 (s.getD k b0).2 (sqR cc)) := fun _ => rfl
          clear hK hF
          generalize hv : beamF a.2.2 (s.getD k b0).1 = v at *
          generalize hB : s.getD k b0 = b at *
          refine LoopX_inv tabOk (α := Nat × Option Addr × Nat) (fun q => (q.1 : Int) ≤ 2 * (b.2 / 64 + 2) + 1) (fun q => [(1, .v (.slice A n c)), (2, .p 0 0), (6, .p 1 0), (7, .v (.slice q.2.1 ((outK allC (CX - (b.2 / 64 + 2)) (CY - (b.2 / 64 + 2)) (2 * (b.2 / 64 + 2) + 1).toNat q.1).foldl (stepG a b) (st k)).length q.2.2)), (8, I k), (9, .p 3 0), (10, I b.2), (11, I b.2), (12, I CX), (13, I CY), (14, I (b.2 / 64 + 2)), (15, I (CY - (b.2 / 64 + 2) + (q.1 : Int)))])
            (fun q => [.box 63 [I a.1, I a.2.1, I a.2.2], .box 96 [I a.1, I a.2.1], .row 34 4 q.2.1 ((outK allC (CX - (b.2 / 64 + 2)) (CY - (b.2 / 64 + 2)) (2 * (b.2 / 64 + 2) + 1).toNat q.1).foldl (stepG a b) (st k)).length q.2.2 (((outK allC (CX - (b.2 / 64 + 2)) (CY - (b.2 / 64 + 2)) (2 * (b.2 / 64 + 2) + 1).toNat q.1).foldl (stepG a b) (st k)).map encE), .box 100 [I v.1, I v.2.1, I v.2.2]]) (fun q => (2 * (b.2 / 64 + 2) + 1 - (q.1 : Int)).toNat) (0, A1, c1) [0, 1, 2, 3] (by (try dsimp only); omega) ?_ ?_
          · dsimp only
            rw [show outK allC (CX - (b.2 / 64 + 2)) (CY - (b.2 / 64 + 2)) (2 * (b.2 / 64 + 2) + 1).toNat 0 = [] from rfl, List.foldl_nil]
            ((refine ⟨?_, ?_, ?_, ?_⟩) <;> (repeat' ((conv => whnf); apply And.intro)) <;> (try (first | exact trivial | decide)))
            all_goals first | rfl | exact fun _ _ h => h | exact I_eq (by simp) | (simp [SV.wf, SV.wfs]; done) | trace_state
          · rintro ⟨j, A2, c2⟩ hj
            dsimp only at hj ⊢
            have hout := outK_len allC (CX - (b.2 / 64 + 2)) (CY - (b.2 / 64 + 2)) (2 * (b.2 / 64 + 2) + 1).toNat (by omega) j
            by_cases hy : CY - (b.2 / 64 + 2) + (j : Int) ≤ CY + (b.2 / 64 + 2)
            · (conv=>whnf);repeat' (first|((with_reducible refine isW ?_;first|refine xwr_ok (by omega) (by omega) ?_|refine xwr_raw ?_);conv=>whnf)|((with_reducible refine isQ ?_;first|refine xquo_nn (by omega) (by omega) (by omega) ?_|refine xquo_ok (by omega) (by omega) (by omega) ?_|refine xquo_raw (by omega) ?_);conv=>whnf)|((with_reducible refine need_i ?_ ?_)<;>first|omega|conv=>whnf)|((first|refine DrawX_s tabOk folOk ?_|refine DrawS_i (by kernel_rfl) ?_|with_reducible refine andX_i ?_ ?_)<;>conv=>whnf)|with_reducible exact rfl|((with_reducible first|refine xif_kt (by assumption) ?_|refine xif_kf (by assumption) ?_);conv=>whnf)|((with_reducible refine xif_s ?_ ?_)<;>(intro hb;(try simp (disch:=omega) only [hbS] at hb)<;>conv=>whnf)))
              all_goals try (exfalso; omega)
              have hsO := outK_succ allC (CX - (b.2 / 64 + 2)) (CY - (b.2 / 64 + 2)) (2 * (b.2 / 64 + 2) + 1).toNat j
              generalize outK allC (CX - (b.2 / 64 + 2)) (CY - (b.2 / 64 + 2)) (2 * (b.2 / 64 + 2) + 1).toNat j = O at *
              refine LoopX_inv tabOk (α := Nat × Option Addr × Nat) (fun q => (q.1 : Int) ≤ 2 * (b.2 / 64 + 2) + 1) (fun q => [(1, .v (.slice A n c)), (2, .p 0 0), (6, .p 1 0), (7, .v (.slice q.2.1 ((O ++ rowK allC (CX - (b.2 / 64 + 2)) (CY - (b.2 / 64 + 2) + (j : Int)) q.1).foldl (stepG a b) (st k)).length q.2.2)), (8, I k), (9, .p 3 0), (10, I b.2), (11, I b.2), (12, I CX), (13, I CY), (14, I (b.2 / 64 + 2)), (15, I (CY - (b.2 / 64 + 2) + (j : Int))), (16, I (CX - (b.2 / 64 + 2) + (q.1 : Int)))])
                (fun q => [.box 63 [I a.1, I a.2.1, I a.2.2], .box 96 [I a.1, I a.2.1], .row 34 4 q.2.1 ((O ++ rowK allC (CX - (b.2 / 64 + 2)) (CY - (b.2 / 64 + 2) + (j : Int)) q.1).foldl (stepG a b) (st k)).length q.2.2 (((O ++ rowK allC (CX - (b.2 / 64 + 2)) (CY - (b.2 / 64 + 2) + (j : Int)) q.1).foldl (stepG a b) (st k)).map encE), .box 100 [I v.1, I v.2.1, I v.2.2]]) (fun q => (2 * (b.2 / 64 + 2) + 1 - (q.1 : Int)).toNat) (0, A2, c2) [0, 1, 2, 3] (by (try dsimp only); omega) ?_ ?_
              · dsimp only
                rw [show rowK allC (CX - (b.2 / 64 + 2)) (CY - (b.2 / 64 + 2) + (j : Int)) 0 = [] from rfl, List.append_nil]
                ((refine ⟨?_, ?_, ?_, ?_⟩) <;> (repeat' ((conv => whnf); apply And.intro)) <;> (try (first | exact trivial | decide)))
                all_goals first | rfl | exact fun _ _ h => h | exact I_eq (by simp) | (simp [SV.wf, SV.wfs]; done) | trace_state
              · rintro ⟨i, A3, c3⟩ hi
                dsimp only at hi ⊢
                have hrow := rowK_len allC (CX - (b.2 / 64 + 2)) (CY - (b.2 / 64 + 2) + (j : Int)) i
                have hsucc : (O ++ rowK allC (CX - (b.2 / 64 + 2)) (CY - (b.2 / 64 + 2) + (j : Int)) (i + 1)).foldl (stepG a b) (st k) = stepG a b ((O ++ rowK allC (CX - (b.2 / 64 + 2)) (CY - (b.2 / 64 + 2) + (j : Int)) i).foldl (stepG a b) (st k)) (CX - (b.2 / 64 + 2) + (i : Int), CY - (b.2 / 64 + 2) + (j : Int)) := by
                  rw [rowG_succ, ← List.append_assoc, List.foldl_append]
                  rfl
                have hokL := foldG_ok (a := a) (b := b) (O ++ rowK allC (CX - (b.2 / 64 + 2)) (CY - (b.2 / 64 + 2) + (j : Int)) i) hok0
                rw [List.length_append] at hokL
                replace hokL := hokL.le (show k * 10000 + (O.length + (rowK allC (CX - (b.2 / 64 + 2)) (CY - (b.2 / 64 + 2) + (j : Int)) i).length) ≤ 1000000 by omega)
                by_cases hx : CX - (b.2 / 64 + 2) + (i : Int) ≤ CX + (b.2 / 64 + 2)
                · generalize (O ++ rowK allC (CX - (b.2 / 64 + 2)) (CY - (b.2 / 64 + 2) + (j : Int)) i).foldl (stepG a b) (st k) = L at *
                  have hsq := bSquare_x (CX - (b.2 / 64 + 2) + (i : Int), CY - (b.2 / 64 + 2) + (j : Int)) (by dsimp only; omega)
                  have hargs : argsB (a.1, a.2.1) v (sqR (CX - (b.2 / 64 + 2) + (i : Int), CY - (b.2 / 64 + 2) + (j : Int))) = true := by
                    have g1 : ptL (a.1, a.2.1) = true := by
                      unfold ptL
                      rw [Bool.and_eq_true, nearL_iff, nearL_iff]
                      dsimp only
                      omega
                    have g2 : rectL (sqR (CX - (b.2 / 64 + 2) + (i : Int), CY - (b.2 / 64 + 2) + (j : Int))) = true := by
                      unfold rectL sqR
                      simp only [Bool.and_eq_true, nearL_iff, decide_eq_true_eq]
                      omega
                    unfold argsB
                    rw [hvec, g1, g2]
                    rfl
                  have km := rMeets_x 0 b.2 hargs (by omega)
                  rw [← hmB] at km
                  have ke := rMeets_x b.2 b.2 hargs (by omega)
                  obtain ⟨hln, hall⟩ := hokL
                  have hbo : ∀ i, i < L.length → (-2000000000000000000 ≤ (L.getD i e0).2.2.1 ∧ (L.getD i e0).2.2.1 ≤ 2000000000000000000) ∧ (-2000000000000000000 ≤ (L.getD i e0).2.2.2 ∧ (L.getD i e0).2.2.2 ≤ 2000000000000000000) := fun i hi => by
                    have := hall (L.getD i e0) (by simp [hi])
                    omega
                  have hse := stepG_cases a b L (CX - (b.2 / 64 + 2) + (i : Int), CY - (b.2 / 64 + 2) + (j : Int))
                  rw [← hsucc] at hse
                  clear hmB hargs hall
                  dsimp only [sqR] at hsq km ke
                  cases hm : mB a b (CX - (b.2 / 64 + 2) + (i : Int), CY - (b.2 / 64 + 2) + (j : Int)) with
                  | false =>
                    rw [hm] at km
                    have hs1 := hse.1 hm
                    (conv=>whnf);repeat' (first|((with_reducible refine isC ?_);first|((first|with_reducible refine CallX_pure (hsq) ?_|with_reducible refine CallX_pure (km) ?_)<;>first|omega|with_reducible refine isP ?_|conv=>whnf))|((with_reducible refine isW ?_;first|refine xwr_ok (by omega) (by omega) ?_|refine xwr_raw ?_);conv=>whnf)|((with_reducible refine isQ ?_;first|refine xquo_nn (by omega) (by omega) (by omega) ?_|refine xquo_ok (by omega) (by omega) (by omega) ?_|refine xquo_raw (by omega) ?_);conv=>whnf)|((with_reducible refine need_i ?_ ?_)<;>first|omega|conv=>whnf)|((first|refine DrawX_s tabOk folOk ?_|refine DrawS_i (by kernel_rfl) ?_|with_reducible refine andX_i ?_ ?_)<;>conv=>whnf)|with_reducible exact rfl|((with_reducible first|refine xif_kt (by assumption) ?_|refine xif_kf (by assumption) ?_);conv=>whnf)|((with_reducible refine xif_s ?_ ?_)<;>(intro hb;(try simp (disch:=omega) only [hbS] at hb)<;>conv=>whnf)))
                    all_goals try (exfalso; omega)
                    refine ⟨(i + 1, A3, c3), [0, 1, 2, 3], by (try dsimp only); omega, ?_, by (try dsimp only); omega⟩
                    dsimp only
                    rw [hs1]
                    ((refine ⟨?_, ?_, ?_, ?_⟩) <;> (repeat' ((conv => whnf); apply And.intro)) <;> (try (first | exact trivial | decide)))
                    all_goals first | rfl | exact fun _ _ h => h | exact I_eq (by simp; omega) | (simp [SV.wf, SV.wfs]; done) | trace_state
                  | true =>
                    rw [hm] at km
                    have kp0 := put_m A3 c3 L (CX - (b.2 / 64 + 2) + (i : Int), CY - (b.2 / 64 + 2) + (j : Int), 0, 1) rfl (by omega) hbo (by dsimp only; omega)
                    have kp1 := put_m A3 c3 L (CX - (b.2 / 64 + 2) + (i : Int), CY - (b.2 / 64 + 2) + (j : Int), 1, 0) rfl (by omega) hbo (by dsimp only; omega)
                    dsimp only at kp0 kp1
                    have he := heB (CX - (b.2 / 64 + 2) + (i : Int), CY - (b.2 / 64 + 2) + (j : Int))
                    rw [decide_eq_false hz, Bool.not_false, Bool.true_and] at he
                    unfold sqR at he
                    dsimp only at he
                    rw [← he] at ke
                    clear heB
                    cases hE : eB a b (CX - (b.2 / 64 + 2) + (i : Int), CY - (b.2 / 64 + 2) + (j : Int)) with
                    | false =>
                      rw [hE] at ke
                      have hs1 := hse.2.2 hm hE
                      (conv=>whnf);repeat' (first|((with_reducible refine isC ?_);first|((first|with_reducible refine CallX_pure (hsq) ?_|with_reducible refine CallX_pure (km) ?_|with_reducible refine CallX_pure (ke) ?_)<;>first|omega|with_reducible refine isP ?_|conv=>whnf)|(((with_reducible refine isF 70 ?_;refine CallX_m (kp0) [] ?_ ?_ ?_ ?_ ?_);(focus exact rfl);(focus exact trivial);(focus decide);(focus exact fun σ fp w hm => ArgN.row 2 rfl (m := 0) (fun j hj => by omega) σ fp w hm);intro q;obtain ⟨A_9, c_9⟩ := q;dsimp only);conv=>whnf))|((with_reducible refine isW ?_;first|refine xwr_ok (by omega) (by omega) ?_|refine xwr_raw ?_);conv=>whnf)|((with_reducible refine isQ ?_;first|refine xquo_nn (by omega) (by omega) (by omega) ?_|refine xquo_ok (by omega) (by omega) (by omega) ?_|refine xquo_raw (by omega) ?_);conv=>whnf)|((with_reducible refine need_i ?_ ?_)<;>first|omega|conv=>whnf)|((first|refine DrawX_s tabOk folOk ?_|refine DrawS_i (by kernel_rfl) ?_|with_reducible refine andX_i ?_ ?_)<;>conv=>whnf)|with_reducible exact rfl|((with_reducible first|refine xif_kt (by assumption) ?_|refine xif_kf (by assumption) ?_);conv=>whnf)|((with_reducible refine xif_s ?_ ?_)<;>(intro hb;(try simp (disch:=omega) only [hbS] at hb)<;>conv=>whnf)))
                      all_goals try (exfalso; omega)
                      refine ⟨(i + 1, A_9, c_9), [0, 1, 6, 3], by (try dsimp only); omega, ?_, by (try dsimp only); omega⟩
                      dsimp only
                      rw [hs1]
                      ((refine ⟨?_, ?_, ?_, ?_⟩) <;> (repeat' ((conv => whnf); apply And.intro)) <;> (try (first | exact trivial | decide)))
                      all_goals first | rfl | exact fun _ _ h => h | exact I_eq (by simp; omega) | (simp [SV.wf, SV.wfs]; done) | trace_state
                    | true =>
                      rw [hE] at ke
                      have hs1 := hse.2.1 hm hE
                      (conv=>whnf);repeat' (first|((with_reducible refine isC ?_);first|((first|with_reducible refine CallX_pure (hsq) ?_|with_reducible refine CallX_pure (km) ?_|with_reducible refine CallX_pure (ke) ?_)<;>first|omega|with_reducible refine isP ?_|conv=>whnf)|(((with_reducible refine isF 70 ?_;refine CallX_m (kp1) [] ?_ ?_ ?_ ?_ ?_);(focus exact rfl);(focus exact trivial);(focus decide);(focus exact fun σ fp w hm => ArgN.row 2 rfl (m := 0) (fun j hj => by omega) σ fp w hm);intro q;obtain ⟨A_9, c_9⟩ := q;dsimp only);conv=>whnf))|((with_reducible refine isW ?_;first|refine xwr_ok (by omega) (by omega) ?_|refine xwr_raw ?_);conv=>whnf)|((with_reducible refine isQ ?_;first|refine xquo_nn (by omega) (by omega) (by omega) ?_|refine xquo_ok (by omega) (by omega) (by omega) ?_|refine xquo_raw (by omega) ?_);conv=>whnf)|((with_reducible refine need_i ?_ ?_)<;>first|omega|conv=>whnf)|((first|refine DrawX_s tabOk folOk ?_|refine DrawS_i (by kernel_rfl) ?_|with_reducible refine andX_i ?_ ?_)<;>conv=>whnf)|with_reducible exact rfl|((with_reducible first|refine xif_kt (by assumption) ?_|refine xif_kf (by assumption) ?_);conv=>whnf)|((with_reducible refine xif_s ?_ ?_)<;>(intro hb;(try simp (disch:=omega) only [hbS] at hb)<;>conv=>whnf)))
                      all_goals try (exfalso; omega)
                      refine ⟨(i + 1, A_9, c_9), [0, 1, 6, 3], by (try dsimp only); omega, ?_, by (try dsimp only); omega⟩
                      dsimp only
                      rw [hs1]
                      ((refine ⟨?_, ?_, ?_, ?_⟩) <;> (repeat' ((conv => whnf); apply And.intro)) <;> (try (first | exact trivial | decide)))
                      all_goals first | rfl | exact fun _ _ h => h | exact I_eq (by simp; omega) | (simp [SV.wf, SV.wfs]; done) | trace_state
                · have hw : (2 * (b.2 / 64 + 2) + 1).toNat = i := by omega
                  (conv=>whnf);repeat' (first|((with_reducible refine isW ?_;first|refine xwr_ok (by omega) (by omega) ?_|refine xwr_raw ?_);conv=>whnf)|((with_reducible refine isQ ?_;first|refine xquo_nn (by omega) (by omega) (by omega) ?_|refine xquo_ok (by omega) (by omega) (by omega) ?_|refine xquo_raw (by omega) ?_);conv=>whnf)|((with_reducible refine need_i ?_ ?_)<;>first|omega|conv=>whnf)|((first|refine DrawX_s tabOk folOk ?_|refine DrawS_i (by kernel_rfl) ?_|with_reducible refine andX_i ?_ ?_)<;>conv=>whnf)|with_reducible exact rfl|((with_reducible first|refine xif_kt (by assumption) ?_|refine xif_kf (by assumption) ?_);conv=>whnf)|((with_reducible refine xif_s ?_ ?_)<;>(intro hb;(try simp (disch:=omega) only [hbS] at hb)<;>conv=>whnf)))
                  all_goals try (exfalso; omega)
                  refine ⟨(j + 1, A3, c3), [0, 1, 2, 3], by (try dsimp only); omega, ?_, by (try dsimp only); omega⟩
                  dsimp only
                  rw [hw] at hsO ⊢
                  rw [hsO]
                  ((refine ⟨?_, ?_, ?_, ?_⟩) <;> (repeat' ((conv => whnf); apply And.intro)) <;> (try (first | exact trivial | decide)))
                  all_goals first | rfl | exact fun _ _ h => h | exact I_eq (by simp; omega) | (simp [SV.wf, SV.wfs]; done) | trace_state
            · have hw : (2 * (b.2 / 64 + 2) + 1).toNat = j := by omega
              rw [hw] at hsk ⊢
              (conv=>whnf);repeat' (first|((with_reducible refine isW ?_;first|refine xwr_ok (by omega) (by omega) ?_|refine xwr_raw ?_);conv=>whnf)|((with_reducible refine isQ ?_;first|refine xquo_nn (by omega) (by omega) (by omega) ?_|refine xquo_ok (by omega) (by omega) (by omega) ?_|refine xquo_raw (by omega) ?_);conv=>whnf)|((with_reducible refine need_i ?_ ?_)<;>first|omega|conv=>whnf)|((first|refine DrawX_s tabOk folOk ?_|refine DrawS_i (by kernel_rfl) ?_|with_reducible refine andX_i ?_ ?_)<;>conv=>whnf)|with_reducible exact rfl|((with_reducible first|refine xif_kt (by assumption) ?_|refine xif_kf (by assumption) ?_);conv=>whnf)|((with_reducible refine xif_s ?_ ?_)<;>(intro hb;(try simp (disch:=omega) only [hbS] at hb)<;>conv=>whnf)))
              all_goals try (exfalso; omega)
              refine ⟨(k + 1, A2, c2), [0, 1, 2], by (try dsimp only); omega, ?_, by (try dsimp only); omega⟩
              dsimp only
              rw [hsk]
              ((refine ⟨?_, ?_, ?_, ?_⟩) <;> (repeat' ((conv => whnf); apply And.intro)) <;> (try (first | exact trivial | decide)))
              all_goals first | rfl | exact fun _ _ h => h | exact I_eq (by simp; omega) | (simp [SV.wf, SV.wfs]; done) | trace_state
      · obtain rfl : k = n := by omega
        have hokn := hokG k (Nat.le_refl _)
        (conv=>whnf);repeat' (first|((with_reducible refine isW ?_;first|refine xwr_ok (by omega) (by omega) ?_|refine xwr_raw ?_);conv=>whnf)|((with_reducible refine isQ ?_;first|refine xquo_nn (by omega) (by omega) (by omega) ?_|refine xquo_ok (by omega) (by omega) (by omega) ?_|refine xquo_raw (by omega) ?_);conv=>whnf)|((with_reducible refine need_i ?_ ?_)<;>first|omega|conv=>whnf)|((first|refine DrawX_s tabOk folOk ?_|refine DrawS_i (by kernel_rfl) ?_|with_reducible refine andX_i ?_ ?_)<;>conv=>whnf)|with_reducible exact rfl|((with_reducible first|refine xif_kt (by assumption) ?_|refine xif_kf (by assumption) ?_);conv=>whnf)|((with_reducible refine xif_s ?_ ?_)<;>(intro hb;(try simp (disch:=omega) only [hbS] at hb)<;>conv=>whnf)))
        all_goals try (exfalso; omega)
        exact Fin_m (A1, c1) [2] ⟨rfl, by simp [SV.wf, SV.wfs]⟩ ⟨⟨rfl, rfl, rfl, rfl, rfl, rfl⟩, trivial⟩ (by decide) rfl
end Go.Proofs.YtadichckbogcjaaGreatDoor.En
end
