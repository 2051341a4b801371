import Derived.Test.YtlnplelandimeaaGreatZFleetFrames38
set_option linter.all false
section
namespace Go.Proofs.YtlnplelandimeaaGreat.En
open Go.RowKit
set_option maxRecDepth 100000
theorem framesL_ok (L : List RelT) : ∀ r ∈ framesL L, Go.Proofs.YtlnplelandimeaaGreat.RelOk r := (Go.Proofs.YtlnplelandimeaaGreat.addAll_acc L .nil).ok
set_option maxHeartbeats 8000000 in
theorem rsFrames_m (c : RcT) (D : RdT) (S : SnT) : CallM Tryz.prog 24 [pR c.b] (fun _ _ => True) [rsB c D S, rsQ c, raO c.p D.R allT, rsR D S]
    (fun q : Option Addr × Nat => .a [.v (.slice q.1 (framesS S).length q.2)]) (fun q => [rsB c D S, rsQ c, raO c.p D.R allT, rsR D S, .row 39 5 q.1 (framesS S).length q.2 ((framesS S).map encR)]) := by
  have hl := pairsN_len S 64
  have e1 : pairsN S 64 = pairs S := rfl
  have e2 : framesS S = framesL (pairs S) := rfl
  rw [e1] at hl
  rw [e2]
  clear e1 e2
  unfold rsB rsR
  generalize pairs S = L at *
  have hfl := framesL_len L
  refine CallM.of (m := 4) Tryz.func24 rfl tabOk rfl rfl rfl rfl (by simp [SV.wfs, SV.wf]) fun w M π _ => ?_
  (conv=>whnf);repeat' (first|((with_reducible refine isW ?_;first|refine xwr_ok (by omega) (by omega) ?_|refine xwr_raw ?_);conv=>whnf)|((first|refine DrawX_s tabOk folOk ?_|refine DrawS_i (by kernel_rfl) ?_|with_reducible refine andX_i ?_ ?_)<;>conv=>whnf)|with_reducible exact rfl|((with_reducible first|refine xif_kt (by assumption) ?_|refine xif_kf (by assumption) ?_);conv=>whnf)|((with_reducible refine xif_s ?_ ?_)<;>(intro hb;(try simp (disch:=omega) only [hbS] at hb)<;>conv=>whnf)))
  all_goals try (exfalso; omega)
  refine LoopX_addNil 39 5 ?_
  conv => whnf
  refine LoopX_inv tabOk (α := (t : Nat) × (Option Addr × Nat) × {rs : List RelT // rs = framesL (L.take t)}) (fun s => s.1 ≤ L.length) (fun s => [(0, pR c.b), (2, .p 4 0), (3, .p 5 0), (4, I s.1)])
    (fun s => [rsO c.b S.me c.A 8 c.cA D.P L.length D.d, rsQ c, raO c.p D.R allT, .row 39 5 D.P L.length D.d (L.map encR), .box 59 [.v (.slice none 0 0)], .box 59 [.v (.slice s.2.1.1 s.2.2.1.length s.2.1.2)], .row 39 5 s.2.1.1 s.2.2.1.length s.2.1.2 (s.2.2.1.map encR)]) (fun s => L.length - s.1) ⟨0, (none, 0), [], rfl⟩ [0, 1, 2, 3, 4, 5, 6] (Nat.zero_le _) ?_ ?_
  · ((refine ⟨?_, ?_, ?_, ?_⟩) <;> (repeat' ((conv => whnf); apply And.intro)) <;> (try (first | exact trivial | decide)))
    all_goals first | rfl | exact fun _ _ h => h | (simp [SV.wf, SV.wfs]; done) | trace_state
  · rintro ⟨t, ⟨A, cc⟩, rs, hrs⟩ ht
    dsimp only at ht hrs ⊢
    by_cases hlt : t < L.length
    · have hnx : (Go.Proofs.YtlnplelandimeaaGreat.addF rs (L.getD t r0)).2 = framesL (L.take (t + 1)) := by rw [framesL_succ hlt, hrs]
      have hle : rs.length ≤ 99 := by
        have := hfl t (by omega)
        rw [hrs]
        omega
      have hok : ∀ r ∈ rs, Go.Proofs.YtlnplelandimeaaGreat.RelOk r := by rw [hrs]; exact framesL_ok _
      generalize hx : L.getD t r0 = x at *
      obtain ⟨a, a2, q, xx, yy⟩ := x
      have ka := rAdd_x A cc rs a a2 q xx yy hok (by omega)
      (conv=>whnf);repeat' (first|((with_reducible refine isC ?_);first|(((with_reducible refine isF 65 ?_);(refine CallX_m ka [] rfl trivial (by decide) (ArgN.row 6 rfl (m := 0) (fun j hj => by omega)) ?_; intro z; rcases z with ⟨_ | ⟨A2, c2⟩, hq⟩));conv=>whnf))|((with_reducible refine isV ?_);first|(refine ValX_rsP 0 tabOk rfl rfl rfl rfl ?_; conv => whnf)|((first|refine ValX_index tabOk rfl (ArgSl.row 3 rfl) rfl ?_ ?_ ?_|(with_reducible refine nat_idx ?_);refine ValX_loadEn _ _ (r0) tabOk rfl rfl rfl rfl (ArgSl.row 3 rfl) ?_ ?_ ?_|refine ValX_loadE _ _ (r0) tabOk rfl rfl rfl rfl (ArgSl.row 3 rfl) ?_ ?_ ?_)<;>first|rfl|omega|with_reducible refine isP ?_|conv=>whnf))|((with_reducible refine isW ?_;first|refine xwr_ok (by omega) (by omega) ?_|refine xwr_raw ?_);conv=>whnf)|(rw [hx]; conv => whnf)|((first|refine DrawX_s tabOk folOk ?_|refine DrawS_i (by kernel_rfl) ?_|with_reducible refine andX_i ?_ ?_)<;>conv=>whnf)|with_reducible exact rfl|((with_reducible first|refine xif_kt (by assumption) ?_|refine xif_kf (by assumption) ?_);conv=>whnf)|((with_reducible refine xif_s ?_ ?_)<;>(intro hb;(try simp (disch:=omega) only [hbS] at hb)<;>conv=>whnf)))
      all_goals try (exfalso; omega)
      all_goals try (rw [hx]; done)
      · have hq' : (Go.Proofs.YtlnplelandimeaaGreat.addF rs (a, a2, q, xx, yy)).2 = rs := hq
        refine ⟨⟨t + 1, (A, cc), rs, by rw [← hnx, hq']⟩, [0, 1, 2, 3, 4, 5, 6], by (try dsimp only); omega, ?_, by (try dsimp only); omega⟩
        ((refine ⟨?_, ?_, ?_, ?_⟩) <;> (repeat' ((conv => whnf); apply And.intro)) <;> (try (first | exact trivial | decide)))
        all_goals first | rfl | exact fun _ _ h => h | (simp [SV.wf, SV.wfs]; done) | trace_state
      · (conv=>whnf);repeat' (first|((with_reducible refine isV ?_);first|(refine ValX_rsP 0 tabOk rfl rfl rfl rfl ?_; conv => whnf)|((first|refine ValX_index tabOk rfl (ArgSl.row 3 rfl) rfl ?_ ?_ ?_|(with_reducible refine nat_idx ?_);refine ValX_loadEn _ _ (r0) tabOk rfl rfl rfl rfl (ArgSl.row 3 rfl) ?_ ?_ ?_|refine ValX_loadE _ _ (r0) tabOk rfl rfl rfl rfl (ArgSl.row 3 rfl) ?_ ?_ ?_)<;>first|rfl|omega|with_reducible refine isP ?_|conv=>whnf))|((with_reducible refine isW ?_;first|refine xwr_ok (by omega) (by omega) ?_|refine xwr_raw ?_);conv=>whnf)|(rw [hx]; conv => whnf)|((first|refine DrawX_s tabOk folOk ?_|refine DrawS_i (by kernel_rfl) ?_|with_reducible refine andX_i ?_ ?_)<;>conv=>whnf)|with_reducible exact rfl|((with_reducible first|refine xif_kt (by assumption) ?_|refine xif_kf (by assumption) ?_);conv=>whnf)|((with_reducible refine xif_s ?_ ?_)<;>(intro hb;(try simp (disch:=omega) only [hbS] at hb)<;>conv=>whnf)))
        all_goals try (exfalso; omega)
        all_goals try (rw [hx]; done)
        refine ⟨⟨t + 1, (A2, c2), _, hnx⟩, [0, 1, 2, 3, 4, 5, 7], by (try dsimp only); omega, ?_, by (try dsimp only); omega⟩
        ((refine ⟨?_, ?_, ?_, ?_⟩) <;> (repeat' ((conv => whnf); apply And.intro)) <;> (try (first | exact trivial | decide)))
        all_goals first | rfl | exact fun _ _ h => h | (simp [SV.wf, SV.wfs]; done) | trace_state
    · obtain rfl : t = L.length := by omega
      rw [List.take_length] at hrs
      subst hrs
      (conv=>whnf);repeat' (first|((with_reducible refine isV ?_);first|(refine ValX_rsP 0 tabOk rfl rfl rfl rfl ?_; conv => whnf))|((with_reducible refine isW ?_;first|refine xwr_ok (by omega) (by omega) ?_|refine xwr_raw ?_);conv=>whnf)|((first|refine DrawX_s tabOk folOk ?_|refine DrawS_i (by kernel_rfl) ?_|with_reducible refine andX_i ?_ ?_)<;>conv=>whnf)|with_reducible exact rfl|((with_reducible first|refine xif_kt (by assumption) ?_|refine xif_kf (by assumption) ?_);conv=>whnf)|((with_reducible refine xif_s ?_ ?_)<;>(intro hb;(try simp (disch:=omega) only [hbS] at hb)<;>conv=>whnf)))
      all_goals try (exfalso; omega)
      exact Fin_m (A, cc) [0, 1, 2, 3, 6] ⟨rfl, by simp [SV.wf, SV.wfs]⟩ ⟨fun _ _ h => h, ⟨rfl, rfl, rfl, rfl, rfl, rfl⟩, fun _ _ h => h, ⟨rfl, rfl, rfl, rfl, rfl, rfl⟩, ⟨rfl, rfl, rfl, rfl, rfl, rfl⟩, trivial⟩ (by decide) rfl
end Go.Proofs.YtlnplelandimeaaGreat.En
end
section
namespace Go.Proofs.YtlnplelandimeaaGreat.En
open Go.RowKit
set_option maxRecDepth 100000
theorem bt_len (S : SnT) : (framesS S).length ≤ 100 := Nat.le_trans (framesS_len S) (by omega)
set_option maxHeartbeats 16000000 in
theorem fframes_x (A : Option Addr) (c : Nat) (l : List FOp) (a b : Int) {n : Nat} (hl : l.length = n) (hn : n ≤ maxLen) :
    CallW Tryz.prog 5 [.v (.slice A n c), I a, I b] (fun w => opsF w A n l) (B true) := by
  have kf := few34_w A c l hl hn
  rcases Bool.eq_false_or_eq_true (fewG l) with hf | hf
  rotate_left
  · rw [hf] at kf
    refine CallW.of Tryz.func5 rfl tabOk rfl rfl rfl (by simp [SV.wfs, SV.wf]) (by simp [SV.wfs, SV.wf]) fun w hpre => ?_
    (conv=>whnf);repeat' (first|((with_reducible refine isC ?_);first|((with_reducible refine CallX_pure (awake34_x) ?_)<;>first|omega|with_reducible refine isP ?_|conv=>whnf)|(((with_reducible refine isF 12 ?_;refine CallX_w (kf) ?_ ?_);(focus exact hpre.few rfl));conv=>whnf))|((with_reducible refine isW ?_;first|refine xwr_ok (by omega) (by omega) ?_|refine xwr_raw ?_);conv=>whnf)|((first|refine DrawX_s tabOk folOk ?_|refine DrawS_i (by kernel_rfl) ?_|with_reducible refine andX_i ?_ ?_)<;>conv=>whnf)|with_reducible exact rfl|((with_reducible first|refine xif_kt (by assumption) ?_|refine xif_kf (by assumption) ?_);conv=>whnf)|((with_reducible refine xif_s ?_ ?_)<;>(intro hb;(try simp (disch:=omega) only [hbS] at hb)<;>conv=>whnf)))
    exact Fin_pure rfl rfl trivial
  · rw [hf] at kf
    have hfl := fewG_len hf
    refine CallW.of Tryz.func5 rfl tabOk rfl rfl rfl (by simp [SV.wfs, SV.wf]) (by simp [SV.wfs, SV.wf]) fun w hpre => ?_
    (conv=>whnf);repeat' (first|((with_reducible refine isC ?_);first|((with_reducible refine CallX_pure (awake34_x) ?_)<;>first|omega|with_reducible refine isP ?_|conv=>whnf)|(((with_reducible refine isF 12 ?_;refine CallX_w (kf) ?_ ?_);(focus exact hpre.few rfl));conv=>whnf))|((with_reducible refine isW ?_;first|refine xwr_ok (by omega) (by omega) ?_|refine xwr_raw ?_);conv=>whnf)|((first|refine DrawX_s tabOk folOk ?_|refine DrawS_i (by kernel_rfl) ?_|with_reducible refine andX_i ?_ ?_)<;>conv=>whnf)|with_reducible exact rfl|((with_reducible first|refine xif_kt (by assumption) ?_|refine xif_kf (by assumption) ?_);conv=>whnf)|((with_reducible refine xif_s ?_ ?_)<;>(intro hb;(try simp (disch:=omega) only [hbS] at hb)<;>conv=>whnf)))
    refine CallX_m three_m [] rfl trivial (by decide) (fun _ _ _ _ => trivial) ?_
    rintro ⟨⟨b0, d0⟩, ⟨b1, d1⟩, ⟨b2, d2⟩, A1, e1⟩
    dsimp only
    (conv=>whnf);repeat' (first|((with_reducible refine isW ?_;first|refine xwr_ok (by omega) (by omega) ?_|refine xwr_raw ?_);conv=>whnf)|((first|refine DrawX_s tabOk folOk ?_|refine DrawS_i (by kernel_rfl) ?_|with_reducible refine andX_i ?_ ?_)<;>conv=>whnf)|with_reducible exact rfl|((with_reducible first|refine xif_kt (by assumption) ?_|refine xif_kf (by assumption) ?_);conv=>whnf)|((with_reducible refine xif_s ?_ ?_)<;>(intro hb;(try simp (disch:=omega) only [hbS] at hb)<;>conv=>whnf)))
    refine CallX_m rThree_m [] rfl trivial (by decide) (fun _ _ _ _ => trivial) ?_
    rintro ⟨⟨c0, c1, c2⟩, A2, e2⟩
    dsimp only
    (conv=>whnf);repeat' (first|((with_reducible refine isW ?_;first|refine xwr_ok (by omega) (by omega) ?_|refine xwr_raw ?_);conv=>whnf)|((first|refine DrawX_s tabOk folOk ?_|refine DrawS_i (by kernel_rfl) ?_|with_reducible refine andX_i ?_ ?_)<;>conv=>whnf)|with_reducible exact rfl|((with_reducible first|refine xif_kt (by assumption) ?_|refine xif_kf (by assumption) ?_);conv=>whnf)|((with_reducible refine xif_s ?_ ?_)<;>(intro hb;(try simp (disch:=omega) only [hbS] at hb)<;>conv=>whnf)))
    clear kf
    refine LoopX_inv tabOk (α := (k : Nat) × Co3 × {Q : Nat → SnT // Q = runQ Q0 (l.take k)} × Rd3) (fun s => s.1 ≤ n ∧ okD3 s.2.2.1.1 s.2.2.2) (fun s => [(0, .v (.slice A n c)), (1, I a), (2, I b), (7, .v (.slice A1 3 e1)), (8, .v (.slice A2 3 e2)), (9, I s.1)])
      (fun s => [stO b0 s.2.1.1 (s.2.2.1.1 0) allT, stO b1 s.2.1.2.1 (s.2.2.1.1 1) allT, stO b2 s.2.1.2.2 (s.2.2.1.1 2) allT, ptsO A1 e1 b0 b1 b2, rsB c0 s.2.2.2.1 (s.2.2.1.1 0), rsQ c0, raO c0.p s.2.2.2.1.R allT, rsR s.2.2.2.1 (s.2.2.1.1 0), rsB c1 s.2.2.2.2.1 (s.2.2.1.1 1), rsQ c1, raO c1.p s.2.2.2.2.1.R allT, rsR s.2.2.2.2.1 (s.2.2.1.1 1), rsB c2 s.2.2.2.2.2 (s.2.2.1.1 2), rsQ c2, raO c2.p s.2.2.2.2.2.R allT, rsR s.2.2.2.2.2 (s.2.2.1.1 2), rptsO A2 e2 c0.b c1.b c2.b]) (fun s => n - s.1) ⟨0, (d0, d1, d2), ⟨Q0, rfl⟩, (D0, D0, D0)⟩ [0, 1, 2, 3, 4, 5, 6, 7, 8, 9, 10, 11, 12, 13, 14, 15, 16] ⟨Nat.zero_le _, okD0 _, okD0 _, okD0 _⟩ ?_ ?_
    · ((refine ⟨?_, ?_, ?_, ?_⟩) <;> (repeat' ((conv => whnf); apply And.intro)) <;> (try (first | exact trivial | decide)))
      all_goals first | rfl | exact fun _ _ h => h | (simp [SV.wf, SV.wfs]; done) | trace_state
    · rintro ⟨k, cs, ⟨Q, hQ⟩, D⟩ ⟨hk, hD⟩
      dsimp only at hk hQ hD ⊢
      have hokQ : okQ Q := by rw [hQ]; exact okQ_run _ okQ0
      have hgd : gdQ Q := by rw [hQ]; exact gdQ_run _ gdQ0
      by_cases hlt : k < n
      · have hmem : l.getD k fo0 ∈ l := by simp [show k < l.length by omega]
        have hop := hpre.op hmem
        have hol := (hpre.2 _ hmem).2
        have hnx : doQ Q (l.getD k fo0) = runQ Q0 (l.take (k + 1)) := by rw [runQ_take (by omega), hQ]
        have hd := do3_m b0 b1 b2 cs Q hokQ A1 e1 (l.getD k fo0) hol
        have hr := rDo_m c0 c1 c2 D Q hD hokQ hgd A2 e2 (l.getD k fo0) hol
        (conv=>whnf);repeat' (first|((with_reducible refine isC ?_);first|((first|(with_reducible refine isF 15 ?_);(refine CallX_m hd [0, 1, 2, 3] rfl ⟨fun _ _ h => h, fun _ _ h => h, fun _ _ h => h, ⟨rfl, rfl, rfl, rfl, rfl, rfl⟩, trivial⟩ (by decide) (ArgN.on hop (by decide) (m := 4) (r := [0, 1, 2, 3]) (fun j hj => by rcases (by omega : j = 0 ∨ j = 1 ∨ j = 2 ∨ j = 3) with rfl | rfl | rfl | rfl <;> simp)) ?_; intro q)|(with_reducible refine isF 16 ?_);(refine CallX_m hr [4, 5, 6, 7, 8, 9, 10, 11, 12, 13, 14, 15, 16] rfl ⟨fun _ _ h => h, ⟨rfl, rfl, rfl, rfl, rfl, rfl⟩, fun _ _ h => h, ⟨rfl, rfl, rfl, rfl, rfl, rfl⟩, fun _ _ h => h, ⟨rfl, rfl, rfl, rfl, rfl, rfl⟩, fun _ _ h => h, ⟨rfl, rfl, rfl, rfl, rfl, rfl⟩, fun _ _ h => h, ⟨rfl, rfl, rfl, rfl, rfl, rfl⟩, fun _ _ h => h, ⟨rfl, rfl, rfl, rfl, rfl, rfl⟩, ⟨rfl, rfl, rfl, rfl, rfl, rfl⟩, trivial⟩ (by decide) (ArgN.on hop (by decide) (m := 13) (r := [4, 5, 6, 7, 8, 9, 10, 11, 12, 13, 14, 15, 16]) (fun j hj => by rcases (by omega : j = 0 ∨ j = 1 ∨ j = 2 ∨ j = 3 ∨ j = 4 ∨ j = 5 ∨ j = 6 ∨ j = 7 ∨ j = 8 ∨ j = 9 ∨ j = 10 ∨ j = 11 ∨ j = 12) with rfl | rfl | rfl | rfl | rfl | rfl | rfl | rfl | rfl | rfl | rfl | rfl | rfl <;> simp)) ?_; intro q2));conv=>whnf))|((with_reducible refine isV ?_);first|((first|refine ValX_index tabOk rfl (hpre.1.mem (by decide) rfl) rfl ?_ ?_ ?_|(with_reducible refine nat_idx ?_);refine ValX_loadEn _ _ (fo0) tabOk rfl rfl rfl rfl (hpre.1.mem (by decide) rfl) ?_ ?_ ?_|refine ValX_loadE _ _ (fo0) tabOk rfl rfl rfl rfl (hpre.1.mem (by decide) rfl) ?_ ?_ ?_)<;>first|rfl|omega|with_reducible refine isP ?_|conv=>whnf))|((with_reducible refine isW ?_;first|refine xwr_ok (by omega) (by omega) ?_|refine xwr_raw ?_);conv=>whnf)|((first|refine DrawX_s tabOk folOk ?_|refine DrawS_i (by kernel_rfl) ?_|with_reducible refine andX_i ?_ ?_)<;>conv=>whnf)|with_reducible exact rfl|((with_reducible first|refine xif_kt (by assumption) ?_|refine xif_kf (by assumption) ?_);conv=>whnf)|((with_reducible refine xif_s ?_ ?_)<;>(intro hb;(try simp (disch:=omega) only [hbS] at hb)<;>conv=>whnf)))
        all_goals try (exfalso; omega)
        refine ⟨⟨k + 1, q, ⟨_, hnx⟩, q2.1⟩, [0, 1, 2, 3, 4, 5, 6, 7, 8, 9, 10, 11, 12, 13, 14, 15, 16], ⟨by (try dsimp only); omega, q2.2⟩, ?_, by (try dsimp only); omega⟩
        ((refine ⟨?_, ?_, ?_, ?_⟩) <;> (repeat' ((conv => whnf); apply And.intro)) <;> (try (first | exact trivial | decide)))
        all_goals first | rfl | exact fun _ _ h => h | (simp [SV.wf, SV.wfs]; done) | trace_state
      · obtain rfl : k = n := by omega
        have kfr := frames_m b1 cs.2.1 (Q 1)
        have krf := rsFrames_m c1 D.2.1 (Q 1)
        have hbl := bt_len (Q 1)
        have hok : ∀ r ∈ framesS (Q 1), Go.Proofs.YtlnplelandimeaaGreat.RelOk r := framesL_ok _
        generalize framesS (Q 1) = fs at *
        (conv=>whnf);repeat' (first|((with_reducible refine isC ?_);first|(((with_reducible refine isF 21 ?_);((refine CallX_m kfr [1] rfl ⟨fun _ _ h => h, trivial⟩ (by decide) (fun _ _ _ _ => trivial) ?_; intro rb)));conv=>whnf))|((with_reducible refine isV ?_);first|((first|refine ValX_index tabOk rfl (ArgSl.row 3 rfl) rfl ?_ ?_ ?_|(with_reducible refine nat_idx ?_);refine ValX_load1n _ _ (0) tabOk rfl rfl rfl (ArgSl.row 3 rfl) ?_ ?_ ?_|refine ValX_load1 _ _ (0) tabOk rfl rfl rfl (ArgSl.row 3 rfl) ?_ ?_ ?_|refine ValX_index tabOk rfl (ArgSl.row 16 rfl) rfl ?_ ?_ ?_|(with_reducible refine nat_idx ?_);refine ValX_load1n _ _ (0) tabOk rfl rfl rfl (ArgSl.row 16 rfl) ?_ ?_ ?_|refine ValX_load1 _ _ (0) tabOk rfl rfl rfl (ArgSl.row 16 rfl) ?_ ?_ ?_)<;>first|rfl|omega|with_reducible refine isP ?_|conv=>whnf))|((with_reducible refine isW ?_;first|refine xwr_ok (by omega) (by omega) ?_|refine xwr_raw ?_);conv=>whnf)|((first|refine DrawX_s tabOk folOk ?_|refine DrawS_i (by kernel_rfl) ?_|with_reducible refine andX_i ?_ ?_)<;>conv=>whnf)|with_reducible exact rfl|((with_reducible first|refine xif_kt (by assumption) ?_|refine xif_kf (by assumption) ?_);conv=>whnf)|((with_reducible refine xif_s ?_ ?_)<;>(intro hb;(try simp (disch:=omega) only [hbS] at hb)<;>conv=>whnf)))
        all_goals try (exfalso; omega)
        generalize hbt : btF fs a b = bt at *
        have krf2 := krf
        (conv=>whnf);repeat' (first|((with_reducible refine isC ?_);first|((first|(with_reducible refine isF 22 ?_);((refine CallX_Between 17 rfl rfl hbl ?_; rw [hbt]))|(with_reducible refine isF 24 ?_);(first | (refine CallX_m krf [8, 9, 10, 11] rfl ⟨fun _ _ h => h, ⟨rfl, rfl, rfl, rfl, rfl, rfl⟩, fun _ _ h => h, ⟨rfl, rfl, rfl, rfl, rfl, rfl⟩, trivial⟩ (by decide) (fun _ _ _ _ => trivial) ?_; intro q; obtain ⟨A3, c3⟩ := q; clear krf) | (refine CallX_m krf2 [8, 9, 10, 11] rfl ⟨fun _ _ h => h, ⟨rfl, rfl, rfl, rfl, rfl, rfl⟩, fun _ _ h => h, ⟨rfl, rfl, rfl, rfl, rfl, rfl⟩, trivial⟩ (by decide) (fun _ _ _ _ => trivial) ?_; intro q; obtain ⟨A4, c4⟩ := q))|(with_reducible refine isF 25 ?_);((refine CallX_w (rBetween_x A3 c3 fs a b hok (by omega)) (ArgSl.row 19 rfl) ?_; rw [hbt]; unfold frS))|(with_reducible refine isF 27 ?_);((refine CallX_Groups 17 rfl rfl hbl ?_; intro bg))|(with_reducible refine isF 28 ?_);((refine CallX_m (rGroups_x A4 c4 fs hok (by omega)) [] rfl trivial (by decide) (ArgN.row 22 rfl (m := 0) (fun j hj => by omega)) ?_; intro p2))|(with_reducible refine isF 26 ?_);((refine CallX_w (Ints_w _ _ _ _ (grps fs) (n := 8) rfl (by decide)) (fun σ fp w hm => ⟨ArgSl.row 21 rfl σ fp w hm, ArgSl.row 23 rfl σ fp w hm⟩) ?_)));conv=>whnf))|((with_reducible refine isV ?_);first|((first|refine ValX_index tabOk rfl (ArgSl.row 16 rfl) rfl ?_ ?_ ?_|(with_reducible refine nat_idx ?_);refine ValX_load1n _ _ (0) tabOk rfl rfl rfl (ArgSl.row 16 rfl) ?_ ?_ ?_|refine ValX_load1 _ _ (0) tabOk rfl rfl rfl (ArgSl.row 16 rfl) ?_ ?_ ?_)<;>first|rfl|omega|with_reducible refine isP ?_|conv=>whnf))|((with_reducible refine isW ?_;first|refine xwr_ok (by omega) (by omega) ?_|refine xwr_raw ?_);conv=>whnf)|((first|refine DrawX_s tabOk folOk ?_|refine DrawS_i (by kernel_rfl) ?_|with_reducible refine andX_i ?_ ?_)<;>conv=>whnf)|with_reducible exact rfl|((with_reducible first|refine xif_kt (by assumption) ?_|refine xif_kf (by assumption) ?_);conv=>whnf)|((with_reducible refine xif_s ?_ ?_)<;>(intro hb;(try simp (disch:=omega) only [hbS] at hb)<;>conv=>whnf)))
        all_goals try (exfalso; omega)
        all_goals first | exact Fin_pure rfl rfl trivial | (exfalso; simp at hb; done)
theorem fframes_walk (A0 : Option Addr) (n0 c0 : Nat) (l0 : List FOp) (a1 a2 : Int) (w : World) (h0 : l0.length = n0) (o0 : opsF w A0 n0 l0) (g0 : n0 ≤ c0) (k0 : c0 ≤ maxLen) :
    Calls Tryz.prog 5 #[.slice A0 n0 c0, .int .i64 a1, .int .i64 a2] w fun e w' => e = .returned (.bool true) ∧ Below w.heap.size w w' :=
  (fframes_x A0 c0 l0 a1 a2 h0 (by omega)).2.2 (fun _ => 0) w o0
end Go.Proofs.YtlnplelandimeaaGreat.En
end
