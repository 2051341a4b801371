import Derived.Test.YtadichckbogcjaaGreatDoorZToolsExplains19
import Derived.Test.YtadichckbogcjaaGreatDoorZToolsExplains22
import Derived.Test.YtadichckbogcjaaGreatDoorZToolsExplains08
import Derived.Laws.Concat
import Derived.Laws.Strings3
import Derived.Laws.BytesArg
import Derived.Lib.AppendStr
import Derived.Lib.ConvBytes
set_option linter.all false
section
namespace Go.Proofs.YtadichckbogcjaaGreatDoor.En
open Go.RowKit
set_option maxRecDepth 100000
theorem few_w (A : Option Addr) (c : Nat) (l : List AOp) {n : Nat} (hl : l.length = n) (hn : n ≤ maxLen) :
    CallW Tryz.prog 14 [.v (.slice A n c)] (fun w => ArgSl w A n 8 (l.map encOp) ∧ ∀ o ∈ l, o.2.2.1.2.2.length ≤ maxLen) (B (fewB l)) := by
  unfold maxLen at hn
  refine CallW.of Tryz.func14 rfl tabOk rfl rfl rfl (by simp [SV.wfs, SV.wf]) (by simp [SV.wfs, SV.wf]) fun w hpre => ?_
  obtain ⟨hpre, hlen⟩ := hpre
  (conv=>whnf);repeat' (first|((with_reducible refine isW ?_;first|refine xwr_ok (by omega) (by omega) ?_|refine xwr_raw ?_);conv=>whnf)|with_reducible exact rfl|((with_reducible first|refine xif_kt (by assumption) ?_|refine xif_kf (by assumption) ?_);conv=>whnf)|((with_reducible refine xif_s ?_ ?_)<;>(intro hb;(try simp (disch:=omega) only [hbS] at hb)<;>conv=>whnf)))
  refine LoopX_inv tabOk (α := Nat) (fun k => k ≤ n ∧ k ≤ 100) (fun k => [(0, .v (.slice A n c)), (3, I ((l.take k).map lenF).sum), (4, I k)]) (fun _ => []) (fun k => n - k) 0 [] ⟨Nat.zero_le _, Nat.zero_le _⟩ ?_ ?_
  · ((refine ⟨?_, ?_, ?_, ?_⟩) <;> (repeat' ((conv => whnf); apply And.intro)) <;> (try (first | exact trivial | decide)))
    all_goals first | rfl | exact fun _ _ h => h | simp [SV.wf, SV.wfs]
  · rintro k ⟨hk, hk2⟩
    have hbk := few_bd l k
    by_cases hlt : k < n
    · by_cases hlt2 : k < 100
      · have hnx := few_next (l := l) (k := k) (by omega)
        have hol := hlen (l.getD k op0) (by simp [show k < l.length by omega])
        unfold maxLen at hol
        have hlf : lenF (l.getD k op0) = min ((l.getD k op0).2.2.1.2.2.length : Int) 1000 := rfl
        rw [hlf] at hnx
        generalize ((l.take k).map lenF).sum = S at *
        (conv=>whnf);repeat' (first|((with_reducible refine isV ?_);first|((first|(with_reducible refine nat_idxF ?_);refine ValX_loadFn _ _ (op0) _ tabOk rfl rfl rfl (hpre.mem (by decide) rfl) ?_ ?_ rfl ?_|refine ValX_loadF _ _ (op0) _ tabOk rfl rfl rfl (hpre.mem (by decide) rfl) ?_ ?_ rfl ?_)<;>first|omega|(simp;omega)|with_reducible refine isP ?_|conv=>whnf)|((refine ValX_index tabOk rfl (hpre.mem (by decide) rfl) rfl ?_ ?_ ?_)<;>first|rfl|omega|with_reducible refine isP ?_|conv=>whnf))|((with_reducible refine isW ?_;first|refine xwr_ok (by omega) (by omega) ?_|refine xwr_raw ?_);conv=>whnf)|with_reducible exact rfl|((with_reducible first|refine xif_kt (by assumption) ?_|refine xif_kf (by assumption) ?_);conv=>whnf)|((with_reducible refine xif_s ?_ ?_)<;>(intro hb;(try simp (disch:=omega) only [hbS] at hb)<;>conv=>whnf)))
        all_goals try (exfalso; omega)
        refine ⟨k + 1, [], ⟨by (try dsimp only); omega, by (try dsimp only); omega⟩, ?_, by (try dsimp only); omega⟩
        dsimp only
        rw [hnx]
        ((refine ⟨?_, ?_, ?_, ?_⟩) <;> (repeat' ((conv => whnf); apply And.intro)) <;> (try (first | exact trivial | decide)))
        all_goals first | rfl | exact fun _ _ h => h | (simp [SV.wf, SV.wfs]; done) | trace_state
      · obtain rfl : k = 100 := by omega
        have hf : fewB l = (decide (l.length ≤ 30) && decide (((l.take 100).map lenF).sum ≤ 150)) := rfl
        rw [hf]
        generalize ((l.take 100).map lenF).sum = S at *
        (conv=>whnf);repeat' (first|((with_reducible refine isW ?_;first|refine xwr_ok (by omega) (by omega) ?_|refine xwr_raw ?_);conv=>whnf)|with_reducible exact rfl|((with_reducible first|refine xif_kt (by assumption) ?_|refine xif_kf (by assumption) ?_);conv=>whnf)|((with_reducible refine xif_s ?_ ?_)<;>(intro hb;(try simp (disch:=omega) only [hbS] at hb)<;>conv=>whnf)))
        all_goals try (exfalso; omega)
        all_goals refine Fin_pure rfl (B_eq ?_) trivial
        all_goals simp
        all_goals omega
    · obtain rfl : k = n := by omega
      have hf : fewB l = (decide (l.length ≤ 30) && decide (((l.take k).map lenF).sum ≤ 150)) := by
        unfold fewB
        rw [List.take_of_length_le (show l.length ≤ 100 by omega), List.take_of_length_le (by omega)]
      rw [hf]
      generalize ((l.take k).map lenF).sum = S at *
      (conv=>whnf);repeat' (first|((with_reducible refine isW ?_;first|refine xwr_ok (by omega) (by omega) ?_|refine xwr_raw ?_);conv=>whnf)|with_reducible exact rfl|((with_reducible first|refine xif_kt (by assumption) ?_|refine xif_kf (by assumption) ?_);conv=>whnf)|((with_reducible refine xif_s ?_ ?_)<;>(intro hb;(try simp (disch:=omega) only [hbS] at hb)<;>conv=>whnf)))
      all_goals try (exfalso; omega)
      all_goals refine Fin_pure rfl (B_eq ?_) trivial
      all_goals simp
      all_goals omega
set_option maxHeartbeats 2000000 in
theorem made_m (A : Option Addr) (c : Nat) (l : List AOp) {n : Nat} (hl : l.length = n) (hn : n ≤ maxLen) :
    CallM Tryz.prog 16 [.v (.slice A n c)] (fun w M => opsN w M A n l) [] (fun _ : (Nat × Nat) × StI (madeM l) => .p 0 0) (fun q => [atB q.1.1 q.1.2, scO q.1.1 q.2.1.1, plO q.1.2 q.2.1.2]) := by
  unfold maxLen at hn
  refine CallM.of (m := 0) Tryz.func16 rfl tabOk rfl rfl rfl rfl (by simp [SV.wfs, SV.wf]) fun w M π hpre => ?_
  (conv=>whnf);repeat' (first|((with_reducible refine isC ?_);first|(((with_reducible refine isF 37 ?_);(refine CallX_m New_m [] rfl trivial (by decide) (fun _ _ _ _ => trivial) ?_; intro b; obtain ⟨b1, b2⟩ := b));conv=>whnf))|((with_reducible refine isW ?_;first|refine xwr_ok (by omega) (by omega) ?_|refine xwr_raw ?_);conv=>whnf)|((first|refine DrawX_s tabOk folOk ?_|refine DrawS_i (by kernel_rfl) ?_|with_reducible refine andX_i ?_ ?_)<;>conv=>whnf)|with_reducible exact rfl|((with_reducible first|refine xif_kt (by assumption) ?_|refine xif_kf (by assumption) ?_);conv=>whnf)|((with_reducible refine xif_s ?_ ?_)<;>(intro hb;(try simp (disch:=omega) only [hbS] at hb)<;>conv=>whnf)))
  refine LoopX_inv tabOk (α := (k : Nat) × StI (madeM (l.take k))) (fun s => s.1 ≤ n) (fun s => [(0, .v (.slice A n c)), (3, .p 0 0), (4, I s.1)])
    (fun s => [atB b1 b2, scO b1 s.2.1.1, plO b2 s.2.1.2]) (fun s => n - s.1) ⟨0, ⟨([], []), (by intro e he; cases he), rfl⟩⟩ [0, 1, 2] (Nat.zero_le _) ?_ ?_
  · ((refine ⟨?_, ?_, ?_, ?_⟩) <;> (repeat' ((conv => whnf); apply And.intro)) <;> (try (first | exact trivial | decide)))
    all_goals first | rfl | exact fun _ _ h => h | (simp [SV.wf, SV.wfs]; done) | trace_state
  · rintro ⟨k, ⟨m, q⟩, hok, hab⟩ hk
    dsimp only at hk hok ⊢
    by_cases hlt : k < n
    · have hmem : l.getD k op0 ∈ l := by simp [show k < l.length by omega]
      obtain ⟨hop, hol⟩ := hpre.2 _ hmem
      have hsk := made_take (l := l) (k := k) (by omega)
      have hab' : (semS m, lkI q) = madeM (l.take k) := hab
      rw [← hab'] at hsk
      obtain ⟨o, ho⟩ : ∃ o, l.getD k op0 = o := ⟨_, rfl⟩
      have hO : o = (o.1, o.2.1, (o.2.2.1.1, o.2.2.1.2.1, o.2.2.1.2.2), o.2.2.2.1, o.2.2.2.2.1, o.2.2.2.2.2.1, o.2.2.2.2.2.2.1, o.2.2.2.2.2.2.2) := rfl
      have kp := Place_m b1 b2 m q (l.getD k op0).2.1 (l.getD k op0).2.2.2
      have ku := Put_m b1 b2 m q (l.getD k op0).2.1 (l.getD k op0).2.2.1.1 (l.getD k op0).2.2.1.2.1 (l.getD k op0).2.2.1.2.2 rfl hol hok
      rcases Bool.eq_false_or_eq_true (l.getD k op0).1 with hv | hv
      · (conv=>whnf);repeat' (first|((with_reducible refine isC ?_);first|(((with_reducible refine isF 38 ?_);(refine CallX_m kp [0, 1, 2] rfl ⟨⟨rfl, rfl, by simp [SV.wf, SV.wfs]⟩, fun _ _ h => h, fun _ _ h => h, trivial⟩ (by decide) (fun _ _ _ _ => trivial) ?_; intro r));conv=>whnf))|((with_reducible refine isV ?_);first|((first|(with_reducible refine nat_idxF ?_);refine ValX_loadFn _ _ (op0) _ tabOk rfl rfl rfl (ArgN.mem hpre.1 (by decide)) ?_ ?_ rfl ?_|refine ValX_loadF _ _ (op0) _ tabOk rfl rfl rfl (ArgN.mem hpre.1 (by decide)) ?_ ?_ rfl ?_)<;>first|omega|(simp;omega)|with_reducible refine isP ?_|conv=>whnf)|((first|(with_reducible refine nat_idxF ?_);refine ValX_loadGn _ _ (op0) _ tabOk rfl rfl rfl (ArgN.mem hpre.1 (by decide)) ?_ ?_ rfl rfl ?_|refine ValX_loadG _ _ (op0) _ tabOk rfl rfl rfl (ArgN.mem hpre.1 (by decide)) ?_ ?_ rfl rfl ?_)<;>first|omega|with_reducible refine isP ?_|conv=>whnf)|((refine ValX_index tabOk rfl (ArgN.mem hpre.1 (by decide)) rfl ?_ ?_ ?_)<;>first|rfl|omega|with_reducible refine isP ?_|conv=>whnf))|((with_reducible refine isW ?_;first|refine xwr_ok (by omega) (by omega) ?_|refine xwr_raw ?_);conv=>whnf)|(rw [hv]; conv => whnf)|((first|refine DrawX_s tabOk folOk ?_|refine DrawS_i (by kernel_rfl) ?_|with_reducible refine andX_i ?_ ?_)<;>conv=>whnf)|with_reducible exact rfl|((with_reducible first|refine xif_kt (by assumption) ?_|refine xif_kf (by assumption) ?_);conv=>whnf)|((with_reducible refine xif_s ?_ ?_)<;>(intro hb;(try simp (disch:=omega) only [hbS] at hb)<;>conv=>whnf)))
        all_goals try (exfalso; omega)
        refine ⟨⟨k + 1, (m, r.1), hok, by rw [hsk]; show (semS m, lkI r.1) = _; rw [r.2]; simp only [stepA, absO, hv, if_true, plcA]; split <;> rfl⟩, [0, 1, 2], by (try dsimp only); omega, ?_, by (try dsimp only); omega⟩
        ((refine ⟨?_, ?_, ?_, ?_⟩) <;> (repeat' ((conv => whnf); apply And.intro)) <;> (try (first | exact trivial | decide)))
        all_goals first | rfl | exact fun _ _ h => h | (simp [SV.wf, SV.wfs]; done) | trace_state
      · (conv=>whnf);repeat' (first|((with_reducible refine isC ?_);first|(((with_reducible refine isF 39 ?_);(refine CallX_m ku [0, 1, 2] rfl ⟨⟨rfl, rfl, by simp [SV.wf, SV.wfs]⟩, fun _ _ h => h, fun _ _ h => h, trivial⟩ (by decide) (opN.on hop (m := 3) (r := [0, 1, 2]) (fun j hj => by rcases (by omega : j = 0 ∨ j = 1 ∨ j = 2) with rfl | rfl | rfl <;> simp)) ?_; intro r));conv=>whnf))|((with_reducible refine isV ?_);first|((first|(with_reducible refine nat_idxF ?_);refine ValX_loadFn _ _ (op0) _ tabOk rfl rfl rfl (ArgN.mem hpre.1 (by decide)) ?_ ?_ rfl ?_|refine ValX_loadF _ _ (op0) _ tabOk rfl rfl rfl (ArgN.mem hpre.1 (by decide)) ?_ ?_ rfl ?_)<;>first|omega|(simp;omega)|with_reducible refine isP ?_|conv=>whnf)|((first|(with_reducible refine nat_idxF ?_);refine ValX_loadGn _ _ (op0) _ tabOk rfl rfl rfl (ArgN.mem hpre.1 (by decide)) ?_ ?_ rfl rfl ?_|refine ValX_loadG _ _ (op0) _ tabOk rfl rfl rfl (ArgN.mem hpre.1 (by decide)) ?_ ?_ rfl rfl ?_)<;>first|omega|with_reducible refine isP ?_|conv=>whnf)|((refine ValX_index tabOk rfl (ArgN.mem hpre.1 (by decide)) rfl ?_ ?_ ?_)<;>first|rfl|omega|with_reducible refine isP ?_|conv=>whnf))|((with_reducible refine isW ?_;first|refine xwr_ok (by omega) (by omega) ?_|refine xwr_raw ?_);conv=>whnf)|(rw [hv]; conv => whnf)|((first|refine DrawX_s tabOk folOk ?_|refine DrawS_i (by kernel_rfl) ?_|with_reducible refine andX_i ?_ ?_)<;>conv=>whnf)|with_reducible exact rfl|((with_reducible first|refine xif_kt (by assumption) ?_|refine xif_kf (by assumption) ?_);conv=>whnf)|((with_reducible refine xif_s ?_ ?_)<;>(intro hb;(try simp (disch:=omega) only [hbS] at hb)<;>conv=>whnf)))
        all_goals try (exfalso; omega)
        refine ⟨⟨k + 1, (r.1, q), r.2.1, by rw [hsk]; show (semS r.1, lkI q) = _; rw [r.2.2]; simp only [stepA, absO, hv, Bool.false_eq_true, if_false, putA]; split <;> rfl⟩, [0, 1, 2], by (try dsimp only); omega, ?_, by (try dsimp only); omega⟩
        ((refine ⟨?_, ?_, ?_, ?_⟩) <;> (repeat' ((conv => whnf); apply And.intro)) <;> (try (first | exact trivial | decide)))
        all_goals first | rfl | exact fun _ _ h => h | (simp [SV.wf, SV.wfs]; done) | trace_state
    · obtain rfl : k = n := by omega
      (conv=>whnf);repeat' (first|((with_reducible refine isW ?_;first|refine xwr_ok (by omega) (by omega) ?_|refine xwr_raw ?_);conv=>whnf)|((first|refine DrawX_s tabOk folOk ?_|refine DrawS_i (by kernel_rfl) ?_|with_reducible refine andX_i ?_ ?_)<;>conv=>whnf)|with_reducible exact rfl|((with_reducible first|refine xif_kt (by assumption) ?_|refine xif_kf (by assumption) ?_);conv=>whnf)|((with_reducible refine xif_s ?_ ?_)<;>(intro hb;(try simp (disch:=omega) only [hbS] at hb)<;>conv=>whnf)))
      all_goals try (exfalso; omega)
      exact Fin_m ⟨(b1, b2), (m, q), hok, by rw [hab, ← hl, List.take_length]⟩ [0, 1, 2] ⟨rfl, by simp [SV.wf, SV.wfs]⟩ ⟨⟨rfl, rfl, by simp [SV.wf, SV.wfs]⟩, fun _ _ h => h, fun _ _ h => h, trivial⟩ (by decide) rfl
set_option maxHeartbeats 2000000 in
theorem model_m (A : Option Addr) (c : Nat) (l : List AOp) {n : Nat} (hl : l.length = n) (hn : n ≤ maxLen) :
    CallM Tryz.prog 18 [.v (.slice A n c)] (fun w M => opsN w M A n l) [] (fun q : Nat × RfI (madeM l) => pR q.1) (fun q => [rfO q.1 q.2.1]) := by
  unfold maxLen at hn
  refine CallM.of (m := 0) Tryz.func18 rfl tabOk rfl rfl rfl rfl (by simp [SV.wfs, SV.wf]) fun w M π hpre => ?_
  (conv=>whnf);repeat' (first|((with_reducible refine isC ?_);first|(((with_reducible refine isF 42 ?_);(refine CallX_m rNew_m [] rfl trivial (by decide) (fun _ _ _ _ => trivial) ?_; intro b));conv=>whnf))|((with_reducible refine isW ?_;first|refine xwr_ok (by omega) (by omega) ?_|refine xwr_raw ?_);conv=>whnf)|((first|refine DrawX_s tabOk folOk ?_|refine DrawS_i (by kernel_rfl) ?_|with_reducible refine andX_i ?_ ?_)<;>conv=>whnf)|with_reducible exact rfl|((with_reducible first|refine xif_kt (by assumption) ?_|refine xif_kf (by assumption) ?_);conv=>whnf)|((with_reducible refine xif_s ?_ ?_)<;>(intro hb;(try simp (disch:=omega) only [hbS] at hb)<;>conv=>whnf)))
  refine LoopX_inv tabOk (α := (k : Nat) × RfI (madeM (l.take k))) (fun s => s.1 ≤ n) (fun s => [(0, .v (.slice A n c)), (3, pR b), (4, I s.1)])
    (fun s => [rfO b s.2.1]) (fun s => n - s.1) ⟨0, ⟨rf0, okR0, rfl⟩⟩ [0] (Nat.zero_le _) ?_ ?_
  · ((refine ⟨?_, ?_, ?_, ?_⟩) <;> (repeat' ((conv => whnf); apply And.intro)) <;> (try (first | exact trivial | decide)))
    all_goals first | rfl | exact fun _ _ h => h | (simp [SV.wf, SV.wfs]; done) | trace_state
  · rintro ⟨k, r, hok, hab⟩ hk
    dsimp only at hk hok ⊢
    by_cases hlt : k < n
    · have hmem : l.getD k op0 ∈ l := by simp [show k < l.length by omega]
      obtain ⟨hop, hol⟩ := hpre.2 _ hmem
      have hsk := made_take (l := l) (k := k) (by omega)
      rw [← hab] at hsk
      have kp := rPlace_m b r (l.getD k op0).2.1 (l.getD k op0).2.2.2 hok
      have ku := rPut_m b r (l.getD k op0).2.1 (l.getD k op0).2.2.1.1 (l.getD k op0).2.2.1.2.1 (l.getD k op0).2.2.1.2.2 rfl hol hok
      rcases Bool.eq_false_or_eq_true (l.getD k op0).1 with hv | hv
      · (conv=>whnf);repeat' (first|((with_reducible refine isC ?_);first|(((with_reducible refine isF 43 ?_);(refine CallX_m kp [0] rfl ⟨fun _ _ h => h, trivial⟩ (by decide) (fun _ _ _ _ => trivial) ?_; intro q));conv=>whnf))|((with_reducible refine isV ?_);first|((first|(with_reducible refine nat_idxF ?_);refine ValX_loadFn _ _ (op0) _ tabOk rfl rfl rfl (ArgN.mem hpre.1 (by decide)) ?_ ?_ rfl ?_|refine ValX_loadF _ _ (op0) _ tabOk rfl rfl rfl (ArgN.mem hpre.1 (by decide)) ?_ ?_ rfl ?_)<;>first|omega|(simp;omega)|with_reducible refine isP ?_|conv=>whnf)|((first|(with_reducible refine nat_idxF ?_);refine ValX_loadGn _ _ (op0) _ tabOk rfl rfl rfl (ArgN.mem hpre.1 (by decide)) ?_ ?_ rfl rfl ?_|refine ValX_loadG _ _ (op0) _ tabOk rfl rfl rfl (ArgN.mem hpre.1 (by decide)) ?_ ?_ rfl rfl ?_)<;>first|omega|with_reducible refine isP ?_|conv=>whnf)|((refine ValX_index tabOk rfl (ArgN.mem hpre.1 (by decide)) rfl ?_ ?_ ?_)<;>first|rfl|omega|with_reducible refine isP ?_|conv=>whnf))|((with_reducible refine isW ?_;first|refine xwr_ok (by omega) (by omega) ?_|refine xwr_raw ?_);conv=>whnf)|(rw [hv]; conv => whnf)|((first|refine DrawX_s tabOk folOk ?_|refine DrawS_i (by kernel_rfl) ?_|with_reducible refine andX_i ?_ ?_)<;>conv=>whnf)|with_reducible exact rfl|((with_reducible first|refine xif_kt (by assumption) ?_|refine xif_kf (by assumption) ?_);conv=>whnf)|((with_reducible refine xif_s ?_ ?_)<;>(intro hb;(try simp (disch:=omega) only [hbS] at hb)<;>conv=>whnf)))
        all_goals try (exfalso; omega)
        refine ⟨⟨k + 1, q.1, q.2.1, by rw [hsk, q.2.2]; simp only [stepA, absO, hv, if_true]⟩, [0], by (try dsimp only); omega, ?_, by (try dsimp only); omega⟩
        ((refine ⟨?_, ?_, ?_, ?_⟩) <;> (repeat' ((conv => whnf); apply And.intro)) <;> (try (first | exact trivial | decide)))
        all_goals first | rfl | exact fun _ _ h => h | (simp [SV.wf, SV.wfs]; done) | trace_state
      · (conv=>whnf);repeat' (first|((with_reducible refine isC ?_);first|(((with_reducible refine isF 44 ?_);(refine CallX_m ku [0] rfl ⟨fun _ _ h => h, trivial⟩ (by decide) (opN.on hop (m := 1) (r := [0]) (fun j hj => by rcases (by omega : j = 0) with rfl; simp)) ?_; intro q));conv=>whnf))|((with_reducible refine isV ?_);first|((first|(with_reducible refine nat_idxF ?_);refine ValX_loadFn _ _ (op0) _ tabOk rfl rfl rfl (ArgN.mem hpre.1 (by decide)) ?_ ?_ rfl ?_|refine ValX_loadF _ _ (op0) _ tabOk rfl rfl rfl (ArgN.mem hpre.1 (by decide)) ?_ ?_ rfl ?_)<;>first|omega|(simp;omega)|with_reducible refine isP ?_|conv=>whnf)|((first|(with_reducible refine nat_idxF ?_);refine ValX_loadGn _ _ (op0) _ tabOk rfl rfl rfl (ArgN.mem hpre.1 (by decide)) ?_ ?_ rfl rfl ?_|refine ValX_loadG _ _ (op0) _ tabOk rfl rfl rfl (ArgN.mem hpre.1 (by decide)) ?_ ?_ rfl rfl ?_)<;>first|omega|with_reducible refine isP ?_|conv=>whnf)|((refine ValX_index tabOk rfl (ArgN.mem hpre.1 (by decide)) rfl ?_ ?_ ?_)<;>first|rfl|omega|with_reducible refine isP ?_|conv=>whnf))|((with_reducible refine isW ?_;first|refine xwr_ok (by omega) (by omega) ?_|refine xwr_raw ?_);conv=>whnf)|(rw [hv]; conv => whnf)|((first|refine DrawX_s tabOk folOk ?_|refine DrawS_i (by kernel_rfl) ?_|with_reducible refine andX_i ?_ ?_)<;>conv=>whnf)|with_reducible exact rfl|((with_reducible first|refine xif_kt (by assumption) ?_|refine xif_kf (by assumption) ?_);conv=>whnf)|((with_reducible refine xif_s ?_ ?_)<;>(intro hb;(try simp (disch:=omega) only [hbS] at hb)<;>conv=>whnf)))
        all_goals try (exfalso; omega)
        refine ⟨⟨k + 1, q.1, q.2.1, by rw [hsk, q.2.2]; simp only [stepA, absO, hv, Bool.false_eq_true, if_false]⟩, [0], by (try dsimp only); omega, ?_, by (try dsimp only); omega⟩
        ((refine ⟨?_, ?_, ?_, ?_⟩) <;> (repeat' ((conv => whnf); apply And.intro)) <;> (try (first | exact trivial | decide)))
        all_goals first | rfl | exact fun _ _ h => h | (simp [SV.wf, SV.wfs]; done) | trace_state
    · obtain rfl : k = n := by omega
      (conv=>whnf);repeat' (first|((with_reducible refine isW ?_;first|refine xwr_ok (by omega) (by omega) ?_|refine xwr_raw ?_);conv=>whnf)|((first|refine DrawX_s tabOk folOk ?_|refine DrawS_i (by kernel_rfl) ?_|with_reducible refine andX_i ?_ ?_)<;>conv=>whnf)|with_reducible exact rfl|((with_reducible first|refine xif_kt (by assumption) ?_|refine xif_kf (by assumption) ?_);conv=>whnf)|((with_reducible refine xif_s ?_ ?_)<;>(intro hb;(try simp (disch:=omega) only [hbS] at hb)<;>conv=>whnf)))
      all_goals try (exfalso; omega)
      exact Fin_m ⟨b, r, hok, by rw [hab, ← hl, List.take_length]⟩ [0] ⟨rfl, by simp [SV.wf, SV.wfs]⟩ ⟨fun _ _ h => h, trivial⟩ (by decide) rfl
end Go.Proofs.YtadichckbogcjaaGreatDoor.En
end
section
namespace Go.Proofs.YtadichckbogcjaaGreatDoor.En
open Go.RowKit
set_option maxRecDepth 100000
abbrev S (l : List UInt8) : SV := .v (.string ⟨l.toArray⟩)
def encU (x : UInt8) : List Value := [.int .u8 (x.toNat : Nat)]
theorem encU_flat : ∀ l : List UInt8, (l.map encU).flatten = l.map fun x => Value.int .u8 (x.toNat : Nat)
  | [] => rfl
  | x :: l => by simp [encU, encU_flat l]
section
variable {C : Ctx} {ob : List OB} {k : SV → Prop} {o : Oper} {x y : Operand} {t t' : TypeId}
theorem ValX_sAdd {a b : List UInt8} (ho : o.op = .binOp .add t x y t') (hl : a.length + b.length ≤ 1000000000000) (hk : k (S (a ++ b))) : ValX C o [S a, S b] ob k := by
  unfold ValX
  intro σ fp w ρ hm hx
  rw [ho] at hx
  simp [Op.operands, SV.vals, SV.val] at hx
  refine ⟨_, hk, ?_, by simp [SV.wf, SV.wfs]⟩
  have h := run_string_add_sum (P := C.P) w ⟨a.toArray⟩ ⟨b.toArray⟩ (by simp [ByteArray.size]; omega)
  rw [ByteArray.mk_append_mk] at h
  have hq : (eqGuard .add t x y (.string ⟨a.toArray⟩) (.string ⟨b.toArray⟩)).run C.P w = .ok () w := rfl
  simp only [execOp, ho, hx.1, hx.2, binOp_string_add, Sem.run_bind, hq, h, Result.andThen_ok, Sem.run_pure]
  rfl
theorem ValX_sEq {a b : List UInt8} {r : Bool} (ho : o.op = .binOp .eql t x y t') (ht : C.P.underlying t = some .string) (hr : decide (a = b) = r) (hk : k (.v (.bool r))) : ValX C o [S a, S b] ob k := by
  subst hr
  unfold ValX
  intro σ fp w ρ hm hx
  rw [ho] at hx
  simp [Op.operands, SV.vals, SV.val] at hx
  refine ⟨_, hk, ?_, by simp [SV.wf, SV.wfs]⟩
  have hc : (binOp .eql t (.string ⟨a.toArray⟩) (.string ⟨b.toArray⟩)).run C.P w = .ok (.bool (decide (a = b))) w := by
    rw [binOp_string_eql, ByteArray.toList_mk, ByteArray.toList_mk]
    show Result.ok (Value.bool (a == b)) w = _
    congr 2
    by_cases e : a = b <;> simp [e]
  have hq : (eqGuard .eql t x y (.string ⟨a.toArray⟩) (.string ⟨b.toArray⟩)).run C.P w = .ok () w := by
    unfold eqGuard
    rfl
  simp only [execOp, ho, hx.1, hx.2, Sem.run_bind, hq, hc, Result.andThen_ok, Sem.run_pure]
  rfl
theorem ValX_sLen {a : List UInt8} (ho : o.op = .call ⟨.builtin .len, #[x], #[t]⟩) (ht : C.P.underlying t = some .string) (hk : k (I a.length)) : ValX C o [S a] ob k := by
  unfold ValX
  intro σ fp w ρ hm hx
  rw [ho] at hx
  simp [Op.operands, Call.operands, SV.vals, SV.val] at hx
  refine ⟨_, hk, ?_, by simp [SV.wf, SV.wfs]⟩
  have h := run_len_string (P := C.P) w t o.type ⟨a.toArray⟩ ht
  simp [execOp, ho, resolve, invoke, builtin, hx, h, goInt, ByteArray.size, SV.val]
theorem ValX_sIdx {a : List UInt8} {kd : IntKind} {i : Int} (ho : o.op = .index t x y) (ht : C.P.underlying t = some .string) (h0 : 0 ≤ i) (h1 : i < a.length) (hk : k (.v (.int .u8 ((a.getD i.toNat 0).toNat : Nat)))) : ValX C o [S a, .v (.int kd i)] ob k := by
  unfold ValX
  intro σ fp w ρ hm hx
  rw [ho] at hx
  simp [Op.operands, SV.vals, SV.val] at hx
  refine ⟨_, hk, ?_, by simp [SV.wf, SV.wfs]⟩
  have h := run_index_string (P := C.P) w t ⟨a.toArray⟩ kd i ht
  rw [dif_pos ⟨h0, by simpa [ByteArray.size] using h1⟩] at h
  have e : (ByteArray.mk a.toArray)[i.toNat]'(by simp [ByteArray.size]; omega) = a.getD i.toNat 0 := by
    simp [show i.toNat < a.length by omega]
    rfl
  rw [e] at h
  simp only [execOp, ho, hx.1, hx.2, Sem.run_bind, h, Result.andThen_ok, Sem.run_pure]
  rfl
theorem ValX_toS {A : Option Addr} {n c : Nat} (bs : List UInt8) (ho : o.op = .convert t t' x) {e : TypeId} (ht : C.P.underlying t = some (.slice e)) (he : C.P.underlying e = some (.int .u8)) (ht' : C.P.underlying t' = some .string) (hl : bs.length = n)
    (hA : ∀ σ fp w, Mem C σ fp ob w → ArgSl w A n 1 (bs.map encU)) (hsp : ∀ σ fp w, Mem C σ fp ob w → ∀ a, A = some a → a.spot = none) (hk : k (S bs)) : ValX C o [.v (.slice A n c)] ob k := by
  unfold ValX
  intro σ fp w ρ hm hx
  rw [ho] at hx
  simp [Op.operands, SV.vals, SV.val] at hx
  refine ⟨_, hk, ?_, by simp [SV.wf, SV.wfs]⟩
  have hs : strOfNums (bs.map fun x => ((x.toNat : Nat) : Int)) = ⟨bs.toArray⟩ := by
    have e1 : ∀ x : UInt8, UInt8.ofNat ((x.toNat : Nat) : Int).toNat = x := fun x => by simp
    apply ByteArray.ext
    simp only [strOfNums, List.map_map, Function.comp_def, e1, List.map_id']
  have hc : (convert t t' (.slice A n c)).run C.P w = .ok (.string ⟨bs.toArray⟩) w := by
    by_cases hn : A = none
    · subst hn
      have h0 : n = 0 := by
        by_cases h0 : n = 0
        · exact h0
        · obtain ⟨b, off, h, _⟩ := (hA σ fp w hm).at_ h0
          cases h
      subst h0
      obtain rfl : bs = [] := List.eq_nil_of_length_eq_zero hl
      exact run_convert_bytes_nil w _ e ht he 0 c _ ht'
    · obtain ⟨ad, rfl⟩ := Option.ne_none_iff_exists'.1 hn
      have hspot := hsp σ fp w hm ad rfl
      obtain ⟨b, off, sp⟩ := ad
      simp only at hspot
      subst hspot
      rw [← hs]
      refine run_convert_bytes_arg w t e ht he b off n c _ (by simpa using hl) (fun i hi => ?_) _ ht'
      obtain ⟨b', off', h1, h2⟩ := (hA σ fp w hm).at_ (by omega)
      cases h1
      have := h2 i (encU (bs.getD i 0)) (by rw [List.getElem?_map]; simp [show i < bs.length by omega]) 0 _ rfl
      rw [Nat.mul_one, Nat.add_zero] at this
      rw [this]
      simp [show i < bs.length by omega]
  simp only [execOp, ho, hx, Sem.run_bind, hc, Result.andThen_ok, Sem.run_pure]
  rfl
end
end Go.Proofs.YtadichckbogcjaaGreatDoor.En
end
