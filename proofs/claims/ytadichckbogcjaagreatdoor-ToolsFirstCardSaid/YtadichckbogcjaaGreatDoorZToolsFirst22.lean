import Derived.Test.YtadichckbogcjaaGreatDoorZToolsFirst19
import Derived.Test.YtadichckbogcjaaGreatDoorZToolsFirst10
import Derived.Test.YtadichckbogcjaaGreatDoorZToolsFirst18
import Derived.Test.YtadichckbogcjaaGreatDoorZToolsFirst20
import Derived.Test.YtadichckbogcjaaGreatDoorZToolsFirst21
set_option linter.all false
section
namespace Go.Proofs.YtadichckbogcjaaGreatDoor.En
open Go.RowKit
set_option maxRecDepth 100000
theorem cnt_bd {e : EntT} (h : countB e = true) : -1099511627776 ≤ e.2.2.1 ∧ e.2.2.1 ≤ 1099511627776 ∧ -1099511627776 ≤ e.2.2.2 ∧ e.2.2.2 ≤ 1099511627776 := by
  simp only [countB, szB, Bool.and_eq_true, decide_eq_true_eq] at h
  omega
def stP (e : EntT) (l : List EntT) (k : Nat) : List EntT × Bool × Bool := (l.take k).foldl (putS e) ([], false, true)
theorem stP_next (e : EntT) {l : List EntT} {k : Nat} (hk : k < l.length) : stP e l (k + 1) = putS e (stP e l k) (l.getD k e0) := by
  unfold stP
  rw [fold_take (putS e) _ (d := e0) hk]
theorem putS_len (e : EntT) (s : List EntT × Bool × Bool) (x : EntT) {k : Nat} (h : s.1.length ≤ k + s.2.1.toNat) : (putS e s x).1.length ≤ k + 1 + (putS e s x).2.1.toNat := by
  obtain ⟨o, d, t⟩ := s
  unfold putS
  cases d
  · simp only [Bool.toNat_false] at h
    split
    · dsimp only
      split
      · simp; omega
      · simp; omega
    · split
      · simp; omega
      · simp; omega
  · simp only [Bool.toNat_true] at h
    simp
    omega
theorem stP_len (e : EntT) {l : List EntT} : ∀ k, k ≤ l.length → (stP e l k).1.length ≤ k + (stP e l k).2.1.toNat
  | 0, _ => by simp [stP]
  | k + 1, hk => by
    rw [stP_next e (by omega)]
    exact putS_len e _ _ (stP_len e k (by omega))
theorem putE_st (e : EntT) (l : List EntT) {n : Nat} (hl : l.length = n) : putE l e = (if (stP e l n).2.1 then (stP e l n).1 else (stP e l n).1 ++ [e], (stP e l n).2.2) := by
  unfold putE stP
  rw [List.take_of_length_le (by omega)]
set_option maxHeartbeats 4000000 in
theorem put_m (A : Option Addr) (c : Nat) (l : List EntT) (e : EntT) {n : Nat} (hl : l.length = n) (hn : n ≤ 1000000000)
    (hb1 : ∀ i, i < n → (-2000000000000000000 ≤ (l.getD i e0).2.2.1 ∧ (l.getD i e0).2.2.1 ≤ 2000000000000000000) ∧ (-2000000000000000000 ≤ (l.getD i e0).2.2.2 ∧ (l.getD i e0).2.2.2 ≤ 2000000000000000000))
    (hb2 : (-2000000000000000000 ≤ e.2.2.1 ∧ e.2.2.1 ≤ 2000000000000000000) ∧ (-2000000000000000000 ≤ e.2.2.2 ∧ e.2.2.2 ≤ 2000000000000000000)) :
    CallM Tryz.prog 70 [.v (.slice A n c), .a [I e.1, I e.2.1, I e.2.2.1, I e.2.2.2]] (fun w M => ArgN w M A n 4 (l.map encE)) []
      (fun q : Option Addr × Nat => .t [.v (.slice q.1 (putE l e).1.length q.2), B (putE l e).2]) (fun q => [.row 34 4 q.1 (putE l e).1.length q.2 ((putE l e).1.map encE)]) := by
  rw [putE_st e l hl]
  have hst := fun k (hk : k < n) => stP_next e (l := l) (k := k) (by omega)
  have hln := fun k (hk : k ≤ n) => stP_len e (l := l) k (by omega)
  have h0 : stP e l 0 = ([], false, true) := rfl
  generalize stP e l = st at *
  refine CallM.of (m := 0) Tryz.func70 rfl tabOk rfl rfl rfl rfl (by simp [SV.wfs, SV.wf]) fun w M π hpre => ?_
  (conv=>whnf);repeat' (first|((with_reducible refine isO ?_);first|((first|(refine OpX_build0 tabOk rfl rfl rfl ?_);intro bN|(refine OpX_build tabOk rfl rfl rfl rfl rfl ?_);intro bN);conv=>whnf))|((with_reducible refine isW ?_;first|refine xwr_ok (by omega) (by omega) ?_|refine xwr_raw ?_);conv=>whnf)|((first|refine DrawX_s tabOk folOk ?_|refine DrawS_i (by kernel_rfl) ?_|with_reducible refine andX_i ?_ ?_)<;>conv=>whnf)|with_reducible exact rfl|((with_reducible first|refine xif_kt (by assumption) ?_|refine xif_kf (by assumption) ?_);conv=>whnf)|((with_reducible refine xif_s ?_ ?_)<;>(intro hb;(try simp (disch:=omega) only [hbS] at hb)<;>conv=>whnf)))
  refine LoopX_addNil 34 4 ?_
  conv => whnf
  refine LoopX_inv tabOk (α := Nat × Option Addr × Nat) (fun p => p.1 ≤ n) (fun p => [(9, I p.1), (0, .v (.slice A n c)), (3, .p 0 0), (6, .v (.slice p.2.1 (st p.1).1.length p.2.2)), (7, B (st p.1).2.1), (8, B (st p.1).2.2)]) (fun p => [.box 34 [I e.1, I e.2.1, I e.2.2.1, I e.2.2.2], .row 34 4 p.2.1 (st p.1).1.length p.2.2 ((st p.1).1.map encE)]) (fun p => n - p.1) (0, none, 0) [0, 1] (Nat.zero_le _) ?_ ?_
  · dsimp only
    rw [h0]
    ((refine ⟨?_, ?_, ?_, ?_⟩) <;> (repeat' ((conv => whnf); apply And.intro)) <;> (try (first | exact trivial | decide)))
    all_goals first | rfl | exact fun _ _ h => h | (simp [SV.wf, SV.wfs]; done) | trace_state
  · rintro ⟨k, A', c'⟩ hk
    dsimp only at hk ⊢
    by_cases hlt : k < n
    · specialize hst k hlt
      have hlk := hln k hk
      have hlk2 := hln (k + 1) hlt
      have hbk := hb1 k hlt
      rw [hst] at hlk2
      clear hln hb1 h0
      generalize hs : st k = s at *
      obtain ⟨o, dn, ft⟩ := s
      have ho : o.length ≤ k + 1 := by cases dn <;> simp at hlk <;> omega
      cases dn with
      | true =>
        have e1 : putS e (o, true, ft) (l.getD k e0) = (o ++ [l.getD k e0], true, ft) := by simp [putS]
        rw [e1] at hst
        dsimp only at hlk hlk2 ⊢
        (conv=>whnf);repeat' (first|((with_reducible refine isV ?_);first|((first|refine ValX_index tabOk rfl (ArgN.mem hpre (by decide)) rfl ?_ ?_ ?_|(with_reducible refine nat_idx ?_);refine ValX_loadEn _ _ (e0) tabOk rfl rfl rfl rfl (ArgN.mem hpre (by decide)) ?_ ?_ ?_|refine ValX_loadE _ _ (e0) tabOk rfl rfl rfl rfl (ArgN.mem hpre (by decide)) ?_ ?_ ?_)<;>first|rfl|omega|with_reducible refine isP ?_|conv=>whnf)|((first|(with_reducible refine nat_idxF ?_);refine ValX_loadGn _ _ (e0) _ tabOk rfl rfl rfl (ArgN.mem hpre (by decide)) ?_ ?_ rfl rfl ?_|refine ValX_loadG _ _ (e0) _ tabOk rfl rfl rfl (ArgN.mem hpre (by decide)) ?_ ?_ rfl rfl ?_)<;>first|omega|with_reducible refine isP ?_|conv=>whnf)|((first|(with_reducible refine nat_idxF ?_);refine ValX_loadFn _ _ (e0) _ tabOk rfl rfl rfl (ArgN.mem hpre (by decide)) ?_ ?_ rfl ?_|refine ValX_loadF _ _ (e0) _ tabOk rfl rfl rfl (ArgN.mem hpre (by decide)) ?_ ?_ rfl ?_)<;>first|omega|(simp;omega)|with_reducible refine isP ?_|conv=>whnf)|((refine ValX_index tabOk rfl (ArgN.mem hpre (by decide)) rfl ?_ ?_ ?_)<;>first|rfl|omega|with_reducible refine isP ?_|conv=>whnf))|((with_reducible refine isO ?_);first|((refine OpX_append 1 tabOk rfl rfl rfl rfl (ArgSl.row 2 rfl) (by decide) ?_ ?_ ?_)<;>first|omega|(dsimp only;omega)|(intro A' c';conv=>whnf))|((first|(refine OpX_build0 tabOk rfl rfl rfl ?_);intro bN|(refine OpX_build tabOk rfl rfl rfl rfl rfl ?_);intro bN);conv=>whnf))|((with_reducible refine isW ?_;first|refine xwr_ok (by omega) (by omega) ?_|refine xwr_raw ?_);conv=>whnf)|((first|refine DrawX_s tabOk folOk ?_|refine DrawS_i (by kernel_rfl) ?_|with_reducible refine andX_i ?_ ?_)<;>conv=>whnf)|with_reducible exact rfl|((with_reducible first|refine xif_kt (by assumption) ?_|refine xif_kf (by assumption) ?_);conv=>whnf)|((with_reducible refine xif_s ?_ ?_)<;>(intro hb;(try simp (disch:=omega) only [hbS] at hb)<;>conv=>whnf)))
        all_goals try (exfalso; omega)
        refine ⟨(k + 1, A', c'), [0, 1], by (try dsimp only); omega, ?_, by (try dsimp only); omega⟩
        dsimp only
        rw [hst]
        dsimp only
        rw [List.map_append, List.length_append]
        ((refine ⟨?_, ?_, ?_, ?_⟩) <;> (repeat' ((conv => whnf); apply And.intro)) <;> (try (first | exact trivial | decide)))
        all_goals first | rfl | exact fun _ _ h => h | (simp [SV.wf, SV.wfs]; done) | trace_state
      | false =>
        dsimp only at hlk hlk2 ⊢
        have w1 : IntKind.i64.wrap ((l.getD k e0).2.2.1 + e.2.2.1) = (l.getD k e0).2.2.1 + e.2.2.1 := wr (by omega) (by omega)
        have w2 : IntKind.i64.wrap ((l.getD k e0).2.2.2 + e.2.2.2) = (l.getD k e0).2.2.2 + e.2.2.2 := wr (by omega) (by omega)
        simp only [Bool.toNat_false] at hlk
        by_cases h1 : (l.getD k e0).cell = e.cell
        · have h1a : (l.getD k e0).1 = e.1 := (Prod.ext_iff.1 h1).1
          have h1b : (l.getD k e0).2.1 = e.2.1 := (Prod.ext_iff.1 h1).2
          have hput : putS e (o, false, ft) (l.getD k e0) = (if zeroE (plusE (l.getD k e0) e) then o else o ++ [plusE (l.getD k e0) e], true, countB (plusE (l.getD k e0) e)) := by
            unfold putS
            rw [if_pos ⟨rfl, h1⟩]
          rw [hput] at hst
          have hcnt : countB (plusE (l.getD k e0) e) = (szB ((l.getD k e0).2.2.1 + e.2.2.1) 1099511627776 && szB ((l.getD k e0).2.2.2 + e.2.2.2) 1099511627776) := rfl
          rw [hcnt] at hst
          clear hput hlk2 hcnt
          by_cases hz : (l.getD k e0).2.2.1 + e.2.2.1 = 0 ∧ (l.getD k e0).2.2.2 + e.2.2.2 = 0
          · have hz' : zeroE (plusE (l.getD k e0) e) = true := by
              unfold zeroE plusE
              dsimp only
              rw [hz.1, hz.2]
              rfl
            rw [if_pos hz'] at hst
            (conv=>whnf);repeat' (first|((with_reducible refine isC ?_);first|((with_reducible refine CallX_pure (Size_x _ _ ?_ ?_) ?_)<;>first|omega|with_reducible refine isP ?_|conv=>whnf))|((with_reducible refine isV ?_);first|((first|refine ValX_index tabOk rfl (ArgN.mem hpre (by decide)) rfl ?_ ?_ ?_|(with_reducible refine nat_idx ?_);refine ValX_loadEn _ _ (e0) tabOk rfl rfl rfl rfl (ArgN.mem hpre (by decide)) ?_ ?_ ?_|refine ValX_loadE _ _ (e0) tabOk rfl rfl rfl rfl (ArgN.mem hpre (by decide)) ?_ ?_ ?_)<;>first|rfl|omega|with_reducible refine isP ?_|conv=>whnf)|((first|(with_reducible refine nat_idxF ?_);refine ValX_loadGn _ _ (e0) _ tabOk rfl rfl rfl (ArgN.mem hpre (by decide)) ?_ ?_ rfl rfl ?_|refine ValX_loadG _ _ (e0) _ tabOk rfl rfl rfl (ArgN.mem hpre (by decide)) ?_ ?_ rfl rfl ?_)<;>first|omega|with_reducible refine isP ?_|conv=>whnf)|((first|(with_reducible refine nat_idxF ?_);refine ValX_loadFn _ _ (e0) _ tabOk rfl rfl rfl (ArgN.mem hpre (by decide)) ?_ ?_ rfl ?_|refine ValX_loadF _ _ (e0) _ tabOk rfl rfl rfl (ArgN.mem hpre (by decide)) ?_ ?_ rfl ?_)<;>first|omega|(simp;omega)|with_reducible refine isP ?_|conv=>whnf)|((refine ValX_index tabOk rfl (ArgN.mem hpre (by decide)) rfl ?_ ?_ ?_)<;>first|rfl|omega|with_reducible refine isP ?_|conv=>whnf))|((with_reducible refine isO ?_);first|((refine OpX_append 1 tabOk rfl rfl rfl rfl (ArgSl.row 3 rfl) (by decide) ?_ ?_ ?_)<;>first|omega|(dsimp only;omega)|(intro A' c';conv=>whnf))|((first|(refine OpX_build0 tabOk rfl rfl rfl ?_);intro bN|(refine OpX_build tabOk rfl rfl rfl rfl rfl ?_);intro bN);conv=>whnf))|((with_reducible refine isW ?_;first|refine xwr_ok (by omega) (by omega) ?_|refine xwr_raw ?_);conv=>whnf)|((first|refine DrawX_s tabOk folOk ?_|refine DrawS_i (by kernel_rfl) ?_|with_reducible refine andX_i ?_ ?_)<;>conv=>whnf)|with_reducible exact rfl|((with_reducible first|refine xif_kt (by assumption) ?_|refine xif_kf (by assumption) ?_);conv=>whnf)|((with_reducible refine xif_s ?_ ?_)<;>(intro hb;(try simp (disch:=omega) only [hbS] at hb)<;>conv=>whnf)))
            all_goals try (exfalso; omega)
            all_goals try (exfalso; rw [h1a, h1b] at hb; simp at hb; done)
            all_goals try (simp only [w1, w2, h1a, h1b] at *)
            all_goals try (exfalso; simp_all; done)
            all_goals
              refine ⟨(k + 1, A', c'), [0, 1], by (try dsimp only); omega, ?_, by (try dsimp only); omega⟩
              dsimp only
              rw [hst]
              dsimp only
              ((refine ⟨?_, ?_, ?_, ?_⟩) <;> (repeat' ((conv => whnf); apply And.intro)) <;> (try (first | exact trivial | decide)))
            all_goals first | rfl | exact fun _ _ h => h | (simp [SV.wf, SV.wfs]; done) | exact congrArg (fun b => SV.v (Value.bool b)) (by rw [‹szB ((l.getD k e0).2.2.1 + e.2.2.1) 1099511627776 = true›, Bool.true_and]) | exact congrArg (fun b => SV.v (Value.bool b)) (by rw [‹szB ((l.getD k e0).2.2.1 + e.2.2.1) 1099511627776 = false›, Bool.false_and]) | trace_state
          · have hz' : ¬ zeroE (plusE (l.getD k e0) e) = true := by
              intro h0
              unfold zeroE plusE at h0
              rw [Bool.and_eq_true] at h0
              exact hz ⟨of_decide_eq_true h0.1, of_decide_eq_true h0.2⟩
            rw [if_neg hz'] at hst
            (conv=>whnf);repeat' (first|((with_reducible refine isC ?_);first|((with_reducible refine CallX_pure (Size_x _ _ ?_ ?_) ?_)<;>first|omega|with_reducible refine isP ?_|conv=>whnf))|((with_reducible refine isV ?_);first|((first|refine ValX_index tabOk rfl (ArgN.mem hpre (by decide)) rfl ?_ ?_ ?_|(with_reducible refine nat_idx ?_);refine ValX_loadEn _ _ (e0) tabOk rfl rfl rfl rfl (ArgN.mem hpre (by decide)) ?_ ?_ ?_|refine ValX_loadE _ _ (e0) tabOk rfl rfl rfl rfl (ArgN.mem hpre (by decide)) ?_ ?_ ?_)<;>first|rfl|omega|with_reducible refine isP ?_|conv=>whnf)|((first|(with_reducible refine nat_idxF ?_);refine ValX_loadGn _ _ (e0) _ tabOk rfl rfl rfl (ArgN.mem hpre (by decide)) ?_ ?_ rfl rfl ?_|refine ValX_loadG _ _ (e0) _ tabOk rfl rfl rfl (ArgN.mem hpre (by decide)) ?_ ?_ rfl rfl ?_)<;>first|omega|with_reducible refine isP ?_|conv=>whnf)|((first|(with_reducible refine nat_idxF ?_);refine ValX_loadFn _ _ (e0) _ tabOk rfl rfl rfl (ArgN.mem hpre (by decide)) ?_ ?_ rfl ?_|refine ValX_loadF _ _ (e0) _ tabOk rfl rfl rfl (ArgN.mem hpre (by decide)) ?_ ?_ rfl ?_)<;>first|omega|(simp;omega)|with_reducible refine isP ?_|conv=>whnf)|((refine ValX_index tabOk rfl (ArgN.mem hpre (by decide)) rfl ?_ ?_ ?_)<;>first|rfl|omega|with_reducible refine isP ?_|conv=>whnf))|((with_reducible refine isO ?_);first|((refine OpX_append 1 tabOk rfl rfl rfl rfl (ArgSl.row 3 rfl) (by decide) ?_ ?_ ?_)<;>first|omega|(dsimp only;omega)|(intro A' c';conv=>whnf))|((first|(refine OpX_build0 tabOk rfl rfl rfl ?_);intro bN|(refine OpX_build tabOk rfl rfl rfl rfl rfl ?_);intro bN);conv=>whnf))|((with_reducible refine isW ?_;first|refine xwr_ok (by omega) (by omega) ?_|refine xwr_raw ?_);conv=>whnf)|((first|refine DrawX_s tabOk folOk ?_|refine DrawS_i (by kernel_rfl) ?_|with_reducible refine andX_i ?_ ?_)<;>conv=>whnf)|with_reducible exact rfl|((with_reducible first|refine xif_kt (by assumption) ?_|refine xif_kf (by assumption) ?_);conv=>whnf)|((with_reducible refine xif_s ?_ ?_)<;>(intro hb;(try simp (disch:=omega) only [hbS] at hb)<;>conv=>whnf)))
            all_goals try (exfalso; omega)
            all_goals try (exfalso; rw [h1a, h1b] at hb; simp at hb; done)
            all_goals try (simp only [w1, w2, h1a, h1b] at *)
            all_goals try (exfalso; simp_all; done)
            all_goals
              refine ⟨(k + 1, A', c'), [0, 1], by (try dsimp only); omega, ?_, by (try dsimp only); omega⟩
              dsimp only
              rw [hst]
              dsimp only
              rw [List.map_append, List.length_append]
              ((refine ⟨?_, ?_, ?_, ?_⟩) <;> (repeat' ((conv => whnf); apply And.intro)) <;> (try (first | exact trivial | decide)))
            all_goals first | rfl | exact fun _ _ h => h | (simp [SV.wf, SV.wfs]; done) | exact congrArg (fun b => SV.v (Value.bool b)) (by rw [‹szB ((l.getD k e0).2.2.1 + e.2.2.1) 1099511627776 = true›, Bool.true_and]) | exact congrArg (fun b => SV.v (Value.bool b)) (by rw [‹szB ((l.getD k e0).2.2.1 + e.2.2.1) 1099511627776 = false›, Bool.false_and]) | trace_state
        · have h1' : ((l.getD k e0).1, (l.getD k e0).2.1) ≠ (e.1, e.2.1) := h1
          by_cases h2 : befB e.cell (l.getD k e0).cell = true
          · have hput : putS e (o, false, ft) (l.getD k e0) = (o ++ [e] ++ [l.getD k e0], true, ft) := by
              unfold putS
              rw [if_neg (fun h => h1 h.2), if_pos ⟨rfl, h2⟩]
            rw [hput] at hst
            clear hput hlk2
            (conv=>whnf);repeat' (first|((with_reducible refine isC ?_);first|((with_reducible refine CallX_pure (Before_x (_, _) (_, _)) ?_)<;>first|omega|with_reducible refine isP ?_|conv=>whnf))|((with_reducible refine isV ?_);first|((first|refine ValX_index tabOk rfl (ArgN.mem hpre (by decide)) rfl ?_ ?_ ?_|(with_reducible refine nat_idx ?_);refine ValX_loadEn _ _ (e0) tabOk rfl rfl rfl rfl (ArgN.mem hpre (by decide)) ?_ ?_ ?_|refine ValX_loadE _ _ (e0) tabOk rfl rfl rfl rfl (ArgN.mem hpre (by decide)) ?_ ?_ ?_)<;>first|rfl|omega|with_reducible refine isP ?_|conv=>whnf)|((first|(with_reducible refine nat_idxF ?_);refine ValX_loadGn _ _ (e0) _ tabOk rfl rfl rfl (ArgN.mem hpre (by decide)) ?_ ?_ rfl rfl ?_|refine ValX_loadG _ _ (e0) _ tabOk rfl rfl rfl (ArgN.mem hpre (by decide)) ?_ ?_ rfl rfl ?_)<;>first|omega|with_reducible refine isP ?_|conv=>whnf)|((first|(with_reducible refine nat_idxF ?_);refine ValX_loadFn _ _ (e0) _ tabOk rfl rfl rfl (ArgN.mem hpre (by decide)) ?_ ?_ rfl ?_|refine ValX_loadF _ _ (e0) _ tabOk rfl rfl rfl (ArgN.mem hpre (by decide)) ?_ ?_ rfl ?_)<;>first|omega|(simp;omega)|with_reducible refine isP ?_|conv=>whnf)|((refine ValX_index tabOk rfl (ArgN.mem hpre (by decide)) rfl ?_ ?_ ?_)<;>first|rfl|omega|with_reducible refine isP ?_|conv=>whnf))|((with_reducible refine isO ?_);first|((first|refine OpX_append 1 tabOk rfl rfl rfl rfl (ArgSl.row 2 rfl) (by decide) ?_ ?_ ?_|refine OpX_append 1 tabOk rfl rfl rfl rfl (ArgSl.row 3 rfl) (by decide) ?_ ?_ ?_)<;>first|omega|(dsimp only;omega)|(intro A' c';conv=>whnf))|((first|(refine OpX_build0 tabOk rfl rfl rfl ?_);intro bN|(refine OpX_build tabOk rfl rfl rfl rfl rfl ?_);intro bN);conv=>whnf))|((with_reducible refine isW ?_;first|refine xwr_ok (by omega) (by omega) ?_|refine xwr_raw ?_);conv=>whnf)|((first|refine DrawX_s tabOk folOk ?_|refine DrawS_i (by kernel_rfl) ?_|with_reducible refine andX_i ?_ ?_)<;>conv=>whnf)|with_reducible exact rfl|((with_reducible first|refine xif_kt (by assumption) ?_|refine xif_kf (by assumption) ?_);conv=>whnf)|((with_reducible refine xif_s ?_ ?_)<;>(intro hb;(try simp (disch:=omega) only [hbS] at hb)<;>conv=>whnf)))
            all_goals try (exfalso; omega)
            all_goals try (exfalso; exact h1' (Prod.ext hb.1 hb.2.1))
            all_goals try (exfalso; rw [show befB (e.1, e.2.1) ((l.getD k e0).1, (l.getD k e0).2.1) = true from h2] at hb; cases hb; done)
            all_goals
              refine ⟨(k + 1, A', c'), [0, 1], by (try dsimp only); omega, ?_, by (try dsimp only); omega⟩
              dsimp only
              rw [hst]
              dsimp only
              rw [List.map_append, List.length_append, List.map_append, List.length_append]
              ((refine ⟨?_, ?_, ?_, ?_⟩) <;> (repeat' ((conv => whnf); apply And.intro)) <;> (try (first | exact trivial | decide)))
            all_goals first | rfl | exact fun _ _ h => h | (simp [SV.wf, SV.wfs]; done) | exact congrArg (fun b => SV.v (Value.bool b)) (by rw [‹szB ((l.getD k e0).2.2.1 + e.2.2.1) 1099511627776 = true›, Bool.true_and]) | exact congrArg (fun b => SV.v (Value.bool b)) (by rw [‹szB ((l.getD k e0).2.2.1 + e.2.2.1) 1099511627776 = false›, Bool.false_and]) | trace_state
          · have hput : putS e (o, false, ft) (l.getD k e0) = (o ++ [l.getD k e0], false, ft) := by
              unfold putS
              rw [if_neg (fun h => h1 h.2), if_neg (fun h => h2 h.2)]
            rw [hput] at hst
            clear hput hlk2
            (conv=>whnf);repeat' (first|((with_reducible refine isC ?_);first|((with_reducible refine CallX_pure (Before_x (_, _) (_, _)) ?_)<;>first|omega|with_reducible refine isP ?_|conv=>whnf))|((with_reducible refine isV ?_);first|((first|refine ValX_index tabOk rfl (ArgN.mem hpre (by decide)) rfl ?_ ?_ ?_|(with_reducible refine nat_idx ?_);refine ValX_loadEn _ _ (e0) tabOk rfl rfl rfl rfl (ArgN.mem hpre (by decide)) ?_ ?_ ?_|refine ValX_loadE _ _ (e0) tabOk rfl rfl rfl rfl (ArgN.mem hpre (by decide)) ?_ ?_ ?_)<;>first|rfl|omega|with_reducible refine isP ?_|conv=>whnf)|((first|(with_reducible refine nat_idxF ?_);refine ValX_loadGn _ _ (e0) _ tabOk rfl rfl rfl (ArgN.mem hpre (by decide)) ?_ ?_ rfl rfl ?_|refine ValX_loadG _ _ (e0) _ tabOk rfl rfl rfl (ArgN.mem hpre (by decide)) ?_ ?_ rfl rfl ?_)<;>first|omega|with_reducible refine isP ?_|conv=>whnf)|((first|(with_reducible refine nat_idxF ?_);refine ValX_loadFn _ _ (e0) _ tabOk rfl rfl rfl (ArgN.mem hpre (by decide)) ?_ ?_ rfl ?_|refine ValX_loadF _ _ (e0) _ tabOk rfl rfl rfl (ArgN.mem hpre (by decide)) ?_ ?_ rfl ?_)<;>first|omega|(simp;omega)|with_reducible refine isP ?_|conv=>whnf)|((refine ValX_index tabOk rfl (ArgN.mem hpre (by decide)) rfl ?_ ?_ ?_)<;>first|rfl|omega|with_reducible refine isP ?_|conv=>whnf))|((with_reducible refine isO ?_);first|((refine OpX_append 1 tabOk rfl rfl rfl rfl (ArgSl.row 2 rfl) (by decide) ?_ ?_ ?_)<;>first|omega|(dsimp only;omega)|(intro A' c';conv=>whnf))|((first|(refine OpX_build0 tabOk rfl rfl rfl ?_);intro bN|(refine OpX_build tabOk rfl rfl rfl rfl rfl ?_);intro bN);conv=>whnf))|((with_reducible refine isW ?_;first|refine xwr_ok (by omega) (by omega) ?_|refine xwr_raw ?_);conv=>whnf)|((first|refine DrawX_s tabOk folOk ?_|refine DrawS_i (by kernel_rfl) ?_|with_reducible refine andX_i ?_ ?_)<;>conv=>whnf)|with_reducible exact rfl|((with_reducible first|refine xif_kt (by assumption) ?_|refine xif_kf (by assumption) ?_);conv=>whnf)|((with_reducible refine xif_s ?_ ?_)<;>(intro hb;(try simp (disch:=omega) only [hbS] at hb)<;>conv=>whnf)))
            all_goals try (exfalso; omega)
            all_goals try (exfalso; exact h1' (Prod.ext hb.1 hb.2.1))
            all_goals try (exfalso; exact h2 hb)
            all_goals
              refine ⟨(k + 1, A', c'), [0, 1], by (try dsimp only); omega, ?_, by (try dsimp only); omega⟩
              dsimp only
              rw [hst]
              dsimp only
              rw [List.map_append, List.length_append]
              ((refine ⟨?_, ?_, ?_, ?_⟩) <;> (repeat' ((conv => whnf); apply And.intro)) <;> (try (first | exact trivial | decide)))
            all_goals first | rfl | exact fun _ _ h => h | (simp [SV.wf, SV.wfs]; done) | exact congrArg (fun b => SV.v (Value.bool b)) (by rw [‹szB ((l.getD k e0).2.2.1 + e.2.2.1) 1099511627776 = true›, Bool.true_and]) | exact congrArg (fun b => SV.v (Value.bool b)) (by rw [‹szB ((l.getD k e0).2.2.1 + e.2.2.1) 1099511627776 = false›, Bool.false_and]) | trace_state
    · obtain rfl : k = n := by omega
      specialize hln k (Nat.le_refl _)
      clear hst h0 hb1
      generalize st k = s at *
      obtain ⟨o, dn, ft⟩ := s
      have ho : o.length ≤ k + 1 := by cases dn <;> simp at hln <;> omega
      cases dn with
      | true =>
        (conv=>whnf);repeat' (first|((with_reducible refine isO ?_);first|((first|(refine OpX_build0 tabOk rfl rfl rfl ?_);intro bN|(refine OpX_build tabOk rfl rfl rfl rfl rfl ?_);intro bN);conv=>whnf))|((with_reducible refine isW ?_;first|refine xwr_ok (by omega) (by omega) ?_|refine xwr_raw ?_);conv=>whnf)|((first|refine DrawX_s tabOk folOk ?_|refine DrawS_i (by kernel_rfl) ?_|with_reducible refine andX_i ?_ ?_)<;>conv=>whnf)|with_reducible exact rfl|((with_reducible first|refine xif_kt (by assumption) ?_|refine xif_kf (by assumption) ?_);conv=>whnf)|((with_reducible refine xif_s ?_ ?_)<;>(intro hb;(try simp (disch:=omega) only [hbS] at hb)<;>conv=>whnf)))
        all_goals try (exfalso; omega)
        exact Fin_m (A', c') [1] ⟨rfl, by simp [SV.wf, SV.wfs]⟩ ⟨⟨rfl, rfl, rfl, rfl, rfl, rfl⟩, trivial⟩ (by decide) rfl
      | false =>
        dsimp only
        rw [if_neg (by simp), List.length_append, List.map_append]
        (conv=>whnf);repeat' (first|((with_reducible refine isO ?_);first|((refine OpX_append 1 tabOk rfl rfl rfl rfl (ArgSl.row 2 rfl) (by decide) ?_ ?_ ?_)<;>first|omega|(dsimp only;omega)|(intro A' c';conv=>whnf))|((first|(refine OpX_build0 tabOk rfl rfl rfl ?_);intro bN|(refine OpX_build tabOk rfl rfl rfl rfl rfl ?_);intro bN);conv=>whnf))|((with_reducible refine isW ?_;first|refine xwr_ok (by omega) (by omega) ?_|refine xwr_raw ?_);conv=>whnf)|((first|refine DrawX_s tabOk folOk ?_|refine DrawS_i (by kernel_rfl) ?_|with_reducible refine andX_i ?_ ?_)<;>conv=>whnf)|with_reducible exact rfl|((with_reducible first|refine xif_kt (by assumption) ?_|refine xif_kf (by assumption) ?_);conv=>whnf)|((with_reducible refine xif_s ?_ ?_)<;>(intro hb;(try simp (disch:=omega) only [hbS] at hb)<;>conv=>whnf)))
        all_goals try (exfalso; omega)
        exact Fin_m (A', c') [1] ⟨rfl, by simp [SV.wf, SV.wfs]⟩ ⟨⟨rfl, rfl, rfl, rfl, rfl, rfl⟩, trivial⟩ (by decide) rfl
theorem putE_len (l : List EntT) (e : EntT) : (putE l e).1.length ≤ l.length + 1 := by
  rw [putE_st e l rfl]
  have := stP_len e (l := l) l.length (Nat.le_refl _)
  generalize stP e l l.length = s at *
  obtain ⟨o, d, t⟩ := s
  cases d
  · simp at this ⊢
    omega
  · simp at this ⊢
    omega
theorem sum_m (f : Int) (hf : f = 1 ∨ f = -1) (A1 A2 : Option Addr) (c1 c2 : Nat) (a b : List EntT) {n m : Nat} (ha : a.length = n) (hb0 : b.length = m) (hn : n ≤ maxLen) (hm : m ≤ maxLen) :
    CallM Tryz.prog 72 [.v (.slice A1 n c1), .v (.slice A2 m c2), I f] (fun w M => ArgN w M A1 n 4 (a.map encE) ∧ ArgN w M A2 m 4 (b.map encE)) []
      (fun q : Option Addr × Nat => .t [.v (.slice q.1 (combE f a b).1.length q.2), I (combE f a b).2]) (fun q => [.row 34 4 q.1 (combE f a b).1.length q.2 ((combE f a b).1.map encE)]) := by
  have hn' := hn
  have hm' := hm
  unfold maxLen at hn' hm'
  rw [← rsum_eq hf]
  refine CallM.of (m := 0) Tryz.func72 rfl tabOk rfl rfl rfl rfl (by simp [SV.wfs, SV.wf]) fun w M π hpre => ?_
  obtain ⟨hp1, hp2⟩ := hpre
  have k1 := rVE_w A1 c1 a ha hn
  have k2 := rVE_w A2 c2 b hb0 hm
  cases hva : vE a with
  | false =>
    have e : rsumE f a b = ([], 1) := by unfold rsumE; rw [hva]; rfl
    rw [hva] at k1
    rw [e]
    (conv=>whnf);repeat' (first|((with_reducible refine isC ?_);first|(((with_reducible refine isF 32 ?_;refine CallX_w (k1) ?_ ?_);(focus exact ArgN.mem hp1 (by decide)));conv=>whnf))|((with_reducible refine isO ?_);first|((first|(refine OpX_build0 tabOk rfl rfl rfl ?_);intro bN|(refine OpX_build tabOk rfl rfl rfl rfl rfl ?_);intro bN);conv=>whnf))|((with_reducible refine isW ?_;first|refine xwr_ok (by omega) (by omega) ?_|refine xwr_raw ?_);conv=>whnf)|((first|refine DrawX_s tabOk folOk ?_|refine DrawS_i (by kernel_rfl) ?_|with_reducible refine andX_i ?_ ?_)<;>conv=>whnf)|with_reducible exact rfl|((with_reducible first|refine xif_kt (by assumption) ?_|refine xif_kf (by assumption) ?_);conv=>whnf)|((with_reducible refine xif_s ?_ ?_)<;>(intro hb;(try simp (disch:=omega) only [hbS] at hb)<;>conv=>whnf)))
    refine Fin_addNil 34 4 ?_
    exact Fin_m (none, 0) [0] ⟨rfl, by simp [SV.wf, SV.wfs]⟩ ⟨⟨rfl, rfl, rfl, rfl, rfl, rfl⟩, trivial⟩ (by decide) rfl
  | true =>
  cases hvb : vE b with
  | false =>
    have e : rsumE f a b = ([], 1) := by unfold rsumE; rw [hva, hvb]; rfl
    rw [hva] at k1
    rw [hvb] at k2
    rw [e]
    (conv=>whnf);repeat' (first|((with_reducible refine isC ?_);first|((first|(with_reducible refine isF 32 ?_;refine CallX_w (k1) ?_ ?_);(focus exact ArgN.mem hp1 (by decide))|(with_reducible refine isF 32 ?_;refine CallX_w (k2) ?_ ?_);(focus exact ArgN.mem hp2 (by decide)));conv=>whnf))|((with_reducible refine isO ?_);first|((first|(refine OpX_build0 tabOk rfl rfl rfl ?_);intro bN|(refine OpX_build tabOk rfl rfl rfl rfl rfl ?_);intro bN);conv=>whnf))|((with_reducible refine isW ?_;first|refine xwr_ok (by omega) (by omega) ?_|refine xwr_raw ?_);conv=>whnf)|((first|refine DrawX_s tabOk folOk ?_|refine DrawS_i (by kernel_rfl) ?_|with_reducible refine andX_i ?_ ?_)<;>conv=>whnf)|with_reducible exact rfl|((with_reducible first|refine xif_kt (by assumption) ?_|refine xif_kf (by assumption) ?_);conv=>whnf)|((with_reducible refine xif_s ?_ ?_)<;>(intro hb;(try simp (disch:=omega) only [hbS] at hb)<;>conv=>whnf)))
    refine Fin_addNil 34 4 ?_
    exact Fin_m (none, 0) [0] ⟨rfl, by simp [SV.wf, SV.wfs]⟩ ⟨⟨rfl, rfl, rfl, rfl, rfl, rfl⟩, trivial⟩ (by decide) rfl
  | true =>
    have la := vE_length hva
    have lb := vE_length hvb
    have e : rsumE f a b = sumG f a b := by unfold rsumE; rw [hva, hvb]; rfl
    rw [hva] at k1
    rw [hvb] at k2
    rw [e]
    have hga : ∀ y ∈ a, goodB y = true := fun y hy => vE_good hva hy
    (conv=>whnf);repeat' (first|((with_reducible refine isC ?_);first|((first|(with_reducible refine isF 32 ?_;refine CallX_w (k1) ?_ ?_);(focus exact ArgN.mem hp1 (by decide))|(with_reducible refine isF 32 ?_;refine CallX_w (k2) ?_ ?_);(focus exact ArgN.mem hp2 (by decide)));conv=>whnf))|((with_reducible refine isO ?_);first|((refine OpX_append 0 tabOk rfl rfl rfl rfl (ArgN.mem hp1 (by decide)) (by decide) ?_ ?_ ?_)<;>first|omega|(dsimp only;omega)|(intro A' c';conv=>whnf))|((first|(refine OpX_build0 tabOk rfl rfl rfl ?_);intro bN|(refine OpX_build tabOk rfl rfl rfl rfl rfl ?_);intro bN);conv=>whnf))|((with_reducible refine isW ?_;first|refine xwr_ok (by omega) (by omega) ?_|refine xwr_raw ?_);conv=>whnf)|((first|refine DrawX_s tabOk folOk ?_|refine DrawS_i (by kernel_rfl) ?_|with_reducible refine andX_i ?_ ?_)<;>conv=>whnf)|with_reducible exact rfl|((with_reducible first|refine xif_kt (by assumption) ?_|refine xif_kf (by assumption) ?_);conv=>whnf)|((with_reducible refine xif_s ?_ ?_)<;>(intro hb;(try simp (disch:=omega) only [hbS] at hb)<;>conv=>whnf)))
    rw [Nat.zero_add, List.nil_append]
    generalize hR : sumG f a b = R at *
    refine LoopX_inv tabOk (α := Nat × Option Addr × Nat × List EntT) (fun p => p.1 ≤ m ∧ (∀ y ∈ p.2.2.2, goodB y = true) ∧ p.2.2.2.length ≤ n + p.1 ∧ sumG f p.2.2.2 (b.drop p.1) = R) (fun p => [(9, I p.1), (1, .v (.slice A2 m c2)), (2, I f), (8, .v (.slice p.2.1 p.2.2.2.length p.2.2.1))]) (fun p => [.row 34 4 p.2.1 p.2.2.2.length p.2.2.1 (p.2.2.2.map encE)]) (fun p => m - p.1) (0, A', c', a) [0] ⟨by (try dsimp only); omega, hga, by (try dsimp only); omega, by rw [← hR]; rfl⟩ ?_ ?_
    · dsimp only
      rw [ha]
      ((refine ⟨?_, ?_, ?_, ?_⟩) <;> (repeat' ((conv => whnf); apply And.intro)) <;> (try (first | exact trivial | decide)))
      all_goals first | rfl | exact fun _ _ h => h | (simp [SV.wf, SV.wfs]; done) | trace_state
    · clear hR hga k1 k2 e
      rintro ⟨j, A', c', out⟩ ⟨hj, hg, hlen, hs⟩
      dsimp only at hj hg hlen hs ⊢
      by_cases hlt : j < m
      · have hd : b.drop j = b.getD j e0 :: b.drop (j + 1) := by
          rw [List.drop_eq_getElem_cons (show j < b.length by omega)]
          simp [show j < b.length by omega]
        rw [hd] at hs
        have hxm : b.getD j e0 ∈ b := by simp [show j < b.length by omega]
        have hxg := vE_good hvb hxm
        obtain ⟨b1, b2⟩ := ent_bd hvb (i := j) (by omega)
        have b1' := mul_f hf b1
        have b2' := mul_f hf b2
        have hbo : ∀ i, i < out.length → (-2000000000000000000 ≤ (out.getD i e0).2.2.1 ∧ (out.getD i e0).2.2.1 ≤ 2000000000000000000) ∧ (-2000000000000000000 ≤ (out.getD i e0).2.2.2 ∧ (out.getD i e0).2.2.2 ≤ 2000000000000000000) := by
          intro i hi
          have := cnt_bd (good_count (hg (out.getD i e0) (by simp [hi])))
          omega
        have kp := put_m A' c' out ((b.getD j e0).1, (b.getD j e0).2.1, f * (b.getD j e0).2.2.1, f * (b.getD j e0).2.2.2) (n := out.length) rfl (by omega) hbo (by dsimp only; omega)
        have hall := put_all hf hg hxg
        have hpl := putE_len out (mulE f (b.getD j e0))
        have hm1 : mulE f (b.getD j e0) = ((b.getD j e0).1, (b.getD j e0).2.1, f * (b.getD j e0).2.2.1, f * (b.getD j e0).2.2.2) := rfl
        have hs' : (if (putE out (mulE f (b.getD j e0))).2 then sumG f (putE out (mulE f (b.getD j e0))).1 (b.drop (j + 1)) else ([], 2)) = R := hs
        rw [hm1] at hs' hall hpl
        dsimp only at kp
        clear hs hm1 hd
        generalize putE out ((b.getD j e0).1, (b.getD j e0).2.1, f * (b.getD j e0).2.2.1, f * (b.getD j e0).2.2.2) = r at *
        (conv=>whnf);repeat' (first|((with_reducible refine isC ?_);first|(((with_reducible refine isF 70 ?_;refine CallX_m (kp) [] ?_ ?_ ?_ ?_ ?_);(focus exact rfl);(focus exact trivial);(focus decide);(focus exact fun σ fp w hm => ArgN.row 0 rfl (m := 0) (fun j hj => by omega) σ fp w hm);intro q;obtain ⟨A_1, c_1⟩ := q;dsimp only);conv=>whnf))|((with_reducible refine isV ?_);first|((first|refine ValX_index tabOk rfl (ArgN.mem hp2 (by decide)) rfl ?_ ?_ ?_|(with_reducible refine nat_idx ?_);refine ValX_loadEn _ _ (e0) tabOk rfl rfl rfl rfl (ArgN.mem hp2 (by decide)) ?_ ?_ ?_|refine ValX_loadE _ _ (e0) tabOk rfl rfl rfl rfl (ArgN.mem hp2 (by decide)) ?_ ?_ ?_)<;>first|rfl|omega|with_reducible refine isP ?_|conv=>whnf)|((first|(with_reducible refine nat_idxF ?_);refine ValX_loadGn _ _ (e0) _ tabOk rfl rfl rfl (ArgN.mem hp2 (by decide)) ?_ ?_ rfl rfl ?_|refine ValX_loadG _ _ (e0) _ tabOk rfl rfl rfl (ArgN.mem hp2 (by decide)) ?_ ?_ rfl rfl ?_)<;>first|omega|with_reducible refine isP ?_|conv=>whnf)|((first|(with_reducible refine nat_idxF ?_);refine ValX_loadFn _ _ (e0) _ tabOk rfl rfl rfl (ArgN.mem hp2 (by decide)) ?_ ?_ rfl ?_|refine ValX_loadF _ _ (e0) _ tabOk rfl rfl rfl (ArgN.mem hp2 (by decide)) ?_ ?_ rfl ?_)<;>first|omega|(simp;omega)|with_reducible refine isP ?_|conv=>whnf)|((refine ValX_index tabOk rfl (ArgN.mem hp2 (by decide)) rfl ?_ ?_ ?_)<;>first|rfl|omega|with_reducible refine isP ?_|conv=>whnf))|((with_reducible refine isO ?_);first|((first|(refine OpX_build0 tabOk rfl rfl rfl ?_);intro bN|(refine OpX_build tabOk rfl rfl rfl rfl rfl ?_);intro bN);conv=>whnf))|((with_reducible refine isW ?_;first|refine xwr_ok (by omega) (by omega) ?_|refine xwr_raw ?_);conv=>whnf)|((first|refine DrawX_s tabOk folOk ?_|refine DrawS_i (by kernel_rfl) ?_|with_reducible refine andX_i ?_ ?_)<;>conv=>whnf)|with_reducible exact rfl|((with_reducible first|refine xif_kt (by assumption) ?_|refine xif_kf (by assumption) ?_);conv=>whnf)|((with_reducible refine xif_s ?_ ?_)<;>(intro hb;(try simp (disch:=omega) only [hbS] at hb)<;>conv=>whnf)))
        all_goals try (exfalso; omega)
        · rw [if_neg (by simp [hb])] at hs'
          rw [← hs']
          refine Fin_addNil 34 4 ?_
          exact Fin_m (none, 0) [2] ⟨rfl, by simp [SV.wf, SV.wfs]⟩ ⟨⟨rfl, rfl, rfl, rfl, rfl, rfl⟩, trivial⟩ (by decide) rfl
        · rw [if_pos hb] at hs'
          refine ⟨(j + 1, A_1, c_1, r.1), [1], ⟨by (try dsimp only); omega, hall hb, by (try dsimp only); omega, hs'⟩, ?_, by (try dsimp only); omega⟩
          dsimp only
          ((refine ⟨?_, ?_, ?_, ?_⟩) <;> (repeat' ((conv => whnf); apply And.intro)) <;> (try (first | exact trivial | decide)))
          all_goals first | rfl | exact fun _ _ h => h | (simp [SV.wf, SV.wfs]; done) | trace_state
      · obtain rfl : j = m := by omega
        rw [List.drop_of_length_le (by omega)] at hs
        have hs' : (if 1048576 < out.length then ([], 6) else (out, 0)) = R := hs
        clear hs
        (conv=>whnf);repeat' (first|((with_reducible refine isO ?_);first|((first|(refine OpX_build0 tabOk rfl rfl rfl ?_);intro bN|(refine OpX_build tabOk rfl rfl rfl rfl rfl ?_);intro bN);conv=>whnf))|((with_reducible refine isW ?_;first|refine xwr_ok (by omega) (by omega) ?_|refine xwr_raw ?_);conv=>whnf)|((first|refine DrawX_s tabOk folOk ?_|refine DrawS_i (by kernel_rfl) ?_|with_reducible refine andX_i ?_ ?_)<;>conv=>whnf)|with_reducible exact rfl|((with_reducible first|refine xif_kt (by assumption) ?_|refine xif_kf (by assumption) ?_);conv=>whnf)|((with_reducible refine xif_s ?_ ?_)<;>(intro hb;(try simp (disch:=omega) only [hbS] at hb)<;>conv=>whnf)))
        all_goals try (exfalso; omega)
        · rw [if_pos (by omega)] at hs'
          rw [← hs']
          refine Fin_addNil 34 4 ?_
          exact Fin_m (none, 0) [1] ⟨rfl, by simp [SV.wf, SV.wfs]⟩ ⟨⟨rfl, rfl, rfl, rfl, rfl, rfl⟩, trivial⟩ (by decide) rfl
        · rw [if_neg (by omega)] at hs'
          rw [← hs']
          exact Fin_m (A', c') [0] ⟨rfl, by simp [SV.wf, SV.wfs]⟩ ⟨⟨rfl, rfl, rfl, rfl, rfl, rfl⟩, trivial⟩ (by decide) rfl
theorem rAdd_m (A1 A2 : Option Addr) (c1 c2 : Nat) (a b : List EntT) {n m : Nat} (ha : a.length = n) (hb0 : b.length = m) (hn : n ≤ maxLen) (hm : m ≤ maxLen) :
    CallM Tryz.prog 34 [.v (.slice A1 n c1), .v (.slice A2 m c2)] (fun w M => ArgN w M A1 n 4 (a.map encE) ∧ ArgN w M A2 m 4 (b.map encE)) []
      (fun q : Option Addr × Nat => .t [.v (.slice q.1 (combE 1 a b).1.length q.2), I (combE 1 a b).2]) (fun q => [.row 34 4 q.1 (combE 1 a b).1.length q.2 ((combE 1 a b).1.map encE)]) := by
  have hc := sum_m 1 (.inl rfl) A1 A2 c1 c2 a b ha hb0 hn hm
  generalize combE 1 a b = r at *
  refine CallM.of (m := 0) Tryz.func34 rfl tabOk rfl rfl rfl rfl (by simp [SV.wfs, SV.wf]) fun w M π hpre => ?_
  obtain ⟨hp1, hp2⟩ := hpre
  (conv=>whnf);repeat' (first|with_reducible exact rfl|((with_reducible first|refine xif_kt (by assumption) ?_|refine xif_kf (by assumption) ?_);conv=>whnf)|((with_reducible refine xif_s ?_ ?_)<;>(intro hb;(try simp (disch:=omega) only [hbS] at hb)<;>conv=>whnf)))
  refine CallX_m hc [] rfl trivial (by decide) (fun σ fp w hm => ⟨ArgN.on hp1 (by decide) (m := 0) (fun j hj => by omega) σ fp w hm, ArgN.on hp2 (by decide) (m := 0) (fun j hj => by omega) σ fp w hm⟩) ?_
  intro q
  (conv=>whnf);repeat' (first|with_reducible exact rfl|((with_reducible first|refine xif_kt (by assumption) ?_|refine xif_kf (by assumption) ?_);conv=>whnf)|((with_reducible refine xif_s ?_ ?_)<;>(intro hb;(try simp (disch:=omega) only [hbS] at hb)<;>conv=>whnf)))
  exact Fin_m q [0] ⟨rfl, by simp [SV.wf, SV.wfs]⟩ ⟨⟨rfl, rfl, rfl, rfl, rfl, rfl⟩, trivial⟩ (by decide) rfl
end Go.Proofs.YtadichckbogcjaaGreatDoor.En
end
section
namespace Go.Proofs.YtadichckbogcjaaGreatDoor.En
open Go.RowKit
set_option maxRecDepth 100000
def poseB (p : PoseT) : Bool := szB p.1 1048576 && szB p.2.1 1048576 && decide (0 ≤ p.2.2) && decide (p.2.2 < 256)
theorem bPose_x (p : PoseT) : PureX Tryz.prog 63 [.a [I p.1, I p.2.1, I p.2.2]] (B (poseB p)) := by
  refine PureX.of Tryz.func63 rfl tabOk rfl rfl rfl (by simp [SV.wfs, SV.wf]) (by simp [SV.wfs, SV.wf]) fun w => ?_
  (conv=>whnf);repeat' (first|((with_reducible refine isC ?_);first|((with_reducible refine CallX_pure (Size_x _ _ ?_ ?_) ?_)<;>first|omega|with_reducible refine isP ?_|conv=>whnf))|with_reducible exact rfl|((with_reducible first|refine xif_kt (by assumption) ?_|refine xif_kf (by assumption) ?_);conv=>whnf)|((with_reducible refine xif_s ?_ ?_)<;>(intro hb;(try simp (disch:=omega) only [hbS] at hb)<;>conv=>whnf)))
  all_goals refine Fin_pure rfl (B_eq ?_) trivial
  all_goals first | (simp [poseB, *]; done) | (simp [poseB, *]; omega)
theorem bFloor_x (a : Int) (h : -1000000000000 ≤ a ∧ a ≤ 1000000000000) : PureX Tryz.prog 67 [I a, I 64] (I (a / 64)) := by
  have hf := floor_t (a := a) (b := 64) (by omega)
  by_cases h0 : 0 ≤ a
  · have hm := Int.emod_nonneg a (show (64 : Int) ≠ 0 by omega)
    refine PureX.of Tryz.func67 rfl tabOk rfl rfl rfl (by simp [SV.wfs, SV.wf]) (by simp [SV.wfs, SV.wf]) fun w => ?_
    (conv=>whnf);repeat' (first|((with_reducible refine isW ?_;first|refine xwr_ok (by omega) (by omega) ?_|refine xwr_raw ?_);conv=>whnf)|((with_reducible refine isQ ?_;first|refine xquo_nn (by omega) (by omega) (by omega) ?_|refine xquo_ok (by omega) (by omega) (by omega) ?_|refine xquo_raw (by omega) ?_);conv=>whnf)|((with_reducible refine isR ?_;first|refine xrem_nn (by omega) (by omega) ?_|refine xrem_raw (by omega) ?_);conv=>whnf)|((with_reducible refine need_i ?_ ?_)<;>first|omega|conv=>whnf)|with_reducible exact rfl|((with_reducible first|refine xif_kt (by assumption) ?_|refine xif_kf (by assumption) ?_);conv=>whnf)|((with_reducible refine xif_s ?_ ?_)<;>(intro hb;(try simp (disch:=omega) only [hbS] at hb)<;>conv=>whnf)))
    all_goals try (exfalso; omega)
    exact Fin_pure rfl rfl trivial
  · have hq : -4611686018427387904 ≤ a.tdiv 64 ∧ a.tdiv 64 ≤ 4611686018427387904 := by
      have l1 : (a.tdiv 64).natAbs ≤ a.natAbs := by rw [Int.natAbs_tdiv]; exact Nat.div_le_self _ _
      omega
    refine PureX.of Tryz.func67 rfl tabOk rfl rfl rfl (by simp [SV.wfs, SV.wf]) (by simp [SV.wfs, SV.wf]) fun w => ?_
    (conv=>whnf);repeat' (first|((with_reducible refine isW ?_;first|refine xwr_ok (by omega) (by omega) ?_|refine xwr_raw ?_);conv=>whnf)|((with_reducible refine isQ ?_;first|refine xquo_nn (by omega) (by omega) (by omega) ?_|refine xquo_ok (by omega) (by omega) (by omega) ?_|refine xquo_raw (by omega) ?_);conv=>whnf)|((with_reducible refine isR ?_;first|refine xrem_nn (by omega) (by omega) ?_|refine xrem_raw (by omega) ?_);conv=>whnf)|((with_reducible refine need_i ?_ ?_)<;>first|omega|conv=>whnf)|with_reducible exact rfl|((with_reducible first|refine xif_kt (by assumption) ?_|refine xif_kf (by assumption) ?_);conv=>whnf)|((with_reducible refine xif_s ?_ ?_)<;>(intro hb;(try simp (disch:=omega) only [hbS] at hb)<;>conv=>whnf)))
    · refine Fin_pure rfl (I_eq ?_) trivial
      exact hf.1 hb
    · refine Fin_pure rfl (I_eq ?_) trivial
      exact hf.2 hb
theorem bSquare_x (c : CellT) (h : -1000000000000 ≤ c.1 ∧ c.1 ≤ 1000000000000 ∧ -1000000000000 ≤ c.2 ∧ c.2 ≤ 1000000000000) : PureX Tryz.prog 69 [.a [I c.1, I c.2]] (.a [I (c.1 * 64), I (c.2 * 64), I (c.1 * 64 + 64), I (c.2 * 64 + 64)]) := by
  refine PureX.of Tryz.func69 rfl tabOk rfl rfl rfl (by simp [SV.wfs, SV.wf]) (by simp [SV.wfs, SV.wf]) fun w => ?_
  (conv=>whnf);repeat' (first|((with_reducible refine isW ?_;first|refine xwr_ok (by omega) (by omega) ?_|refine xwr_raw ?_);conv=>whnf)|with_reducible exact rfl|((with_reducible first|refine xif_kt (by assumption) ?_|refine xif_kf (by assumption) ?_);conv=>whnf)|((with_reducible refine xif_s ?_ ?_)<;>(intro hb;(try simp (disch:=omega) only [hbS] at hb)<;>conv=>whnf)))
  all_goals try (exfalso; omega)
  exact Fin_pure rfl rfl (by simp [SV.wf, SV.wfs])
end Go.Proofs.YtadichckbogcjaaGreatDoor.En
end
