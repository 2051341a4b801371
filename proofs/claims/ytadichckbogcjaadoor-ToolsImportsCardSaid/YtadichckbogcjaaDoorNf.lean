/- The reference's integers: trim, Norm, Of, Text. -/
import Derived.Test.YtadichckbogcjaaDoorNw
import Derived.Test.YtadichckbogcjaaDoorEc
set_option linter.all false
namespace Go.Proofs.YtadichckbogcjaaDoor.En
open Go.RowKit
set_option maxRecDepth 100000

theorem ArgSl.takeN {w : World} {A : Option Addr} {n sz : Nat} {els : List (List Value)} (h : ArgSl w A n sz els) {m : Nat} (hm : m ≤ n) : ArgSl w A m sz (els.take m) := by
  refine ⟨by rw [List.length_take, h.len]; omega, fun e he => h.size e (List.mem_of_mem_take he), fun e he => h.one e (List.mem_of_mem_take he), fun hn => ?_⟩
  obtain ⟨b, o, hA, hc⟩ := h.at_ (by omega)
  refine ⟨b, o, hA, fun i e hi => hc i e ?_⟩
  rw [List.getElem?_take] at hi
  split at hi
  · exact hi
  · cases hi
theorem row_capN {C : Ctx} {ob : List OB} {e sz : Nat} {A : Option Addr} {n c : Nat} {els : List (List Value)} (j : Nat) (hj : nth ob j = some (.row e sz A n c els)) : ∀ σ fp w, Mem C σ fp ob w → n ≤ c := by
  intro σ fp w hm
  obtain ⟨⟨hown, _⟩, _⟩ := nth_row hm hj
  rcases hown.2 with ⟨h, h0⟩ | ⟨g, cap, cur, hsl, _, _, hnc, _⟩
  · simp at h
    omega
  · simp at hsl
    omega
abbrev nI (neg : Bool) (A : Option Addr) (n c : Nat) : SV := .a [B neg, .v (.slice A n c)]
set_option maxHeartbeats 1000000 in
theorem trim_m (A : Option Addr) (c : Nat) (m : List Int) {n : Nat} (hl : m.length = n) (hn : n ≤ 1000000) :
    CallM Tryd.prog 74 [.v (.slice A n c)] (fun w M => ArgN w M A n 1 (m.map encW) ∧ n ≤ c) []
      (fun q : Option Addr × Nat => .v (.slice q.1 (trW m).length q.2)) (fun q => [.row 102 1 q.1 (trW m).length q.2 ((trW m).map encW)]) := by
  refine CallM.of (m := 0) Tryd.func74 rfl tabOk rfl rfl rfl rfl (by simp [SV.wfs, SV.wf]) fun w M π hpre => ?_
  obtain ⟨hp, hc⟩ := hpre
  (conv=>whnf);repeat' (first|((with_reducible refine isO ?_);first|((first|(refine OpX_build0 tabOk rfl rfl rfl ?_);intro bN|(refine OpX_build tabOk rfl rfl rfl rfl rfl ?_);intro bN);conv=>whnf))|((first|(with_reducible refine isU ?_;first|refine xwru_64 (by omega) (by omega) ?_|refine xwru_32 (by omega) (by omega) ?_|refine xwru_64m ?_|refine xwru_32m ?_)|(with_reducible refine isUq ?_;refine xquou_nn (by omega) (by omega) (by omega) ?_)|(with_reducible refine isUr ?_;refine xremu_nn (by omega) (by omega) ?_)|(with_reducible refine isK ?_;first|refine xcv_u32 (by omega) (by omega) ?_|refine xcv_u32m ?_|refine xcv_u64 (by omega) (by omega) ?_|refine xcv_u64m ?_)|(with_reducible refine isS ?_;refine xshr_32 ?_));conv=>whnf)|((with_reducible refine isW ?_;first|refine xwr_ok (by omega) (by omega) ?_|refine xwr_raw ?_);conv=>whnf)|with_reducible exact rfl|((with_reducible first|refine xif_kt (by assumption) ?_|refine xif_kf (by assumption) ?_);conv=>whnf)|((with_reducible refine xif_s ?_ ?_)<;>(intro hb;(try simp (disch:=omega) only [hbS] at hb)<;>conv=>whnf)))
  refine LoopX_inv tabOk (α := Nat) (fun k => k ≤ n ∧ trW (m.take k) = trW m) (fun k => [(0, .v (.slice A k c))]) (fun _ => []) (fun k => k) n [] ⟨Nat.le_refl _, by rw [List.take_of_length_le (by omega)]⟩ ?_ ?_
  · ((refine ⟨?_, ?_, ?_, ?_⟩) <;> (repeat' ((conv => whnf); apply And.intro)) <;> (try (first | exact trivial | decide)))
    all_goals first | rfl | exact fun _ _ h => h | (simp [SV.wf, SV.wfs]; done) | trace_state
  · rintro k ⟨hk, ht⟩
    have hA : ∀ {ob : List OB}, ∀ σ fp w', Mem ⟨Tryd.prog, tab, Tryd.f74.ntmps, w, M, 0, π, false⟩ σ fp ob w' → ArgSl w' A k 1 ((m.take k).map encW) := fun {ob} σ fp w' hm => by
      have := ((hp.mem (C := ⟨Tryd.prog, tab, Tryd.f74.ntmps, w, M, 0, π, false⟩) (by decide) σ fp w' hm)).takeN hk
      rwa [← List.map_take] at this
    have htl : (m.take k).length = k := by rw [List.length_take]; omega
    by_cases h0 : k = 0
    · subst h0
      rw [show trW (m.take 0) = [] from rfl] at ht
      rw [← ht]
      (conv=>whnf);repeat' (first|((with_reducible refine isO ?_);first|((refine OpX_append 0 tabOk rfl rfl rfl rfl (hA) (by decide) ?_ ?_ ?_)<;>first|omega|(dsimp only;omega)|(intro A' c';conv=>whnf))|((first|(refine OpX_build0 tabOk rfl rfl rfl ?_);intro bN|(refine OpX_build tabOk rfl rfl rfl rfl rfl ?_);intro bN);conv=>whnf))|((first|(with_reducible refine isU ?_;first|refine xwru_64 (by omega) (by omega) ?_|refine xwru_32 (by omega) (by omega) ?_|refine xwru_64m ?_|refine xwru_32m ?_)|(with_reducible refine isUq ?_;refine xquou_nn (by omega) (by omega) (by omega) ?_)|(with_reducible refine isUr ?_;refine xremu_nn (by omega) (by omega) ?_)|(with_reducible refine isK ?_;first|refine xcv_u32 (by omega) (by omega) ?_|refine xcv_u32m ?_|refine xcv_u64 (by omega) (by omega) ?_|refine xcv_u64m ?_)|(with_reducible refine isS ?_;refine xshr_32 ?_));conv=>whnf)|((with_reducible refine isW ?_;first|refine xwr_ok (by omega) (by omega) ?_|refine xwr_raw ?_);conv=>whnf)|with_reducible exact rfl|((with_reducible first|refine xif_kt (by assumption) ?_|refine xif_kf (by assumption) ?_);conv=>whnf)|((with_reducible refine xif_s ?_ ?_)<;>(intro hb;(try simp (disch:=omega) only [hbS] at hb)<;>conv=>whnf)))
      all_goals try (exfalso; omega)
      all_goals exact Fin_m (A', c') [0] ⟨rfl, by simp [SV.wf, SV.wfs]⟩ ⟨⟨rfl, rfl, rfl, rfl, rfl, rfl⟩, trivial⟩ (by decide) rfl
    · have hsp : m.take k = m.take (k - 1) ++ [m.getD (k - 1) 0] := by
        have := List.take_succ_eq_append_getElem (show k - 1 < m.length by omega)
        rw [show k - 1 + 1 = k by omega] at this
        rw [this]
        simp [show k - 1 < m.length by omega]
      have hg : (m.take k).getD ((k : Int) - 1).toNat 0 = m.getD (k - 1) 0 := by
        rw [show ((k : Int) - 1).toNat = k - 1 by omega]
        simp [show k - 1 < k by omega]
      by_cases hz : m.getD (k - 1) 0 = 0
      · rw [hsp, hz, trW_zero] at ht
        rw [hz] at hg
        have hkk : ((k : Int) - 1) = ((k - 1 : Nat) : Int) := by omega
        (conv=>whnf);repeat' (first|((with_reducible refine isV ?_);first|((first|refine ValX_index tabOk rfl (hA) rfl ?_ ?_ ?_|(with_reducible refine nat_idx ?_);refine ValX_load1n _ _ (0) tabOk rfl rfl rfl (hA) ?_ ?_ ?_|refine ValX_load1 _ _ (0) tabOk rfl rfl rfl (hA) ?_ ?_ ?_)<;>first|rfl|omega|with_reducible refine isP ?_|conv=>whnf)|(rw [hkk]; refine ValX_sliceHi (m := k - 1) tabOk rfl rfl (by omega) ?_; conv => whnf))|((with_reducible refine isO ?_);first|((first|(refine OpX_build0 tabOk rfl rfl rfl ?_);intro bN|(refine OpX_build tabOk rfl rfl rfl rfl rfl ?_);intro bN);conv=>whnf))|((first|(with_reducible refine isU ?_;first|refine xwru_64 (by omega) (by omega) ?_|refine xwru_32 (by omega) (by omega) ?_|refine xwru_64m ?_|refine xwru_32m ?_)|(with_reducible refine isUq ?_;refine xquou_nn (by omega) (by omega) (by omega) ?_)|(with_reducible refine isUr ?_;refine xremu_nn (by omega) (by omega) ?_)|(with_reducible refine isK ?_;first|refine xcv_u32 (by omega) (by omega) ?_|refine xcv_u32m ?_|refine xcv_u64 (by omega) (by omega) ?_|refine xcv_u64m ?_)|(with_reducible refine isS ?_;refine xshr_32 ?_));conv=>whnf)|((with_reducible refine isW ?_;first|refine xwr_ok (by omega) (by omega) ?_|refine xwr_raw ?_);conv=>whnf)|(rw [hg]; conv => whnf)|with_reducible exact rfl|((with_reducible first|refine xif_kt (by assumption) ?_|refine xif_kf (by assumption) ?_);conv=>whnf)|((with_reducible refine xif_s ?_ ?_)<;>(intro hb;(try simp (disch:=omega) only [hbS] at hb)<;>conv=>whnf)))
        all_goals try (exfalso; omega)
        refine ⟨k - 1, [], ⟨by (try dsimp only); omega, ht⟩, ?_, by (try dsimp only); omega⟩
        ((refine ⟨?_, ?_, ?_, ?_⟩) <;> (repeat' ((conv => whnf); apply And.intro)) <;> (try (first | exact trivial | decide)))
        all_goals first | rfl | exact fun _ _ h => h | (simp [SV.wf, SV.wfs]; done) | trace_state
      · rw [hsp, trW_last _ hz, ← hsp] at ht
        rw [← ht, htl]
        (conv=>whnf);repeat' (first|((with_reducible refine isV ?_);first|((first|refine ValX_index tabOk rfl (hA) rfl ?_ ?_ ?_|(with_reducible refine nat_idx ?_);refine ValX_load1n _ _ (0) tabOk rfl rfl rfl (hA) ?_ ?_ ?_|refine ValX_load1 _ _ (0) tabOk rfl rfl rfl (hA) ?_ ?_ ?_)<;>first|rfl|omega|with_reducible refine isP ?_|conv=>whnf))|((with_reducible refine isO ?_);first|((refine OpX_append 0 tabOk rfl rfl rfl rfl (hA) (by decide) ?_ ?_ ?_)<;>first|omega|(dsimp only;omega)|(intro A' c';conv=>whnf))|((first|(refine OpX_build0 tabOk rfl rfl rfl ?_);intro bN|(refine OpX_build tabOk rfl rfl rfl rfl rfl ?_);intro bN);conv=>whnf))|((first|(with_reducible refine isU ?_;first|refine xwru_64 (by omega) (by omega) ?_|refine xwru_32 (by omega) (by omega) ?_|refine xwru_64m ?_|refine xwru_32m ?_)|(with_reducible refine isUq ?_;refine xquou_nn (by omega) (by omega) (by omega) ?_)|(with_reducible refine isUr ?_;refine xremu_nn (by omega) (by omega) ?_)|(with_reducible refine isK ?_;first|refine xcv_u32 (by omega) (by omega) ?_|refine xcv_u32m ?_|refine xcv_u64 (by omega) (by omega) ?_|refine xcv_u64m ?_)|(with_reducible refine isS ?_;refine xshr_32 ?_));conv=>whnf)|((with_reducible refine isW ?_;first|refine xwr_ok (by omega) (by omega) ?_|refine xwr_raw ?_);conv=>whnf)|with_reducible exact rfl|((with_reducible first|refine xif_kt (by assumption) ?_|refine xif_kf (by assumption) ?_);conv=>whnf)|((with_reducible refine xif_s ?_ ?_)<;>(intro hb;(try simp (disch:=omega) only [hbS] at hb)<;>conv=>whnf)))
        all_goals try (exfalso; omega)
        all_goals try (exfalso; simp only [hbS] at hb; exact hz (by rw [← hg]; exact hb))
        all_goals exact Fin_m (A', c') [0] ⟨by simp [SV.ren], by simp [SV.wf, SV.wfs]⟩ ⟨⟨rfl, rfl, rfl, by simp, rfl, rfl⟩, trivial⟩ (by decide) rfl
theorem Norm_m (neg : Bool) (A : Option Addr) (c : Nat) (m : List Int) {n : Nat} (hl : m.length = n) (hn : n ≤ 1000000) :
    CallM Tryd.prog 75 [nI neg A n c] (fun w M => ArgN w M A n 1 (m.map encW) ∧ n ≤ c) []
      (fun q : Option Addr × Nat => nI (neg && decide (0 < (trW m).length)) q.1 (trW m).length q.2) (fun q => [.row 102 1 q.1 (trW m).length q.2 ((trW m).map encW)]) := by
  have kt := trim_m A c m hl hn
  generalize trW m = r at *
  refine CallM.of (m := 0) Tryd.func75 rfl tabOk rfl rfl rfl rfl (by simp [SV.wfs, SV.wf]) fun w M π hpre => ?_
  obtain ⟨hp, hc⟩ := hpre
  have e : decide ((r.length : Int) > 0) = decide (0 < r.length) := by
    by_cases h : 0 < r.length
    · rw [decide_eq_true h, decide_eq_true (by omega)]
    · rw [decide_eq_false h, decide_eq_false (by omega)]
  cases neg
  · (conv=>whnf);repeat' (first|((with_reducible refine isC ?_);first|(((with_reducible refine isF 74 ?_);((refine CallX_m kt [] rfl trivial (by decide) (fun σ fp w' hm => ⟨ArgN.on hp (by decide) (m := 0) (fun j hj => by omega) σ fp w' hm, hc⟩) ?_; intro q; obtain ⟨A1, c1⟩ := q; dsimp only)));conv=>whnf))|with_reducible exact rfl|((with_reducible first|refine xif_kt (by assumption) ?_|refine xif_kf (by assumption) ?_);conv=>whnf)|((with_reducible refine xif_s ?_ ?_)<;>(intro hb;(try simp (disch:=omega) only [hbS] at hb)<;>conv=>whnf)))
    exact Fin_m (A1, c1) [2] ⟨rfl, by simp [SV.wf, SV.wfs]⟩ ⟨⟨rfl, rfl, rfl, rfl, rfl, rfl⟩, trivial⟩ (by decide) rfl
  · (conv=>whnf);repeat' (first|((with_reducible refine isC ?_);first|(((with_reducible refine isF 74 ?_);((refine CallX_m kt [] rfl trivial (by decide) (fun σ fp w' hm => ⟨ArgN.on hp (by decide) (m := 0) (fun j hj => by omega) σ fp w' hm, hc⟩) ?_; intro q; obtain ⟨A1, c1⟩ := q; dsimp only)));conv=>whnf))|with_reducible exact rfl|((with_reducible first|refine xif_kt (by assumption) ?_|refine xif_kf (by assumption) ?_);conv=>whnf)|((with_reducible refine xif_s ?_ ?_)<;>(intro hb;(try simp (disch:=omega) only [hbS] at hb)<;>conv=>whnf)))
    rw [e]
    exact Fin_m (A1, c1) [2] ⟨rfl, by simp [SV.wf, SV.wfs]⟩ ⟨⟨rfl, rfl, rfl, rfl, rfl, rfl⟩, trivial⟩ (by decide) rfl
theorem NormV_m (neg : Bool) (A : Option Addr) (c : Nat) (e1 e2 v : Int) (h : trW [e1, e2] = wN v) :
    CallM Tryd.prog 75 [nI neg A 2 c] (fun w M => ArgN w M A 2 1 [[.int .u32 e1], [.int .u32 e2]] ∧ 2 ≤ c) []
      (fun q : Option Addr × Nat => nI (neg && decide (0 < (wN v).length)) q.1 (wN v).length q.2) (fun q => [.row 102 1 q.1 (wN v).length q.2 ((wN v).map encW)]) := by
  have := Norm_m neg A c [e1, e2] (n := 2) rfl (by decide)
  rwa [h] at this
theorem Of_m (n : Int) (h0 : -9223372036854775808 ≤ n) (h1 : n ≤ 9223372036854775807) :
    CallM Tryd.prog 53 [I n] (fun _ _ => True) []
      (fun q : Option Addr × Nat => nI (decide (n < 0)) q.1 (wN (if n < 0 then -n else n)).length q.2) (fun q => [.row 102 1 q.1 (wN (if n < 0 then -n else n)).length q.2 ((wN (if n < 0 then -n else n)).map encW)]) := by
  obtain ⟨v, hv⟩ : ∃ v, (if n < 0 then -n else n) = v := ⟨_, rfl⟩
  have hv0 : (n < 0 → v = -n) ∧ (¬ n < 0 → v = n) := by
    refine ⟨fun h => ?_, fun h => ?_⟩
    · rw [if_pos h] at hv; exact hv.symm
    · rw [if_neg h] at hv; exact hv.symm
  rw [hv]
  have hb2 : (decide (n < 0) && decide (0 < (wN v).length)) = decide (n < 0) := by
    by_cases h : n < 0
    · have := wN_pos (v := v) (by have := hv0.1 h; omega)
      rw [decide_eq_true this, Bool.and_true]
    · rw [decide_eq_false h, Bool.false_and]
  have kn := fun A c e1 e2 h => NormV_m (decide (n < 0)) A c e1 e2 v h
  rw [hb2] at kn
  clear hv hb2
  generalize hD : decide (n < 0) = D at *
  refine CallM.of (m := 0) Tryd.func53 rfl tabOk rfl rfl rfl rfl (by simp [SV.wfs, SV.wf]) fun w M π hpre => ?_
  (conv=>whnf);repeat' (first|((with_reducible refine isO ?_);first|((first|(refine OpX_build0 tabOk rfl rfl rfl ?_);intro bN|(refine OpX_build tabOk rfl rfl rfl rfl rfl ?_);intro bN);conv=>whnf))|((first|(with_reducible refine isU ?_;first|refine xwru_64 (by omega) (by omega) ?_|refine xwru_32 (by omega) (by omega) ?_|refine xwru_64m ?_|refine xwru_32m ?_)|(with_reducible refine isUq ?_;refine xquou_nn (by omega) (by omega) (by omega) ?_)|(with_reducible refine isUr ?_;refine xremu_nn (by omega) (by omega) ?_)|(with_reducible refine isK ?_;first|refine xcv_u32 (by omega) (by omega) ?_|refine xcv_u32m ?_|refine xcv_u64 (by omega) (by omega) ?_|refine xcv_u64m ?_)|(with_reducible refine isS ?_;refine xshr_32 ?_));conv=>whnf)|((with_reducible refine isW ?_;first|refine xwr_ok (by omega) (by omega) ?_|refine xwr_raw ?_);conv=>whnf)|((with_reducible refine isS ?_;refine xshr_1 ?_);conv=>whnf)|((with_reducible refine isK ?_;first|refine xcv_i64 (by omega) (by omega) ?_|refine xcv_u64 (by omega) (by omega) ?_|refine xcv_u8 (by omega) (by omega) ?_|refine xcv_raw ?_);conv=>whnf)|with_reducible exact rfl|((with_reducible first|refine xif_kt (by assumption) ?_|refine xif_kf (by assumption) ?_);conv=>whnf)|((with_reducible refine xif_s ?_ ?_)<;>(intro hb;(try simp (disch:=omega) only [hbS] at hb)<;>conv=>whnf)))
  all_goals
    rw [hD]
    refine CallX_m (kn _ _ _ _ ?_) [] rfl trivial (by decide) (fun σ fp w' hm => ⟨ArgN.row 1 rfl (m := 0) (fun j hj => by omega) σ fp w' hm, Nat.le_refl 2⟩) ?_
    rotate_left
    · intro q
      obtain ⟨A1, c1⟩ := q
      dsimp only
      (conv=>whnf);repeat' (first|((with_reducible refine isO ?_);first|((first|(refine OpX_build0 tabOk rfl rfl rfl ?_);intro bN|(refine OpX_build tabOk rfl rfl rfl rfl rfl ?_);intro bN);conv=>whnf))|((first|(with_reducible refine isU ?_;first|refine xwru_64 (by omega) (by omega) ?_|refine xwru_32 (by omega) (by omega) ?_|refine xwru_64m ?_|refine xwru_32m ?_)|(with_reducible refine isUq ?_;refine xquou_nn (by omega) (by omega) (by omega) ?_)|(with_reducible refine isUr ?_;refine xremu_nn (by omega) (by omega) ?_)|(with_reducible refine isK ?_;first|refine xcv_u32 (by omega) (by omega) ?_|refine xcv_u32m ?_|refine xcv_u64 (by omega) (by omega) ?_|refine xcv_u64m ?_)|(with_reducible refine isS ?_;refine xshr_32 ?_));conv=>whnf)|((with_reducible refine isW ?_;first|refine xwr_ok (by omega) (by omega) ?_|refine xwr_raw ?_);conv=>whnf)|((with_reducible refine isS ?_;refine xshr_1 ?_);conv=>whnf)|((with_reducible refine isK ?_;first|refine xcv_i64 (by omega) (by omega) ?_|refine xcv_u64 (by omega) (by omega) ?_|refine xcv_u8 (by omega) (by omega) ?_|refine xcv_raw ?_);conv=>whnf)|with_reducible exact rfl|((with_reducible first|refine xif_kt (by assumption) ?_|refine xif_kf (by assumption) ?_);conv=>whnf)|((with_reducible refine xif_s ?_ ?_)<;>(intro hb;(try simp (disch:=omega) only [hbS] at hb)<;>conv=>whnf)))
      exact Fin_m (A1, c1) [2] ⟨rfl, by simp [SV.wf, SV.wfs]⟩ ⟨⟨rfl, rfl, rfl, rfl, rfl, rfl⟩, trivial⟩ (by decide) rfl
    · refine wN_tr (by omega) (by omega) (by omega) (by omega)
end Go.Proofs.YtadichckbogcjaaDoor.En
