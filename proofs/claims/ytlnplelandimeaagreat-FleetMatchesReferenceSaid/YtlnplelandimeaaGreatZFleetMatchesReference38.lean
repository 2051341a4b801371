import Derived.Test.YtlnplelandimeaaGreatZFleetMatchesReference37
set_option linter.all false
section
namespace Go.Proofs.YtlnplelandimeaaGreat.En
open Go.RowKit
set_option maxRecDepth 100000
section
variable {C : Ctx} {ob : List OB}
theorem LoopX_addRa {cd : Code} {tm : List (Nat × SV)} {K : Kx} (p : Nat → Nat) (R : Nat → RfT) (h : force (ob ++ [raO p R (fun i => decide (i < 0))]) fun ob => LoopX C cd tm ob K) : LoopX C cd tm ob K := by
 rw [force_eq] at h
 unfold LoopX at *
 intro σ fp a w hr
 have hm' := hr.mem.adopt (raO p R (fun i => decide (i < 0))) 0 (fun _ => False) (raO_mk (Fs := fun _ _ => False) ⟨fun i hi hH => by simp at hH, fun _ _ _ _ _ x hx => hx.elim, fun _ _ x hx => hx.elim⟩) (fun i hi => hi.elim)
 exact h _ _ a w ⟨hr.tm.ext (fun j hj => by simp [show j ≠ ob.length by omega]) (by simp), hm'⟩
end
theorem rng_upd (p : Nat → Nat) (k b : Nat) : ((List.range (k + 1)).map (updN p k b)).map (fun b => [ptrV b]) = ((List.range k).map p).map (fun b => [ptrV b]) ++ [[ptrV b]] := by
 rw [List.range_succ, List.map_append, List.map_append]
 have e1 : (List.range k).map (updN p k b) = (List.range k).map p := List.map_congr_left fun i hi => by
  have : i < k := by simpa using hi
  unfold updN
  rw [if_neg (by omega)]
 rw [e1]
 simp [updN]
theorem onF_lt (k : Nat) : onF (fun i => decide (i < k)) k = fun i => decide (i < k + 1) := by
 funext i
 show (if i = k then true else decide (i < k)) = decide (i < k + 1)
 by_cases e : i = k
 ·rw [if_pos e, e]
  exact (decide_eq_true (by omega)).symm
 ·rw [if_neg e]
  exact decide_eq_decide.2 (by omega)
def D0 : RdT := ⟨fun _ => rf0, none, 0⟩
theorem okD0 (m : Int) : okD (sn0 m) D0 := fun _ _ => ⟨okR0, absR0⟩
set_option maxHeartbeats 4000000 in
theorem rsNew_m (m : Nat) (hm : m < 8) : CallM Tryz.prog 46 [I m] (fun _ _ => True) [] (fun c : RcT => .t [pR c.b, I 0]) (fun c => [rsB c D0 (sn0 m), rsQ c, raO c.p D0.R allT, rsR D0 (sn0 m)]) := by
 refine CallM.of (m := 0) Tryz.func46 rfl tabOk rfl rfl rfl rfl (by simp [SV.wfs, SV.wf]) fun w M π _ => ?_
 (conv=>whnf);repeat' (first|((with_reducible refine isO ?_);first|((first|(refine OpX_build0 tabOk rfl rfl rfl ?_);intro bN|(refine OpX_build tabOk rfl rfl rfl rfl rfl ?_);intro bN);conv=>whnf))|((with_reducible refine isW ?_;first|refine xwr_ok (by omega) (by omega) ?_|refine xwr_raw ?_);conv=>whnf)|((first|refine DrawX_s tabOk folOk ?_|refine DrawS_i (by kernel_rfl) ?_|with_reducible refine andX_i ?_ ?_)<;>conv=>whnf)|with_reducible exact rfl|((with_reducible first|refine xif_kt (by assumption) ?_|refine xif_kf (by assumption) ?_);conv=>whnf)|((with_reducible refine xif_s ?_ ?_)<;>(intro hb;(try simp (disch:=omega) only [hbS] at hb)<;>conv=>whnf)))
 all_goals try (exfalso; omega)
 refine LoopX_conv 0 _ (fun b => rsO b m none 0 0 none 0 0) rfl (fun σ fp w hm => rs_new hm rfl) ?_
 intro b
 conv => whnf
 refine LoopX_addNil 101 1 ?_
 conv => whnf
 refine LoopX_addRa (fun _ => 0) (fun _ => rf0) ?_
 conv => whnf
 refine LoopX_inv tabOk (α := (_ : Nat) × (Nat → Nat) × (Option Addr × Nat)) (fun s => s.1 ≤ 8) (fun s => [(4, pR b), (5, I s.1)])
  (fun s => [rsO b m s.2.2.1 s.1 s.2.2.2 none 0 0, .row 101 1 s.2.2.1 s.1 s.2.2.2 (((List.range s.1).map s.2.1).map fun b => [ptrV b]), raO s.2.1 (fun _ => rf0) (fun i => decide (i < s.1))]) (fun s => 8 - s.1) ⟨0, fun _ => 0, (none, 0)⟩ [0, 1, 2] (Nat.zero_le _) ?_ ?_
 ·((refine ⟨?_, ?_, ?_, ?_⟩) <;> (repeat' ((conv => whnf); apply And.intro)) <;> (try (first | exact trivial | decide)))
  all_goals first | rfl | exact fun _ _ h => h | (simp [SV.wf, SV.wfs]; done) | trace_state
 ·rintro ⟨k, p, A, cA⟩ hk
  dsimp only at hk ⊢
  by_cases hlt : k < 8
  ·(conv=>whnf);repeat' (first|((with_reducible refine isV ?_);first|(refine ValX_rsA 0 tabOk rfl rfl rfl rfl ?_; conv => whnf))|((with_reducible refine isO ?_);first|((first|(refine OpX_build0 tabOk rfl rfl rfl ?_);intro bN|(refine OpX_build tabOk rfl rfl rfl rfl rfl ?_);intro bN);conv=>whnf))|((with_reducible refine isW ?_;first|refine xwr_ok (by omega) (by omega) ?_|refine xwr_raw ?_);conv=>whnf)|((first|refine DrawX_s tabOk folOk ?_|refine DrawS_i (by kernel_rfl) ?_|with_reducible refine andX_i ?_ ?_)<;>conv=>whnf)|with_reducible exact rfl|((with_reducible first|refine xif_kt (by assumption) ?_|refine xif_kf (by assumption) ?_);conv=>whnf)|((with_reducible refine xif_s ?_ ?_)<;>(intro hb;(try simp (disch:=omega) only [hbS] at hb)<;>conv=>whnf)))
   all_goals try (exfalso; omega)
   refine CallX_newR (p := p) (R := fun _ => rf0) (H := fun i => decide (i < k)) 2 k 3 (by decide) hlt (decide_eq_false (by omega)) ?_
   refine CallX_m rNew_m [] rfl trivial (by decide) (fun _ _ _ _ => trivial) ?_
   intro b1
   conv => whnf
   refine ⟨b1, rf0, rfl, rfl, ?_⟩
   (conv=>whnf);repeat' (first|((with_reducible refine isV ?_);first|(refine ValX_rsA 0 tabOk rfl rfl rfl rfl ?_; conv => whnf))|((with_reducible refine isO ?_);first|((refine OpX_append 1 tabOk rfl rfl rfl rfl (ArgSl.row 4 rfl) (by decide) ?_ ?_ ?_)<;>first|omega|(dsimp only;omega)|(intro A' c';conv=>whnf))|(refine OpX_rsA 0 tabOk rfl rfl rfl rfl ?_; conv => whnf)|((first|(refine OpX_build0 tabOk rfl rfl rfl ?_);intro bN|(refine OpX_build tabOk rfl rfl rfl rfl rfl ?_);intro bN);conv=>whnf))|((with_reducible refine isW ?_;first|refine xwr_ok (by omega) (by omega) ?_|refine xwr_raw ?_);conv=>whnf)|((first|refine DrawX_s tabOk folOk ?_|refine DrawS_i (by kernel_rfl) ?_|with_reducible refine andX_i ?_ ?_)<;>conv=>whnf)|with_reducible exact rfl|((with_reducible first|refine xif_kt (by assumption) ?_|refine xif_kf (by assumption) ?_);conv=>whnf)|((with_reducible refine xif_s ?_ ?_)<;>(intro hb;(try simp (disch:=omega) only [hbS] at hb)<;>conv=>whnf)))
   all_goals try (exfalso; omega)
   refine ⟨⟨k + 1, updN p k b1, (A', c')⟩, [0, 1, 2], by (try dsimp only); omega, ?_, by (try dsimp only); omega⟩
   dsimp only
   rw [rng_upd, onF_lt, updN_self (fun _ => rf0) k]
   ((refine ⟨?_, ?_, ?_, ?_⟩) <;> (repeat' ((conv => whnf); apply And.intro)) <;> (try (first | exact trivial | decide)))
   all_goals first | rfl | exact fun _ _ h => h | (simp [SV.wf, SV.wfs]; done) | trace_state
  ·obtain rfl : k = 8 := by omega
   (conv=>whnf);repeat' (first|((with_reducible refine isO ?_);first|((first|(refine OpX_build0 tabOk rfl rfl rfl ?_);intro bN|(refine OpX_build tabOk rfl rfl rfl rfl rfl ?_);intro bN);conv=>whnf))|((with_reducible refine isW ?_;first|refine xwr_ok (by omega) (by omega) ?_|refine xwr_raw ?_);conv=>whnf)|((first|refine DrawX_s tabOk folOk ?_|refine DrawS_i (by kernel_rfl) ?_|with_reducible refine andX_i ?_ ?_)<;>conv=>whnf)|with_reducible exact rfl|((with_reducible first|refine xif_kt (by assumption) ?_|refine xif_kf (by assumption) ?_);conv=>whnf)|((with_reducible refine xif_s ?_ ?_)<;>(intro hb;(try simp (disch:=omega) only [hbS] at hb)<;>conv=>whnf)))
   all_goals try (exfalso; omega)
   refine Fin_addNil 39 5 ?_
   exact Fin_m ⟨b, A, cA, p⟩ [0, 1, 2, 3] ⟨rfl, by simp [SV.wf, SV.wfs]⟩ ⟨fun _ _ h => h, ⟨rfl, rfl, rfl, rfl, rfl, rfl⟩, fun _ _ h => h, ⟨rfl, rfl, rfl, rfl, rfl, rfl⟩, trivial⟩ (by decide) rfl
set_option maxHeartbeats 8000000 in
theorem rsSame_m (c e : RcT) (D E : RdT) (S O : SnT) (hD : okD S D) (hE : okD O E) (r : Bool) (hr : r = true ↔ sameS S O) :
 CallM Tryz.prog 31 [pR c.b, pR e.b] (fun _ _ => True) [rsB c D S, rsQ c, raO c.p D.R allT, rsR D S, rsB e E O, rsQ e, raO e.p E.R allT, rsR E O]
  (fun _ : Unit => B r) (fun _ => [rsB c D S, rsQ c, raO c.p D.R allT, rsR D S, rsB e E O, rsQ e, raO e.p E.R allT, rsR E O]) := by
 have hl1 := pairsN_len S 64
 have hl2 := pairsN_len O 64
 have hfin : pairs S = pairs O → (∀ i, i < 8 → S.ats i = O.ats i) → r = true := fun h h' => hr.2 ⟨h, h'⟩
 have hno : ¬ (pairs S = pairs O) → r = false := fun h => by
  rcases Bool.eq_false_or_eq_true r with e | e
  ·exact (h (hr.1 e).1).elim
  ·exact e
 have hno2 : ∀ i, i < 8 → ¬ (S.ats i = O.ats i) → r = false := fun i hi h => by
  rcases Bool.eq_false_or_eq_true r with e | e
  ·exact (h ((hr.1 e).2 i hi)).elim
  ·exact e
 clear hr
 have e1 : pairsN S 64 = pairs S := rfl
 have e2 : pairsN O 64 = pairs O := rfl
 rw [e1] at hl1
 rw [e2] at hl2
 clear e1 e2
 unfold rsB rsR
 generalize pairs S = L1 at *
 generalize pairs O = L2 at *
 refine CallM.of (m := 8) Tryz.func31 rfl tabOk rfl rfl rfl rfl (by simp [SV.wfs, SV.wf]) fun w M π _ => ?_
 (conv=>whnf);repeat' (first|((with_reducible refine isV ?_);first|(refine ValX_rsP 0 tabOk rfl rfl rfl rfl ?_; conv => whnf)|(refine ValX_rsP 4 tabOk rfl rfl rfl rfl ?_; conv => whnf))|((with_reducible refine isW ?_;first|refine xwr_ok (by omega) (by omega) ?_|refine xwr_raw ?_);conv=>whnf)|((first|refine DrawX_s tabOk folOk ?_|refine DrawS_i (by kernel_rfl) ?_|with_reducible refine andX_i ?_ ?_)<;>conv=>whnf)|with_reducible exact rfl|((with_reducible first|refine xif_kt (by assumption) ?_|refine xif_kf (by assumption) ?_);conv=>whnf)|((with_reducible refine xif_s ?_ ?_)<;>(intro hb;(try simp (disch:=omega) only [hbS] at hb)<;>conv=>whnf)))
 ·have hne := hno (fun e => by rw [e] at hb; exact hb rfl)
  exact Fin_m () [0, 1, 2, 3, 4, 5, 6, 7] ⟨by rw [hne]; rfl, by simp [SV.wf, SV.wfs]⟩ ⟨fun _ _ h => h, ⟨rfl, rfl, rfl, rfl, rfl, rfl⟩, fun _ _ h => h, ⟨rfl, rfl, rfl, rfl, rfl, rfl⟩, fun _ _ h => h, ⟨rfl, rfl, rfl, rfl, rfl, rfl⟩, fun _ _ h => h, ⟨rfl, rfl, rfl, rfl, rfl, rfl⟩, trivial⟩ (by decide) rfl
 have hb : L1.length = L2.length := by omega
 refine LoopX_inv tabOk (α := Nat) (fun k => k ≤ L1.length ∧ ∀ j, j < k → L1.getD j r0 = L2.getD j r0) (fun k => [(0, pR c.b), (1, pR e.b), (5, I k)])
  (fun _ => [rsO c.b S.me c.A 8 c.cA D.P L1.length D.d, rsQ c, raO c.p D.R allT, .row 39 5 D.P L1.length D.d (L1.map encR), rsO e.b O.me e.A 8 e.cA E.P L2.length E.d, rsQ e, raO e.p E.R allT, .row 39 5 E.P L2.length E.d (L2.map encR)]) (fun k => L1.length - k) 0 [0, 1, 2, 3, 4, 5, 6, 7] ⟨Nat.zero_le _, fun j hj => by omega⟩ ?_ ?_
 ·((refine ⟨?_, ?_, ?_, ?_⟩) <;> (repeat' ((conv => whnf); apply And.intro)) <;> (try (first | exact trivial | decide)))
  all_goals first | rfl | exact fun _ _ h => h | (simp [SV.wf, SV.wfs]; done) | trace_state
 ·rintro k ⟨hk, hall⟩
  by_cases hlt : k < L1.length
  ·by_cases he : L1.getD k r0 = L2.getD k r0
   ·(conv=>whnf);repeat' (first|((with_reducible refine isV ?_);first|(refine ValX_rsP 0 tabOk rfl rfl rfl rfl ?_; conv => whnf)|(refine ValX_rsP 4 tabOk rfl rfl rfl rfl ?_; conv => whnf)|((first|refine ValX_index tabOk rfl (ArgSl.row 3 rfl) rfl ?_ ?_ ?_|(with_reducible refine nat_idx ?_);refine ValX_loadEn _ _ (r0) tabOk rfl rfl rfl rfl (ArgSl.row 3 rfl) ?_ ?_ ?_|refine ValX_loadE _ _ (r0) tabOk rfl rfl rfl rfl (ArgSl.row 3 rfl) ?_ ?_ ?_|refine ValX_index tabOk rfl (ArgSl.row 7 rfl) rfl ?_ ?_ ?_|(with_reducible refine nat_idx ?_);refine ValX_loadEn _ _ (r0) tabOk rfl rfl rfl rfl (ArgSl.row 7 rfl) ?_ ?_ ?_|refine ValX_loadE _ _ (r0) tabOk rfl rfl rfl rfl (ArgSl.row 7 rfl) ?_ ?_ ?_)<;>first|rfl|omega|with_reducible refine isP ?_|conv=>whnf))|((with_reducible refine isW ?_;first|refine xwr_ok (by omega) (by omega) ?_|refine xwr_raw ?_);conv=>whnf)|((first|refine DrawX_s tabOk folOk ?_|refine DrawS_i (by kernel_rfl) ?_|with_reducible refine andX_i ?_ ?_)<;>conv=>whnf)|with_reducible exact rfl|((with_reducible first|refine xif_kt (by assumption) ?_|refine xif_kf (by assumption) ?_);conv=>whnf)|((with_reducible refine xif_s ?_ ?_)<;>(intro hb;(try simp (disch:=omega) only [hbS] at hb)<;>conv=>whnf)))
    all_goals try (exfalso; omega)
    all_goals try (exfalso; rw [he] at hb; simp at hb; done)
    refine ⟨k + 1, [0, 1, 2, 3, 4, 5, 6, 7], ⟨by (try dsimp only); omega, fun j hj => ?_⟩, ?_, by (try dsimp only); omega⟩
    ·by_cases e : j = k
     ·rw [e]; exact he
     ·exact hall j (by omega)
    ·((refine ⟨?_, ?_, ?_, ?_⟩) <;> (repeat' ((conv => whnf); apply And.intro)) <;> (try (first | exact trivial | decide)))
     all_goals first | rfl | exact fun _ _ h => h | (simp [SV.wf, SV.wfs]; done) | trace_state
   ·have hne := hno (fun e => he (by rw [e]))
    (conv=>whnf);repeat' (first|((with_reducible refine isV ?_);first|(refine ValX_rsP 0 tabOk rfl rfl rfl rfl ?_; conv => whnf)|(refine ValX_rsP 4 tabOk rfl rfl rfl rfl ?_; conv => whnf)|((first|refine ValX_index tabOk rfl (ArgSl.row 3 rfl) rfl ?_ ?_ ?_|(with_reducible refine nat_idx ?_);refine ValX_loadEn _ _ (r0) tabOk rfl rfl rfl rfl (ArgSl.row 3 rfl) ?_ ?_ ?_|refine ValX_loadE _ _ (r0) tabOk rfl rfl rfl rfl (ArgSl.row 3 rfl) ?_ ?_ ?_|refine ValX_index tabOk rfl (ArgSl.row 7 rfl) rfl ?_ ?_ ?_|(with_reducible refine nat_idx ?_);refine ValX_loadEn _ _ (r0) tabOk rfl rfl rfl rfl (ArgSl.row 7 rfl) ?_ ?_ ?_|refine ValX_loadE _ _ (r0) tabOk rfl rfl rfl rfl (ArgSl.row 7 rfl) ?_ ?_ ?_)<;>first|rfl|omega|with_reducible refine isP ?_|conv=>whnf))|((with_reducible refine isW ?_;first|refine xwr_ok (by omega) (by omega) ?_|refine xwr_raw ?_);conv=>whnf)|((first|refine DrawX_s tabOk folOk ?_|refine DrawS_i (by kernel_rfl) ?_|with_reducible refine andX_i ?_ ?_)<;>conv=>whnf)|with_reducible exact rfl|((with_reducible first|refine xif_kt (by assumption) ?_|refine xif_kf (by assumption) ?_);conv=>whnf)|((with_reducible refine xif_s ?_ ?_)<;>(intro hb;(try simp (disch:=omega) only [hbS] at hb)<;>conv=>whnf)))
    all_goals try (exfalso; omega)
    all_goals first
     | exact Fin_m () [0, 1, 2, 3, 4, 5, 6, 7] ⟨by rw [hne]; rfl, by simp [SV.wf, SV.wfs]⟩ ⟨fun _ _ h => h, ⟨rfl, rfl, rfl, rfl, rfl, rfl⟩, fun _ _ h => h, ⟨rfl, rfl, rfl, rfl, rfl, rfl⟩, fun _ _ h => h, ⟨rfl, rfl, rfl, rfl, rfl, rfl⟩, fun _ _ h => h, ⟨rfl, rfl, rfl, rfl, rfl, rfl⟩, trivial⟩ (by decide) rfl
     | (exfalso; apply he; simp [Prod.ext_iff] at hb ⊢; exact hb; done)
     | trace_state
  ·obtain rfl : k = L1.length := by omega
   have hL : L1 = L2 := ext_getD r0 rfl hb.symm hall
   (conv=>whnf);repeat' (first|((with_reducible refine isV ?_);first|(refine ValX_rsP 0 tabOk rfl rfl rfl rfl ?_; conv => whnf))|((with_reducible refine isW ?_;first|refine xwr_ok (by omega) (by omega) ?_|refine xwr_raw ?_);conv=>whnf)|((first|refine DrawX_s tabOk folOk ?_|refine DrawS_i (by kernel_rfl) ?_|with_reducible refine andX_i ?_ ?_)<;>conv=>whnf)|with_reducible exact rfl|((with_reducible first|refine xif_kt (by assumption) ?_|refine xif_kf (by assumption) ?_);conv=>whnf)|((with_reducible refine xif_s ?_ ?_)<;>(intro hb;(try simp (disch:=omega) only [hbS] at hb)<;>conv=>whnf)))
   all_goals try (exfalso; omega)
   refine LoopX_inv tabOk (α := Nat) (fun k => k ≤ 8 ∧ ∀ j, j < k → S.ats j = O.ats j) (fun k => [(0, pR c.b), (1, pR e.b), (6, I k)]) (fun _ => [rsO c.b S.me c.A 8 c.cA D.P L1.length D.d, rsQ c, raO c.p D.R allT, .row 39 5 D.P L1.length D.d (L1.map encR), rsO e.b O.me e.A 8 e.cA E.P L2.length E.d, rsQ e, raO e.p E.R allT, .row 39 5 E.P L2.length E.d (L2.map encR)]) (fun k => 8 - k) 0 [0, 1, 2, 3, 4, 5, 6, 7] ⟨Nat.zero_le _, fun j hj => by omega⟩ ?_ ?_
   ·((refine ⟨?_, ?_, ?_, ?_⟩) <;> (repeat' ((conv => whnf); apply And.intro)) <;> (try (first | exact trivial | decide)))
    all_goals first | rfl | exact fun _ _ h => h | (simp [SV.wf, SV.wfs]; done) | trace_state
   ·rintro k ⟨hk, hall⟩
    by_cases hlt : k < 8
    ·obtain ⟨ok1, ab1⟩ := hD k hlt
     obtain ⟨ok2, ab2⟩ := hE k hlt
     have hn2 := hno2 k hlt
     (conv=>whnf);repeat' (first|((with_reducible refine isV ?_);first|(refine ValX_rsA 0 tabOk rfl rfl rfl rfl ?_; conv => whnf)|(refine ValX_rsA 4 tabOk rfl rfl rfl rfl ?_; conv => whnf)|((first|refine ValX_index tabOk rfl (ArgSl.row 1 rfl) rfl ?_ ?_ ?_|(with_reducible refine nat_idx ?_);refine ValX_load1n _ _ (0) tabOk rfl rfl rfl (ArgSl.row 1 rfl) ?_ ?_ ?_|refine ValX_load1 _ _ (0) tabOk rfl rfl rfl (ArgSl.row 1 rfl) ?_ ?_ ?_|refine ValX_index tabOk rfl (ArgSl.row 5 rfl) rfl ?_ ?_ ?_|(with_reducible refine nat_idx ?_);refine ValX_load1n _ _ (0) tabOk rfl rfl rfl (ArgSl.row 5 rfl) ?_ ?_ ?_|refine ValX_load1 _ _ (0) tabOk rfl rfl rfl (ArgSl.row 5 rfl) ?_ ?_ ?_)<;>first|rfl|omega|with_reducible refine isP ?_|conv=>whnf))|((with_reducible refine isW ?_;first|refine xwr_ok (by omega) (by omega) ?_|refine xwr_raw ?_);conv=>whnf)|((first|refine DrawX_s tabOk folOk ?_|refine DrawS_i (by kernel_rfl) ?_|with_reducible refine andX_i ?_ ?_)<;>conv=>whnf)|with_reducible exact rfl|((with_reducible first|refine xif_kt (by assumption) ?_|refine xif_kf (by assumption) ?_);conv=>whnf)|((with_reducible refine xif_s ?_ ?_)<;>(intro hb;(try simp (disch:=omega) only [hbS] at hb)<;>conv=>whnf)))
     all_goals try (exfalso; omega)
     rw [pt8 c.p hlt, pt8 e.p hlt]
     refine CallX_openR 2 k 8 (Entr.of Tryz.func74 rfl rfl) rfl rfl hlt (allT_at hlt) (by simp [SV.wf, SV.wfs]) ?_
     conv => whnf
     refine CallX_openR 6 k 9 (Entr.of Tryz.func74 rfl rfl) rfl rfl hlt (allT_at hlt) (by simp [SV.wf, SV.wfs]) ?_
     conv => whnf
     by_cases he : S.ats k = O.ats k
     ·refine CallX_m (rSame_m (c.p k) (e.p k) (D.R k) (E.R k) ok1 ok2 true (by rw [ab1, ab2]; simp [he])) [8, 9] rfl ⟨fun _ _ h => h, fun _ _ h => h, trivial⟩ (by decide) (fun _ _ _ _ => trivial) ?_
      intro u
      conv => whnf
      refine ⟨E.R k, rfl, rfl, ?_⟩
      rw [updN_self]
      conv => whnf
      refine ⟨D.R k, rfl, rfl, ?_⟩
      rw [updN_self]
      (conv=>whnf);repeat' (first|((with_reducible refine isW ?_;first|refine xwr_ok (by omega) (by omega) ?_|refine xwr_raw ?_);conv=>whnf)|((first|refine DrawX_s tabOk folOk ?_|refine DrawS_i (by kernel_rfl) ?_|with_reducible refine andX_i ?_ ?_)<;>conv=>whnf)|with_reducible exact rfl|((with_reducible first|refine xif_kt (by assumption) ?_|refine xif_kf (by assumption) ?_);conv=>whnf)|((with_reducible refine xif_s ?_ ?_)<;>(intro hb;(try simp (disch:=omega) only [hbS] at hb)<;>conv=>whnf)))
      all_goals try (exfalso; omega)
      refine ⟨k + 1, [0, 1, 2, 3, 4, 5, 6, 7], ⟨by (try dsimp only); omega, fun j hj => ?_⟩, ?_, by (try dsimp only); omega⟩
      ·by_cases e : j = k
       ·rw [e]; exact he
       ·exact hall j (by omega)
      ·((refine ⟨?_, ?_, ?_, ?_⟩) <;> (repeat' ((conv => whnf); apply And.intro)) <;> (try (first | exact trivial | decide)))
       all_goals first | rfl | exact fun _ _ h => h | (simp [SV.wf, SV.wfs]; done) | trace_state
     ·have hne := hn2 he
      refine CallX_m (rSame_m (c.p k) (e.p k) (D.R k) (E.R k) ok1 ok2 false (by rw [ab1, ab2]; simp [he])) [8, 9] rfl ⟨fun _ _ h => h, fun _ _ h => h, trivial⟩ (by decide) (fun _ _ _ _ => trivial) ?_
      intro u
      conv => whnf
      refine ⟨E.R k, rfl, rfl, ?_⟩
      rw [updN_self]
      conv => whnf
      refine ⟨D.R k, rfl, rfl, ?_⟩
      rw [updN_self]
      (conv=>whnf);repeat' (first|((with_reducible refine isW ?_;first|refine xwr_ok (by omega) (by omega) ?_|refine xwr_raw ?_);conv=>whnf)|((first|refine DrawX_s tabOk folOk ?_|refine DrawS_i (by kernel_rfl) ?_|with_reducible refine andX_i ?_ ?_)<;>conv=>whnf)|with_reducible exact rfl|((with_reducible first|refine xif_kt (by assumption) ?_|refine xif_kf (by assumption) ?_);conv=>whnf)|((with_reducible refine xif_s ?_ ?_)<;>(intro hb;(try simp (disch:=omega) only [hbS] at hb)<;>conv=>whnf)))
      all_goals try (exfalso; omega)
      exact Fin_m () [0, 1, 2, 3, 4, 5, 6, 7] ⟨by rw [hne]; rfl, by simp [SV.wf, SV.wfs]⟩ ⟨fun _ _ h => h, ⟨rfl, rfl, rfl, rfl, rfl, rfl⟩, fun _ _ h => h, ⟨rfl, rfl, rfl, rfl, rfl, rfl⟩, fun _ _ h => h, ⟨rfl, rfl, rfl, rfl, rfl, rfl⟩, fun _ _ h => h, ⟨rfl, rfl, rfl, rfl, rfl, rfl⟩, trivial⟩ (by decide) rfl
    ·obtain rfl : k = 8 := by omega
     have ht := hfin hL hall
     (conv=>whnf);repeat' (first|((with_reducible refine isW ?_;first|refine xwr_ok (by omega) (by omega) ?_|refine xwr_raw ?_);conv=>whnf)|((first|refine DrawX_s tabOk folOk ?_|refine DrawS_i (by kernel_rfl) ?_|with_reducible refine andX_i ?_ ?_)<;>conv=>whnf)|with_reducible exact rfl|((with_reducible first|refine xif_kt (by assumption) ?_|refine xif_kf (by assumption) ?_);conv=>whnf)|((with_reducible refine xif_s ?_ ?_)<;>(intro hb;(try simp (disch:=omega) only [hbS] at hb)<;>conv=>whnf)))
     all_goals try (exfalso; omega)
     exact Fin_m () [0, 1, 2, 3, 4, 5, 6, 7] ⟨by rw [ht]; rfl, by simp [SV.wf, SV.wfs]⟩ ⟨fun _ _ h => h, ⟨rfl, rfl, rfl, rfl, rfl, rfl⟩, fun _ _ h => h, ⟨rfl, rfl, rfl, rfl, rfl, rfl⟩, fun _ _ h => h, ⟨rfl, rfl, rfl, rfl, rfl, rfl⟩, fun _ _ h => h, ⟨rfl, rfl, rfl, rfl, rfl, rfl⟩, trivial⟩ (by decide) rfl
end Go.Proofs.YtlnplelandimeaaGreat.En
end
