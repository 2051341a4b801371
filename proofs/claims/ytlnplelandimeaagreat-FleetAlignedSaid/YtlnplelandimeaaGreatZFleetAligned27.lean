import Derived.Test.YtlnplelandimeaaGreatZFleetAligned26
set_option linter.all false
section
namespace Go.Proofs.YtlnplelandimeaaGreat.En
open Go.RowKit
set_option maxRecDepth 100000
def prs (S : SnT) (t : Nat) : Option RelT := (S.rel (t / 8) (t % 8)).map fun f => (((t / 8 : Nat) : Int), ((t % 8 : Nat) : Int), f)
def pairsN (S : SnT) (n : Nat) : List RelT := (List.range n).filterMap (prs S)
def pairs (S : SnT) : List RelT := pairsN S 64
theorem pairsN_none {S : SnT} {n : Nat} (h : prs S n = none) : pairsN S (n + 1) = pairsN S n := by
 unfold pairsN
 rw [List.range_succ, List.filterMap_append]
 simp [h]
theorem pairsN_some {S : SnT} {n : Nat} {x : RelT} (h : prs S n = some x) : pairsN S (n + 1) = pairsN S n ++ [x] := by
 unfold pairsN
 rw [List.range_succ, List.filterMap_append]
 simp [h]
theorem prs_at {S : SnT} {x y : Nat} (hy : y < 8) : prs S (8 * x + y) = (S.rel x y).map fun f => ((x : Int), (y : Int), f) := by
 unfold prs
 rw [show (8 * x + y) / 8 = x by omega, show (8 * x + y) % 8 = y by omega]
theorem pairsN_len (S : SnT) (n : Nat) : (pairsN S n).length ≤ n := by
 unfold pairsN
 exact Nat.le_trans (List.length_filterMap_le _ _) (by simp)
def rowV (c : CoT) (S : SnT) (x : Nat) : List Value := [.pointer (relP c S x 0), .pointer (relP c S x 1), .pointer (relP c S x 2), .pointer (relP c S x 3), .pointer (relP c S x 4), .pointer (relP c S x 5), .pointer (relP c S x 6), .pointer (relP c S x 7)]
theorem row_of (c : CoT) (S : SnT) {x : Nat} (hx : x < 8) : ((relsL c S).drop (x * 8)).take 8 = rowV c S x := by
 rcases (by omega : x = 0 ∨ x = 1 ∨ x = 2 ∨ x = 3 ∨ x = 4 ∨ x = 5 ∨ x = 6 ∨ x = 7) with rfl | rfl | rfl | rfl | rfl | rfl | rfl | rfl <;> rfl
theorem row_at (c : CoT) (S : SnT) (x : Nat) {y : Nat} (hy : y < 8) : ((rowV c S x).drop (y * 1)).take 1 = [.pointer (relP c S x y)] := by
 rcases (by omega : y = 0 ∨ y = 1 ∨ y = 2 ∨ y = 3 ∨ y = 4 ∨ y = 5 ∨ y = 6 ∨ y = 7) with rfl | rfl | rfl | rfl | rfl | rfl | rfl | rfl <;> rfl
theorem pts_at (c : CoT) {y : Nat} (hy : y < 8) : ((ptsL c).drop (y * 1)).take 1 = [.pointer (ptP c y)] := by
 rcases (by omega : y = 0 ∨ y = 1 ∨ y = 2 ∨ y = 3 ∨ y = 4 ∨ y = 5 ∨ y = 6 ∨ y = 7) with rfl | rfl | rfl | rfl | rfl | rfl | rfl | rfl <;> rfl
set_option maxHeartbeats 4000000 in
theorem relations_m (b : Nat) (c : CoT) (S : SnT) (H : Nat → Bool) : CallM Tryz.prog 35 [pR b] (fun _ _ => True) [stO b c S H]
 (fun q : Option Addr × Nat => .v (.slice q.1 (pairs S).length q.2)) (fun q => [stO b c S H, .row 39 5 q.1 (pairs S).length q.2 ((pairs S).map encR)]) := by
 refine CallM.of (m := 1) Tryz.func35 rfl tabOk rfl rfl rfl rfl (by simp [SV.wfs, SV.wf]) fun w M π _ => ?_
 (conv=>whnf);repeat' (first|((with_reducible refine isV ?_);first|(refine ValX_stRels 0 tabOk rfl rfl rfl rfl rfl ?_; conv => whnf))|((with_reducible refine isO ?_);first|((first|(refine OpX_build0 tabOk rfl rfl rfl ?_);intro bN|(refine OpX_build tabOk rfl rfl rfl rfl rfl ?_);intro bN);conv=>whnf))|((with_reducible refine isW ?_;first|refine xwr_ok (by omega) (by omega) ?_|refine xwr_raw ?_);conv=>whnf)|with_reducible exact rfl|((with_reducible first|refine xif_kt (by assumption) ?_|refine xif_kf (by assumption) ?_);conv=>whnf)|((with_reducible refine xif_s ?_ ?_)<;>(intro hb;(try simp (disch:=omega) only [hbS] at hb)<;>conv=>whnf)))
 refine LoopX_addNil 39 5 ?_
 conv => whnf
 refine LoopX_inv tabOk (α := Nat × Option Addr × Nat) (fun s => s.1 ≤ 8) (fun s => [(0, pR b), (3, .v (.slice s.2.1 (pairsN S (8 * s.1)).length s.2.2)), (14, .a ((relsL c S).map .v)), (15, I s.1)])
  (fun s => [stO b c S H, .row 39 5 s.2.1 (pairsN S (8 * s.1)).length s.2.2 ((pairsN S (8 * s.1)).map encR)]) (fun s => 8 - s.1) (0, none, 0) [0, 1] (by decide) ?_ ?_
 ·((refine ⟨?_, ?_, ?_, ?_⟩) <;> (repeat' ((conv => whnf); apply And.intro)) <;> (try (first | exact trivial | decide)))
  all_goals first | rfl | exact fun _ _ h => h | (simp [SV.wf, SV.wfs]; done) | trace_state
 ·rintro ⟨x, A, cc⟩ hx
  dsimp only at hx ⊢
  by_cases hlt : x < 8
  ·(conv=>whnf);repeat' (first|((with_reducible refine isV ?_);first|(refine ValX_idxA (sz := 8) (vs := relsL c S) (.a ((rowV c S x).map .v)) tabOk rfl Tryz.underlying97 rfl rfl (by omega) (by omega) (by simp [relsL]) (congrArg (fun l => SV.a (l.map .v)) (row_of c S hlt).symm) ?_; conv => whnf))|((with_reducible refine isO ?_);first|((first|(refine OpX_build0 tabOk rfl rfl rfl ?_);intro bN|(refine OpX_build tabOk rfl rfl rfl rfl rfl ?_);intro bN);conv=>whnf))|((with_reducible refine isW ?_;first|refine xwr_ok (by omega) (by omega) ?_|refine xwr_raw ?_);conv=>whnf)|with_reducible exact rfl|((with_reducible first|refine xif_kt (by assumption) ?_|refine xif_kf (by assumption) ?_);conv=>whnf)|((with_reducible refine xif_s ?_ ?_)<;>(intro hb;(try simp (disch:=omega) only [hbS] at hb)<;>conv=>whnf)))
   all_goals try (exfalso; omega)
   refine LoopX_inv tabOk (α := Nat × Option Addr × Nat) (fun s => s.1 ≤ 8) (fun s => [(0, pR b), (3, .v (.slice s.2.1 (pairsN S (8 * x + s.1)).length s.2.2)), (4, I x), (14, .a ((relsL c S).map .v)), (15, I x), (19, .a ((rowV c S x).map .v)), (20, I s.1)])
    (fun s => [stO b c S H, .row 39 5 s.2.1 (pairsN S (8 * x + s.1)).length s.2.2 ((pairsN S (8 * x + s.1)).map encR)]) (fun s => 8 - s.1) (0, A, cc) [0, 1] (Nat.zero_le _) ?_ ?_
   ·((refine ⟨?_, ?_, ?_, ?_⟩) <;> (repeat' ((conv => whnf); apply And.intro)) <;> (try (first | exact trivial | decide)))
    all_goals first | rfl | exact fun _ _ h => h | (simp [SV.wf, SV.wfs]; done) | trace_state
   ·rintro ⟨y, A, cc⟩ hy
    dsimp only at hy ⊢
    by_cases hlt2 : y < 8
    ·have hp := prs_at (S := S) (x := x) hlt2
     have hl := pairsN_len S (8 * x + y)
     rcases opt_em (S.rel x y) with hn | ⟨f, hs⟩
     ·rw [hn] at hp
      have hnx := pairsN_none hp
      generalize pairsN S (8 * x + y) = L at *
      (conv=>whnf);repeat' (first|((with_reducible refine isV ?_);first|(refine ValX_idxA (sz := 1) (vs := rowV c S x) (.v (.pointer none)) tabOk rfl Tryz.underlying96 rfl rfl (by omega) (by omega) rfl (by (try dsimp only); rw [Int.toNat_natCast, row_at c S x hlt2]; unfold relP; rw [hn]; rfl) ?_; conv => whnf))|((with_reducible refine isO ?_);first|((first|(refine OpX_build0 tabOk rfl rfl rfl ?_);intro bN|(refine OpX_build tabOk rfl rfl rfl rfl rfl ?_);intro bN);conv=>whnf))|((with_reducible refine isW ?_;first|refine xwr_ok (by omega) (by omega) ?_|refine xwr_raw ?_);conv=>whnf)|with_reducible exact rfl|((with_reducible first|refine xif_kt (by assumption) ?_|refine xif_kf (by assumption) ?_);conv=>whnf)|((with_reducible refine xif_s ?_ ?_)<;>(intro hb;(try simp (disch:=omega) only [hbS] at hb)<;>conv=>whnf)))
      all_goals try (exfalso; omega)
      refine ⟨(y + 1, A, cc), [0, 1], by (try dsimp only); omega, ?_, by (try dsimp only); omega⟩
      dsimp only
      rw [show 8 * x + (y + 1) = 8 * x + y + 1 by omega, hnx]
      ((refine ⟨?_, ?_, ?_, ?_⟩) <;> (repeat' ((conv => whnf); apply And.intro)) <;> (try (first | exact trivial | decide)))
      all_goals first | rfl | exact fun _ _ h => h | (simp [SV.wf, SV.wfs]; done) | trace_state
     ·rw [hs] at hp
      have hnx := pairsN_some hp
      generalize pairsN S (8 * x + y) = L at *
      (conv=>whnf);repeat' (first|((with_reducible refine isV ?_);first|(refine ValX_idxA (sz := 1) (vs := rowV c S x) (.v (.pointer (some ⟨c.rp x y, 2, none⟩))) tabOk rfl Tryz.underlying96 rfl rfl (by omega) (by omega) rfl (by (try dsimp only); rw [Int.toNat_natCast, row_at c S x hlt2]; unfold relP; rw [hs]; rfl) ?_; conv => whnf)|(refine ValX_stFr 0 x y f tabOk rfl rfl rfl rfl rfl hlt hlt2 hs ?_; conv => whnf))|((with_reducible refine isO ?_);first|((refine OpX_append 1 tabOk rfl rfl rfl rfl (ArgSl.row 2 rfl) (by decide) ?_ ?_ ?_)<;>first|omega|(dsimp only;omega)|(intro A' c';conv=>whnf))|((first|(refine OpX_build0 tabOk rfl rfl rfl ?_);intro bN|(refine OpX_build tabOk rfl rfl rfl rfl rfl ?_);intro bN);conv=>whnf))|((with_reducible refine isW ?_;first|refine xwr_ok (by omega) (by omega) ?_|refine xwr_raw ?_);conv=>whnf)|with_reducible exact rfl|((with_reducible first|refine xif_kt (by assumption) ?_|refine xif_kf (by assumption) ?_);conv=>whnf)|((with_reducible refine xif_s ?_ ?_)<;>(intro hb;(try simp (disch:=omega) only [hbS] at hb)<;>conv=>whnf)))
      all_goals try (exfalso; omega)
      refine ⟨(y + 1, A', c'), [0, 1], by (try dsimp only); omega, ?_, by (try dsimp only); omega⟩
      dsimp only
      rw [show 8 * x + (y + 1) = 8 * x + y + 1 by omega, hnx, List.length_append, List.map_append]
      ((refine ⟨?_, ?_, ?_, ?_⟩) <;> (repeat' ((conv => whnf); apply And.intro)) <;> (try (first | exact trivial | decide)))
      all_goals first | rfl | exact fun _ _ h => h | (simp [SV.wf, SV.wfs]; done) | trace_state
    ·obtain rfl : y = 8 := by omega
     (conv=>whnf);repeat' (first|((with_reducible refine isO ?_);first|((first|(refine OpX_build0 tabOk rfl rfl rfl ?_);intro bN|(refine OpX_build tabOk rfl rfl rfl rfl rfl ?_);intro bN);conv=>whnf))|((with_reducible refine isW ?_;first|refine xwr_ok (by omega) (by omega) ?_|refine xwr_raw ?_);conv=>whnf)|with_reducible exact rfl|((with_reducible first|refine xif_kt (by assumption) ?_|refine xif_kf (by assumption) ?_);conv=>whnf)|((with_reducible refine xif_s ?_ ?_)<;>(intro hb;(try simp (disch:=omega) only [hbS] at hb)<;>conv=>whnf)))
     all_goals try (exfalso; omega)
     refine ⟨(x + 1, A, cc), [0, 1], by (try dsimp only); omega, ?_, by (try dsimp only); omega⟩
     dsimp only
     rw [show 8 * (x + 1) = 8 * x + 8 by omega]
     ((refine ⟨?_, ?_, ?_, ?_⟩) <;> (repeat' ((conv => whnf); apply And.intro)) <;> (try (first | exact trivial | decide)))
     all_goals first | rfl | exact fun _ _ h => h | (simp [SV.wf, SV.wfs]; done) | trace_state
  ·obtain rfl : x = 8 := by omega
   (conv=>whnf);repeat' (first|((with_reducible refine isO ?_);first|((first|(refine OpX_build0 tabOk rfl rfl rfl ?_);intro bN|(refine OpX_build tabOk rfl rfl rfl rfl rfl ?_);intro bN);conv=>whnf))|((with_reducible refine isW ?_;first|refine xwr_ok (by omega) (by omega) ?_|refine xwr_raw ?_);conv=>whnf)|with_reducible exact rfl|((with_reducible first|refine xif_kt (by assumption) ?_|refine xif_kf (by assumption) ?_);conv=>whnf)|((with_reducible refine xif_s ?_ ?_)<;>(intro hb;(try simp (disch:=omega) only [hbS] at hb)<;>conv=>whnf)))
   all_goals try (exfalso; omega)
   exact Fin_m (A, cc) [0, 1] ⟨rfl, by simp [SV.wf, SV.wfs]⟩ ⟨fun _ _ h => h, ⟨rfl, rfl, rfl, rfl, rfl, rfl⟩, trivial⟩ (by decide) rfl
set_option maxHeartbeats 2000000 in
theorem fAtlas_m (b : Nat) (c : CoT) (S : SnT) (i : Nat) (hi : i < 8) : CallM Tryz.prog 37 [pR b, I i] (fun _ _ => True) [stO b c S allT]
 (fun _ : {_r : (Nat × Nat) × StI (S.ats i) // goodA (S.ats i)} => .p 1 0) (fun r => [stO b c S allT, atB r.1.1.1 r.1.1.2, scO r.1.1.1 r.1.2.1.1, plO r.1.1.2 r.1.2.1.2]) := by
 have kr := robot34_x i
 rw [show rbB (i : Int) = true by unfold rbB; exact decide_eq_true (by omega)] at kr
 refine CallM.of (m := 1) Tryz.func37 rfl tabOk rfl rfl rfl rfl (by simp [SV.wfs, SV.wf]) fun w M π _ => ?_
 (conv=>whnf);repeat' (first|((with_reducible refine isC ?_);first|((with_reducible refine CallX_pure (kr) ?_)<;>first|omega|with_reducible refine isP ?_|conv=>whnf))|((with_reducible refine isV ?_);first|((refine ValX_arr (n := 8) (sz := 1) tabOk rfl Tryz.underlying94 rfl rfl ?_ ?_ ?_) <;> first | omega | (conv => whnf))|((refine ValX_arr (n := 8) (sz := 8) tabOk rfl Tryz.underlying97 rfl rfl ?_ ?_ ?_) <;> first | omega | (conv => whnf))|((refine ValX_arr (n := 8) (sz := 1) tabOk rfl Tryz.underlying96 rfl rfl ?_ ?_ ?_) <;> first | omega | (conv => whnf))|(refine ValX_stPt 0 i _ tabOk rfl rfl rfl rfl hi rfl ?_; conv => whnf))|with_reducible exact rfl|((with_reducible first|refine xif_kt (by assumption) ?_|refine xif_kf (by assumption) ?_);conv=>whnf)|((with_reducible refine xif_s ?_ ?_)<;>(intro hb;(try simp (disch:=omega) only [hbS] at hb)<;>conv=>whnf)))
 (refine CallX_open (b := b) (c := c) (S := S) [.p 1 0] 0 i 1 ?_ ?_ ?_ hi (allT_at hi) ?_ ?_ ?_); (focus (exact Entr.of Tryz.func75 rfl rfl)); (focus rfl); (focus rfl); (focus (simp [SV.wf, SV.wfs])); (focus (intro σ h; simp [SV.vals, SV.val, ptP, h]))
 intro b1 b2 m q hok hab hg
 conv => whnf
 refine CallX_m (AClone_m b1 b2 m q hok (by rw [hab]; exact hg)) [1, 2, 3] rfl ⟨⟨rfl, rfl, by simp [SV.wf, SV.wfs]⟩, fun _ _ h => h, fun _ _ h => h, trivial⟩ (by decide) (fun _ _ _ _ => trivial) ?_
 rintro ⟨⟨y1, y2⟩, ⟨m2, q2⟩, ok2, ab2⟩
 dsimp only at ok2 ⊢
 have ab2 := ab2.trans hab
 conv => whnf
 refine ⟨b1, b2, m, q, rfl, rfl, rfl, rfl, hok, by rw [hab]; exact hg, ?_⟩
 rw [hab, updN_self]
 (conv=>whnf);repeat' (first|with_reducible exact rfl|((with_reducible first|refine xif_kt (by assumption) ?_|refine xif_kf (by assumption) ?_);conv=>whnf)|((with_reducible refine xif_s ?_ ?_)<;>(intro hb;(try simp (disch:=omega) only [hbS] at hb)<;>conv=>whnf)))
 exact Fin_m ⟨⟨(y1, y2), (m2, q2), ok2, ab2⟩, hg⟩ [0, 4, 5, 6] ⟨rfl, by simp [SV.wf, SV.wfs]⟩ ⟨fun _ _ h => h, ⟨rfl, rfl, by simp [SV.wf, SV.wfs]⟩, fun _ _ h => h, fun _ _ h => h, trivial⟩ (by decide) rfl
theorem fAtlas_bad (b : Nat) (c : CoT) (S : SnT) (i : Int) (hi : rbB i = false) : CallM Tryz.prog 37 [pR b, I i] (fun _ _ => True) [stO b c S allT] (fun _ : Unit => nilP) (fun _ => [stO b c S allT]) := by
 have kr := robot34_x i
 rw [hi] at kr
 refine CallM.of (m := 1) Tryz.func37 rfl tabOk rfl rfl rfl rfl (by simp [SV.wfs, SV.wf]) fun w M π _ => ?_
 (conv=>whnf);repeat' (first|((with_reducible refine isC ?_);first|((with_reducible refine CallX_pure (kr) ?_)<;>first|omega|with_reducible refine isP ?_|conv=>whnf))|with_reducible exact rfl|((with_reducible first|refine xif_kt (by assumption) ?_|refine xif_kf (by assumption) ?_);conv=>whnf)|((with_reducible refine xif_s ?_ ?_)<;>(intro hb;(try simp (disch:=omega) only [hbS] at hb)<;>conv=>whnf)))
 exact Fin_m () [0] ⟨rfl, by simp [SV.wf, SV.wfs]⟩ ⟨fun _ _ h => h, trivial⟩ (by decide) rfl
end Go.Proofs.YtlnplelandimeaaGreat.En
end
section
namespace Go.Proofs.YtlnplelandimeaaGreat.En
open Go.RowKit
set_option maxRecDepth 100000
def wfS (S : SnT) : Prop := (∀ x y, ¬ (x < y ∧ y < 8) → S.rel x y = none) ∧ (∀ x y f, S.rel x y = some f → (0 ≤ f.1 ∧ f.1 < 4) ∧ (-1024 ≤ f.2.1 ∧ f.2.1 ≤ 1024) ∧ -1024 ≤ f.2.2 ∧ f.2.2 ≤ 1024) ∧ ∀ i, 8 ≤ i → S.ats i = at0
theorem prs_ok {S : SnT} (h : wfS S) {t : Nat} {x : RelT} (hx : prs S t = some x) : ∃ f, S.rel (t / 8) (t % 8) = some f ∧ x = (((t / 8 : Nat) : Int), ((t % 8 : Nat) : Int), f) ∧ t / 8 < t % 8 ∧ t % 8 < 8 := by
 unfold prs at hx
 rcases opt_em (S.rel (t / 8) (t % 8)) with hn | ⟨f, hs⟩
 ·rw [hn] at hx; cases hx
 ·rw [hs] at hx
  refine ⟨f, hs, (Option.some.inj hx).symm, ?_⟩
  by_cases hc : t / 8 < t % 8 ∧ t % 8 < 8
  ·exact hc
  ·rw [h.1 _ _ hc] at hs; cases hs
theorem take_norm {S O : SnT} (h : wfS O) {u v : Nat} {f : Fr} (hf : O.rel u v = some f) : takeS S ((u : Int), (v : Int), f) = setR S u v f ∧ addOk ((u : Int), (v : Int), f) = true := by
 have hlt : u < v ∧ v < 8 := by
  by_cases hc : u < v ∧ v < 8
  ·exact hc
  ·rw [h.1 _ _ hc] at hf; cases hf
 obtain ⟨h1, h2, h3⟩ := h.2.1 u v f hf
 constructor
 ·unfold takeS normR
  dsimp only
  rw [if_neg (by omega)]
  simp only [Int.toNat_natCast]
  congr 1
  exact Prod.ext (by simp; omega) rfl
 ·unfold addOk rbB szB
  simp
  omega
theorem hear_fold {O : SnT} (h : wfS O) (S : SnT) : ∀ n, n ≤ 64 → (pairsN O n).foldl takeS S = { S with rel := fun u v => if v < 8 ∧ 8 * u + v < n then joinO keyF (S.rel u v) (O.rel u v) else S.rel u v }
 | 0, _ => by
  show S = _
  have : (fun u v => if v < 8 ∧ 8 * u + v < 0 then joinO keyF (S.rel u v) (O.rel u v) else S.rel u v) = S.rel := by
   funext u v
   rw [if_neg (by omega)]
  rw [this]
 | n + 1, hn => by
  have ih := hear_fold h S n (by omega)
  rcases opt_em (prs O n) with hp | ⟨x, hp⟩
  ·rw [pairsN_none hp, ih]
   congr 1
   funext u v
   by_cases c1 : v < 8 ∧ 8 * u + v < n
   ·rw [if_pos c1, if_pos (by omega)]
   ·rw [if_neg c1]
    by_cases c2 : v < 8 ∧ 8 * u + v < n + 1
    ·rw [if_pos c2]
     have : O.rel u v = none := by
      unfold prs at hp
      rw [show n / 8 = u by omega, show n % 8 = v by omega] at hp
      simpa using hp
     rw [this]
     rfl
    ·rw [if_neg c2]
  ·obtain ⟨f, hf, rfl, hlt⟩ := prs_ok h hp
   rw [pairsN_some hp, List.foldl_append, ih]
   simp only [List.foldl_cons, List.foldl_nil]
   rw [(take_norm h hf).1]
   unfold setR
   congr 1
   funext u v
   unfold upd2
   dsimp only
   by_cases e : u = n / 8 ∧ v = n % 8
   ·rw [if_pos e, if_neg (by omega), if_pos (by omega), e.1, e.2, hf]
    rfl
   ·rw [if_neg e]
    by_cases c1 : v < 8 ∧ 8 * u + v < n
    ·rw [if_pos c1, if_pos (by omega)]
    ·rw [if_neg c1, if_neg (by omega)]
def joinR (S O : SnT) : SnT := { S with rel := fun u v => joinO keyF (S.rel u v) (O.rel u v) }
theorem hear_pairs {O : SnT} (h : wfS O) (S : SnT) : (pairs O).foldl takeS S = joinR S O := by
 unfold pairs
 rw [hear_fold h S 64 (Nat.le_refl _)]
 unfold joinR
 congr 1
 funext u v
 by_cases c : v < 8 ∧ 8 * u + v < 64
 ·rw [if_pos c]
 ·rw [if_neg c, h.1 u v (by omega)]
  rfl
def hearS (S O : SnT) : SnT := ⟨S.me, fun u v => joinO keyF (S.rel u v) (O.rel u v), fun i => joinA (S.ats i) (O.ats i)⟩
def r0 : RelT := (0, 0, 0, 0, 0)
end Go.Proofs.YtlnplelandimeaaGreat.En
end
section
namespace Go.Proofs.YtlnplelandimeaaGreat.En
open Go.RowKit
set_option maxRecDepth 100000
theorem addOk_pair {O : SnT} (h : wfS O) {L : List RelT} (hL : L = pairs O) {t : Nat} (ht : t < L.length) : addOk (L.getD t r0) = true := by
 subst hL
 have hm : (pairs O).getD t r0 ∈ pairs O := by simp [ht]
 unfold pairs pairsN at hm
 obtain ⟨n, _, hn⟩ := List.mem_filterMap.1 hm
 obtain ⟨f, hf, he, _⟩ := prs_ok h hn
 unfold pairs pairsN
 rw [he]
 exact (take_norm (S := O) h hf).2
theorem take_getR {L : List RelT} {t : Nat} (ht : t < L.length) : L.take (t + 1) = L.take t ++ [L.getD t r0] := by
 rw [List.take_succ]
 simp [ht]
def joinAk (S O : SnT) (k : Nat) : SnT := { S with ats := fun i => if i < k then joinA (S.ats i) (O.ats i) else S.ats i }
theorem joinAk_succ (S O : SnT) (k : Nat) : { joinAk S O k with ats := updN (joinAk S O k).ats k (joinA (S.ats k) (O.ats k)) } = joinAk S O (k + 1) := by
 unfold joinAk
 dsimp only
 congr 1
 funext i
 unfold updN
 by_cases e : i = k
 ·rw [if_pos e, if_pos (by omega), e]
 ·rw [if_neg e]
  dsimp only
  by_cases c : i < k
  ·rw [if_pos c, if_pos (by omega)]
  ·rw [if_neg c, if_neg (by omega)]
theorem joinAk_at (S O : SnT) (k : Nat) : (joinAk S O k).ats k = S.ats k := by
 unfold joinAk
 dsimp only
 rw [if_neg (by omega)]
theorem hear_all {S O : SnT} (hO : wfS O) : (pairs O).foldl takeS (joinAk S O 8) = hearS S O := by
 rw [hear_pairs hO]
 unfold joinR joinAk hearS
 dsimp only
 congr 1
 funext i
 by_cases c : i < 8
 ·rw [if_pos c]
 ·rw [if_neg c, hO.2.2 i (by omega)]
  rfl
set_option maxHeartbeats 8000000 in
theorem hear_m (b1 b2 : Nat) (c1 c2 : CoT) (S O : SnT) (hO : wfS O) : CallM Tryz.prog 33 [pR b1, pR b2] (fun _ _ => True) [stO b1 c1 S allT, stO b2 c2 O allT]
 (fun _ : Nat → Nat → Nat => I 0) (fun rp => [stO b1 { c1 with rp := rp } (hearS S O) allT, stO b2 c2 O allT]) := by
 have k2 := relations_m b2 c2 O allT
 have hfin := hear_all (S := S) hO
 have hao := fun t ht => addOk_pair hO (L := pairs O) rfl (t := t) ht
 have hl := pairsN_len O 64
 have e1 : pairsN O 64 = pairs O := rfl
 rw [e1] at hl
 clear e1
 generalize pairs O = L at *
 refine CallM.of (m := 2) Tryz.func33 rfl tabOk rfl rfl rfl rfl (by simp [SV.wfs, SV.wf]) fun w M π _ => ?_
 (conv=>whnf);repeat' (first|((with_reducible refine isV ?_);first|(refine ValX_stPts 0 tabOk rfl rfl rfl rfl rfl ?_; conv => whnf))|((with_reducible refine isW ?_;first|refine xwr_ok (by omega) (by omega) ?_|refine xwr_raw ?_);conv=>whnf)|with_reducible exact rfl|((with_reducible first|refine xif_kt (by assumption) ?_|refine xif_kf (by assumption) ?_);conv=>whnf)|((with_reducible refine xif_s ?_ ?_)<;>(intro hb;(try simp (disch:=omega) only [hbS] at hb)<;>conv=>whnf)))
 have hj0 : joinAk S O 0 = S := by
  unfold joinAk
  have : (fun i => if i < 0 then joinA (S.ats i) (O.ats i) else S.ats i) = S.ats := by
   funext i
   rw [if_neg (by omega)]
  rw [this]
 refine LoopX_inv tabOk (α := (k : Nat) × {S' : SnT // S' = joinAk S O k}) (fun s => s.1 ≤ 8) (fun s => [(0, pR b1), (1, pR b2), (18, .a ((ptsL c1).map .v)), (19, I s.1)]) (fun s => [stO b1 c1 s.2.1 allT, stO b2 c2 O allT]) (fun s => 8 - s.1) ⟨0, S, hj0.symm⟩ [0, 1] (Nat.zero_le _) ?_ ?_
 ·((refine ⟨?_, ?_, ?_, ?_⟩) <;> (repeat' ((conv => whnf); apply And.intro)) <;> (try (first | exact trivial | decide)))
  all_goals first | rfl | exact fun _ _ h => h | (simp [SV.wf, SV.wfs]; done) | trace_state
 ·rintro ⟨k, S', hS'⟩ hk
  dsimp only at hk hS' ⊢
  by_cases hlt : k < 8
  ·have hat : S'.ats k = S.ats k := by rw [hS', joinAk_at]
   have hnx : { S' with ats := updN S'.ats k (joinA (S'.ats k) (O.ats k)) } = joinAk S O (k + 1) := by
    rw [hat, hS']
    exact joinAk_succ S O k
   (conv=>whnf);repeat' (first|((with_reducible refine isV ?_);first|(refine ValX_idxA (sz := 1) (vs := ptsL c1) (.v (.pointer (ptP c1 k))) tabOk rfl Tryz.underlying94 rfl rfl (by omega) (by omega) rfl (by (try dsimp only); rw [Int.toNat_natCast, pts_at c1 hlt]; rfl) ?_; conv => whnf)|((refine ValX_arr (n := 8) (sz := 1) tabOk rfl Tryz.underlying94 rfl rfl ?_ ?_ ?_) <;> first | omega | (conv => whnf))|((refine ValX_arr (n := 8) (sz := 8) tabOk rfl Tryz.underlying97 rfl rfl ?_ ?_ ?_) <;> first | omega | (conv => whnf))|((refine ValX_arr (n := 8) (sz := 1) tabOk rfl Tryz.underlying96 rfl rfl ?_ ?_ ?_) <;> first | omega | (conv => whnf))|(refine ValX_stPt 1 k _ tabOk rfl rfl rfl rfl hlt rfl ?_; conv => whnf))|((with_reducible refine isW ?_;first|refine xwr_ok (by omega) (by omega) ?_|refine xwr_raw ?_);conv=>whnf)|with_reducible exact rfl|((with_reducible first|refine xif_kt (by assumption) ?_|refine xif_kf (by assumption) ?_);conv=>whnf)|((with_reducible refine xif_s ?_ ?_)<;>(intro hb;(try simp (disch:=omega) only [hbS] at hb)<;>conv=>whnf)))
   all_goals try (exfalso; omega)
   (refine CallX_open (b := b1) (c := c1) (S := S') [.p 2 0, .v (.pointer (ptP c2 k))] 0 k 2 ?_ ?_ ?_ hlt (allT_at hlt) ?_ ?_ ?_); (focus (exact Entr.of Tryz.func77 rfl rfl)); (focus rfl); (focus rfl); (focus (simp [SV.wf, SV.wfs])); (focus (intro σ h; simp [SV.vals, SV.val, ptP, h]))
   intro x1 x2 m1 q1 ok1 ab1 hg1
   conv => whnf
   (refine CallX_open (b := b2) (c := c2) (S := O) [.p 2 0, .p 5 0] 1 k 5 ?_ ?_ ?_ hlt (allT_at hlt) ?_ ?_ ?_); (focus (exact Entr.of Tryz.func77 rfl rfl)); (focus rfl); (focus rfl); (focus (simp [SV.wf, SV.wfs])); (focus (intro σ h; simp [SV.vals, SV.val, ptP, h]))
   intro y1 y2 m2 q2 ok2 ab2 hg2
   conv => whnf
   refine CallX_m (Join_m x1 x2 y1 y2 m1 m2 q1 q2 ok1 ok2 (by rw [ab2]; exact hg2)) [2, 3, 4, 5, 6, 7] rfl ⟨⟨rfl, rfl, by simp [SV.wf, SV.wfs]⟩, fun _ _ h => h, fun _ _ h => h, ⟨rfl, rfl, by simp [SV.wf, SV.wfs]⟩, fun _ _ h => h, fun _ _ h => h, trivial⟩ (by decide) (fun _ _ _ _ => trivial) ?_
   rintro ⟨⟨m3, q3⟩, ok3, ab3⟩
   dsimp only at ok3 ⊢
   have ab3 : absM (m3, q3) = joinA (S'.ats k) (O.ats k) := ab3.trans (by rw [ab1, ab2])
   conv => whnf
   refine ⟨y1, y2, m2, q2, rfl, rfl, rfl, rfl, ok2, by rw [ab2]; exact hg2, ?_⟩
   rw [ab2, updN_self]
   conv => whnf
   refine ⟨x1, x2, m3, q3, rfl, rfl, rfl, rfl, ok3, by rw [ab3]; exact goodA_joinA hg1 hg2, ?_⟩
   rw [ab3]
   (conv=>whnf);repeat' (first|((with_reducible refine isW ?_;first|refine xwr_ok (by omega) (by omega) ?_|refine xwr_raw ?_);conv=>whnf)|with_reducible exact rfl|((with_reducible first|refine xif_kt (by assumption) ?_|refine xif_kf (by assumption) ?_);conv=>whnf)|((with_reducible refine xif_s ?_ ?_)<;>(intro hb;(try simp (disch:=omega) only [hbS] at hb)<;>conv=>whnf)))
   all_goals try (exfalso; omega)
   refine ⟨⟨k + 1, _, hnx⟩, [0, 1], by (try dsimp only); omega, ?_, by (try dsimp only); omega⟩
   ((refine ⟨?_, ?_, ?_, ?_⟩) <;> (repeat' ((conv => whnf); apply And.intro)) <;> (try (first | exact trivial | decide)))
   all_goals first | rfl | exact fun _ _ h => h | (simp [SV.wf, SV.wfs]; done) | trace_state
  ·obtain rfl : k = 8 := by omega
   (conv=>whnf);repeat' (first|((with_reducible refine isC ?_);first|(((with_reducible refine isF 35 ?_);((refine CallX_m k2 [1] rfl ⟨fun _ _ h => h, trivial⟩ (by decide) (fun _ _ _ _ => trivial) ?_; intro q2; obtain ⟨A2, d2⟩ := q2)));conv=>whnf))|((with_reducible refine isW ?_;first|refine xwr_ok (by omega) (by omega) ?_|refine xwr_raw ?_);conv=>whnf)|with_reducible exact rfl|((with_reducible first|refine xif_kt (by assumption) ?_|refine xif_kf (by assumption) ?_);conv=>whnf)|((with_reducible refine xif_s ?_ ?_)<;>(intro hb;(try simp (disch:=omega) only [hbS] at hb)<;>conv=>whnf)))
   all_goals try (exfalso; omega)
   refine LoopX_inv tabOk (α := (t : Nat) × (Nat → Nat → Nat) × {S2 : SnT // S2 = (L.take t).foldl takeS S'}) (fun s => s.1 ≤ L.length) (fun s => [(0, pR b1), (33, .v (.slice A2 L.length d2)), (34, I L.length), (35, I s.1)])
    (fun s => [stO b1 { c1 with rp := s.2.1 } s.2.2.1 allT, stO b2 c2 O allT, .row 39 5 A2 L.length d2 (L.map encR)]) (fun s => L.length - s.1) ⟨0, c1.rp, S', rfl⟩ [0, 1, 2] (Nat.zero_le _) ?_ ?_
   ·((refine ⟨?_, ?_, ?_, ?_⟩) <;> (repeat' ((conv => whnf); apply And.intro)) <;> (try (first | exact trivial | decide)))
    all_goals first | rfl | exact fun _ _ h => h | (simp [SV.wf, SV.wfs]; done) | trace_state
   ·rintro ⟨t, rp, S2, hS2⟩ ht
    dsimp only at ht hS2 ⊢
    by_cases hlt : t < L.length
    ·have hnx : takeS S2 (L.getD t r0) = (L.take (t + 1)).foldl takeS S' := by
      rw [take_getR hlt, List.foldl_append, hS2]
      rfl
     have kt := takeUp_m b1 { c1 with rp := rp } S2 (L.getD t r0) (hao t hlt)
     (conv=>whnf);repeat' (first|((with_reducible refine isC ?_);first|(((with_reducible refine isF 76 ?_);((refine CallX_m kt [0] rfl ⟨fun _ _ h => h, trivial⟩ (by decide) (fun _ _ _ _ => trivial) ?_; intro rp2)));conv=>whnf))|((with_reducible refine isV ?_);first|((first|refine ValX_index tabOk rfl (ArgSl.row 2 rfl) rfl ?_ ?_ ?_|(with_reducible refine nat_idx ?_);refine ValX_loadEn _ _ (r0) tabOk rfl rfl rfl rfl (ArgSl.row 2 rfl) ?_ ?_ ?_|refine ValX_loadE _ _ (r0) tabOk rfl rfl rfl rfl (ArgSl.row 2 rfl) ?_ ?_ ?_)<;>first|rfl|omega|with_reducible refine isP ?_|conv=>whnf))|((with_reducible refine isW ?_;first|refine xwr_ok (by omega) (by omega) ?_|refine xwr_raw ?_);conv=>whnf)|with_reducible exact rfl|((with_reducible first|refine xif_kt (by assumption) ?_|refine xif_kf (by assumption) ?_);conv=>whnf)|((with_reducible refine xif_s ?_ ?_)<;>(intro hb;(try simp (disch:=omega) only [hbS] at hb)<;>conv=>whnf)))
     all_goals try (exfalso; omega)
     refine ⟨⟨t + 1, rp2, _, hnx⟩, [0, 1, 2], by (try dsimp only); omega, ?_, by (try dsimp only); omega⟩
     ((refine ⟨?_, ?_, ?_, ?_⟩) <;> (repeat' ((conv => whnf); apply And.intro)) <;> (try (first | exact trivial | decide)))
     all_goals first | rfl | exact fun _ _ h => h | (simp [SV.wf, SV.wfs]; done) | trace_state
    ·obtain rfl : t = L.length := by omega
     have hS3 : S2 = hearS S O := by rw [hS2, List.take_length, hS', hfin]
     (conv=>whnf);repeat' (first|((with_reducible refine isW ?_;first|refine xwr_ok (by omega) (by omega) ?_|refine xwr_raw ?_);conv=>whnf)|with_reducible exact rfl|((with_reducible first|refine xif_kt (by assumption) ?_|refine xif_kf (by assumption) ?_);conv=>whnf)|((with_reducible refine xif_s ?_ ?_)<;>(intro hb;(try simp (disch:=omega) only [hbS] at hb)<;>conv=>whnf)))
     all_goals try (exfalso; omega)
     exact Fin_m rp [0, 1] ⟨rfl, by simp [SV.wf, SV.wfs]⟩ ⟨fun _ _ h => stO_cast hS3 rfl h, fun _ _ h => h, trivial⟩ (by decide) rfl
theorem mxO_self {α : Type} (key : α → List Int) (v : α) : mxO key (some v) v = some v := by
 unfold mxO
 dsimp only
 rw [lexC_self, if_neg (by omega)]
theorem take_own {S : SnT} (h : wfS S) {L : List RelT} (hL : L = pairs S) {t : Nat} (ht : t < L.length) : takeS S (L.getD t r0) = S := by
 subst hL
 have hm : (pairs S).getD t r0 ∈ pairs S := by simp [ht]
 unfold pairs pairsN at hm
 obtain ⟨n, _, hn⟩ := List.mem_filterMap.1 hm
 obtain ⟨f, hf, he, _⟩ := prs_ok h hn
 unfold pairs pairsN
 rw [he, (take_norm h hf).1]
 unfold setR
 rw [hf, mxO_self, ← hf, upd2_self]
set_option maxHeartbeats 8000000 in
theorem hearSelf_m (b1 : Nat) (c1 : CoT) (S : SnT) (hS : wfS S) : CallM Tryz.prog 33 [pR b1, pR b1] (fun _ _ => True) [stO b1 c1 S allT] (fun _ : Nat → Nat → Nat => I 0) (fun rp => [stO b1 { c1 with rp := rp } S allT]) := by
 have k2 := relations_m b1 c1 S allT
 have hao := fun t ht => addOk_pair hS (L := pairs S) rfl (t := t) ht
 have hown := fun t ht => take_own hS (L := pairs S) rfl (t := t) ht
 have hl := pairsN_len S 64
 have e1 : pairsN S 64 = pairs S := rfl
 rw [e1] at hl
 clear e1
 generalize pairs S = L at *
 refine CallM.of (m := 1) Tryz.func33 rfl tabOk rfl rfl rfl rfl (by simp [SV.wfs, SV.wf]) fun w M π _ => ?_
 (conv=>whnf);repeat' (first|((with_reducible refine isV ?_);first|(refine ValX_stPts 0 tabOk rfl rfl rfl rfl rfl ?_; conv => whnf))|((with_reducible refine isW ?_;first|refine xwr_ok (by omega) (by omega) ?_|refine xwr_raw ?_);conv=>whnf)|with_reducible exact rfl|((with_reducible first|refine xif_kt (by assumption) ?_|refine xif_kf (by assumption) ?_);conv=>whnf)|((with_reducible refine xif_s ?_ ?_)<;>(intro hb;(try simp (disch:=omega) only [hbS] at hb)<;>conv=>whnf)))
 refine LoopX_inv tabOk (α := Nat) (fun s => s ≤ 8) (fun s => [(0, pR b1), (1, pR b1), (18, .a ((ptsL c1).map .v)), (19, I s)]) (fun s => [stO b1 c1 S allT]) (fun s => 8 - s) 0 [0] (Nat.zero_le _) ?_ ?_
 ·((refine ⟨?_, ?_, ?_, ?_⟩) <;> (repeat' ((conv => whnf); apply And.intro)) <;> (try (first | exact trivial | decide)))
  all_goals first | rfl | exact fun _ _ h => h | (simp [SV.wf, SV.wfs]; done) | trace_state
 ·intro k hk
  by_cases hlt : k < 8
  ·(conv=>whnf);repeat' (first|((with_reducible refine isV ?_);first|(refine ValX_idxA (sz := 1) (vs := ptsL c1) (.v (.pointer (ptP c1 k))) tabOk rfl Tryz.underlying94 rfl rfl (by omega) (by omega) rfl (by (try dsimp only); rw [Int.toNat_natCast, pts_at c1 hlt]; rfl) ?_; conv => whnf)|((refine ValX_arr (n := 8) (sz := 1) tabOk rfl Tryz.underlying94 rfl rfl ?_ ?_ ?_) <;> first | omega | (conv => whnf))|((refine ValX_arr (n := 8) (sz := 8) tabOk rfl Tryz.underlying97 rfl rfl ?_ ?_ ?_) <;> first | omega | (conv => whnf))|((refine ValX_arr (n := 8) (sz := 1) tabOk rfl Tryz.underlying96 rfl rfl ?_ ?_ ?_) <;> first | omega | (conv => whnf))|(refine ValX_stPt 0 k _ tabOk rfl rfl rfl rfl hlt rfl ?_; conv => whnf))|((with_reducible refine isW ?_;first|refine xwr_ok (by omega) (by omega) ?_|refine xwr_raw ?_);conv=>whnf)|with_reducible exact rfl|((with_reducible first|refine xif_kt (by assumption) ?_|refine xif_kf (by assumption) ?_);conv=>whnf)|((with_reducible refine xif_s ?_ ?_)<;>(intro hb;(try simp (disch:=omega) only [hbS] at hb)<;>conv=>whnf)))
   all_goals try (exfalso; omega)
   (refine CallX_open (b := b1) (c := c1) (S := S) [.p 1 0, .p 1 0] 0 k 1 ?_ ?_ ?_ hlt (allT_at hlt) ?_ ?_ ?_); (focus (exact Entr.of Tryz.func77 rfl rfl)); (focus rfl); (focus rfl); (focus (simp [SV.wf, SV.wfs])); (focus (intro σ h; simp [SV.vals, SV.val, ptP, h]))
   intro x1 x2 m1 q1 ok1 ab1 hg1
   conv => whnf
   refine CallX_m (JoinSelf_m x1 x2 m1 q1 ok1 (by rw [ab1]; exact hg1)) [1, 2, 3] rfl ⟨⟨rfl, rfl, by simp [SV.wf, SV.wfs]⟩, fun _ _ h => h, fun _ _ h => h, trivial⟩ (by decide) (fun _ _ _ _ => trivial) ?_
   rintro ⟨q3, hq3⟩
   have ab3 : absM (m1, q3) = S.ats k := by
    rw [← ab1]
    unfold absM
    dsimp only
    rw [hq3]
   conv => whnf
   refine ⟨x1, x2, m1, q3, rfl, rfl, rfl, rfl, ok1, by rw [ab3]; exact hg1, ?_⟩
   rw [ab3, updN_self]
   (conv=>whnf);repeat' (first|((with_reducible refine isW ?_;first|refine xwr_ok (by omega) (by omega) ?_|refine xwr_raw ?_);conv=>whnf)|with_reducible exact rfl|((with_reducible first|refine xif_kt (by assumption) ?_|refine xif_kf (by assumption) ?_);conv=>whnf)|((with_reducible refine xif_s ?_ ?_)<;>(intro hb;(try simp (disch:=omega) only [hbS] at hb)<;>conv=>whnf)))
   all_goals try (exfalso; omega)
   refine ⟨k + 1, [0], by (try dsimp only); omega, ?_, by (try dsimp only); omega⟩
   ((refine ⟨?_, ?_, ?_, ?_⟩) <;> (repeat' ((conv => whnf); apply And.intro)) <;> (try (first | exact trivial | decide)))
   all_goals first | rfl | exact fun _ _ h => h | (simp [SV.wf, SV.wfs]; done) | trace_state
  ·obtain rfl : k = 8 := by omega
   (conv=>whnf);repeat' (first|((with_reducible refine isC ?_);first|(((with_reducible refine isF 35 ?_);((refine CallX_m k2 [0] rfl ⟨fun _ _ h => h, trivial⟩ (by decide) (fun _ _ _ _ => trivial) ?_; intro q2; obtain ⟨A2, d2⟩ := q2)));conv=>whnf))|((with_reducible refine isW ?_;first|refine xwr_ok (by omega) (by omega) ?_|refine xwr_raw ?_);conv=>whnf)|with_reducible exact rfl|((with_reducible first|refine xif_kt (by assumption) ?_|refine xif_kf (by assumption) ?_);conv=>whnf)|((with_reducible refine xif_s ?_ ?_)<;>(intro hb;(try simp (disch:=omega) only [hbS] at hb)<;>conv=>whnf)))
   all_goals try (exfalso; omega)
   refine LoopX_inv tabOk (α := Nat × (Nat → Nat → Nat)) (fun s => s.1 ≤ L.length) (fun s => [(0, pR b1), (33, .v (.slice A2 L.length d2)), (34, I L.length), (35, I s.1)])
    (fun s => [stO b1 { c1 with rp := s.2 } S allT, .row 39 5 A2 L.length d2 (L.map encR)]) (fun s => L.length - s.1) (0, c1.rp) [0, 1] (Nat.zero_le _) ?_ ?_
   ·((refine ⟨?_, ?_, ?_, ?_⟩) <;> (repeat' ((conv => whnf); apply And.intro)) <;> (try (first | exact trivial | decide)))
    all_goals first | rfl | exact fun _ _ h => h | (simp [SV.wf, SV.wfs]; done) | trace_state
   ·rintro ⟨t, rp⟩ ht
    dsimp only at ht ⊢
    by_cases hlt : t < L.length
    ·have kt := takeUp_m b1 { c1 with rp := rp } S (L.getD t r0) (hao t hlt)
     rw [hown t hlt] at kt
     (conv=>whnf);repeat' (first|((with_reducible refine isC ?_);first|(((with_reducible refine isF 76 ?_);((refine CallX_m kt [0] rfl ⟨fun _ _ h => h, trivial⟩ (by decide) (fun _ _ _ _ => trivial) ?_; intro rp2)));conv=>whnf))|((with_reducible refine isV ?_);first|((first|refine ValX_index tabOk rfl (ArgSl.row 1 rfl) rfl ?_ ?_ ?_|(with_reducible refine nat_idx ?_);refine ValX_loadEn _ _ (r0) tabOk rfl rfl rfl rfl (ArgSl.row 1 rfl) ?_ ?_ ?_|refine ValX_loadE _ _ (r0) tabOk rfl rfl rfl rfl (ArgSl.row 1 rfl) ?_ ?_ ?_)<;>first|rfl|omega|with_reducible refine isP ?_|conv=>whnf))|((with_reducible refine isW ?_;first|refine xwr_ok (by omega) (by omega) ?_|refine xwr_raw ?_);conv=>whnf)|with_reducible exact rfl|((with_reducible first|refine xif_kt (by assumption) ?_|refine xif_kf (by assumption) ?_);conv=>whnf)|((with_reducible refine xif_s ?_ ?_)<;>(intro hb;(try simp (disch:=omega) only [hbS] at hb)<;>conv=>whnf)))
     all_goals try (exfalso; omega)
     refine ⟨(t + 1, rp2), [0, 1], by (try dsimp only); omega, ?_, by (try dsimp only); omega⟩
     ((refine ⟨?_, ?_, ?_, ?_⟩) <;> (repeat' ((conv => whnf); apply And.intro)) <;> (try (first | exact trivial | decide)))
     all_goals first | rfl | exact fun _ _ h => h | (simp [SV.wf, SV.wfs]; done) | trace_state
    ·obtain rfl : t = L.length := by omega
     (conv=>whnf);repeat' (first|((with_reducible refine isW ?_;first|refine xwr_ok (by omega) (by omega) ?_|refine xwr_raw ?_);conv=>whnf)|with_reducible exact rfl|((with_reducible first|refine xif_kt (by assumption) ?_|refine xif_kf (by assumption) ?_);conv=>whnf)|((with_reducible refine xif_s ?_ ?_)<;>(intro hb;(try simp (disch:=omega) only [hbS] at hb)<;>conv=>whnf)))
     all_goals try (exfalso; omega)
     exact Fin_m rp [0] ⟨rfl, by simp [SV.wf, SV.wfs]⟩ ⟨fun _ _ h => h, trivial⟩ (by decide) rfl
end Go.Proofs.YtlnplelandimeaaGreat.En
end
