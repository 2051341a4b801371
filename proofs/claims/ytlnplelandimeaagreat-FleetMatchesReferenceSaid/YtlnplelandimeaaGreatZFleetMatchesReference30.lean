import Derived.Test.YtlnplelandimeaaGreatZFleetMatchesReference29
set_option linter.all false
section
namespace Go.Proofs.YtlnplelandimeaaGreat.En
open Go.RowKit
set_option maxRecDepth 100000
def prs (S : SnT) (t : Nat) : Option RelT := (S.rel (t / 8) (t % 8)).map fun f => (((t / 8 : Nat) : Int), ((t % 8 : Nat) : Int), f)
def pairsN (S : SnT) (n : Nat) : List RelT := (List.range n).filterMap (prs S)
def pairs (S : SnT) : List RelT := pairsN S 64
theorem pairsN_none {S : SnT} {n : Nat} (h : prs S n = none) : pairsN S (n + 1) = pairsN S n := by
 unfold pairsN
 rw [List.range_succ, List.filterMap_append]
 simp [h]
theorem pairsN_some {S : SnT} {n : Nat} {x : RelT} (h : prs S n = some x) : pairsN S (n + 1) = pairsN S n ++ [x] := by
 unfold pairsN
 rw [List.range_succ, List.filterMap_append]
 simp [h]
theorem prs_at {S : SnT} {x y : Nat} (hy : y < 8) : prs S (8 * x + y) = (S.rel x y).map fun f => ((x : Int), (y : Int), f) := by
 unfold prs
 rw [show (8 * x + y) / 8 = x by omega, show (8 * x + y) % 8 = y by omega]
theorem pairsN_len (S : SnT) (n : Nat) : (pairsN S n).length ≤ n := by
 unfold pairsN
 exact Nat.le_trans (List.length_filterMap_le _ _) (by simp)
def rowV (c : CoT) (S : SnT) (x : Nat) : List Value := [.pointer (relP c S x 0), .pointer (relP c S x 1), .pointer (relP c S x 2), .pointer (relP c S x 3), .pointer (relP c S x 4), .pointer (relP c S x 5), .pointer (relP c S x 6), .pointer (relP c S x 7)]
theorem row_of (c : CoT) (S : SnT) {x : Nat} (hx : x < 8) : ((relsL c S).drop (x * 8)).take 8 = rowV c S x := by
 rcases (by omega : x = 0 ∨ x = 1 ∨ x = 2 ∨ x = 3 ∨ x = 4 ∨ x = 5 ∨ x = 6 ∨ x = 7) with rfl | rfl | rfl | rfl | rfl | rfl | rfl | rfl <;> rfl
theorem row_at (c : CoT) (S : SnT) (x : Nat) {y : Nat} (hy : y < 8) : ((rowV c S x).drop (y * 1)).take 1 = [.pointer (relP c S x y)] := by
 rcases (by omega : y = 0 ∨ y = 1 ∨ y = 2 ∨ y = 3 ∨ y = 4 ∨ y = 5 ∨ y = 6 ∨ y = 7) with rfl | rfl | rfl | rfl | rfl | rfl | rfl | rfl <;> rfl
theorem pts_at (c : CoT) {y : Nat} (hy : y < 8) : ((ptsL c).drop (y * 1)).take 1 = [.pointer (ptP c y)] := by
 rcases (by omega : y = 0 ∨ y = 1 ∨ y = 2 ∨ y = 3 ∨ y = 4 ∨ y = 5 ∨ y = 6 ∨ y = 7) with rfl | rfl | rfl | rfl | rfl | rfl | rfl | rfl <;> rfl
set_option maxHeartbeats 4000000 in
theorem relations_m (b : Nat) (c : CoT) (S : SnT) (H : Nat → Bool) : CallM Tryz.prog 35 [pR b] (fun _ _ => True) [stO b c S H]
 (fun q : Option Addr × Nat => .v (.slice q.1 (pairs S).length q.2)) (fun q => [stO b c S H, .row 39 5 q.1 (pairs S).length q.2 ((pairs S).map encR)]) := by
 refine CallM.of (m := 1) Tryz.func35 rfl tabOk rfl rfl rfl rfl (by simp [SV.wfs, SV.wf]) fun w M π _ => ?_
 (conv=>whnf);repeat' (first|((with_reducible refine isV ?_);first|(refine ValX_stRels 0 tabOk rfl rfl rfl rfl rfl ?_; conv => whnf))|((with_reducible refine isO ?_);first|((first|(refine OpX_build0 tabOk rfl rfl rfl ?_);intro bN|(refine OpX_build tabOk rfl rfl rfl rfl rfl ?_);intro bN);conv=>whnf))|((with_reducible refine isW ?_;first|refine xwr_ok (by omega) (by omega) ?_|refine xwr_raw ?_);conv=>whnf)|with_reducible exact rfl|((with_reducible first|refine xif_kt (by assumption) ?_|refine xif_kf (by assumption) ?_);conv=>whnf)|((with_reducible refine xif_s ?_ ?_)<;>(intro hb;(try simp (disch:=omega) only [hbS] at hb)<;>conv=>whnf)))
 refine LoopX_addNil 39 5 ?_
 conv => whnf
 refine LoopX_inv tabOk (α := Nat × Option Addr × Nat) (fun s => s.1 ≤ 8) (fun s => [(0, pR b), (3, .v (.slice s.2.1 (pairsN S (8 * s.1)).length s.2.2)), (14, .a ((relsL c S).map .v)), (15, I s.1)])
  (fun s => [stO b c S H, .row 39 5 s.2.1 (pairsN S (8 * s.1)).length s.2.2 ((pairsN S (8 * s.1)).map encR)]) (fun s => 8 - s.1) (0, none, 0) [0, 1] (by decide) ?_ ?_
 ·((refine ⟨?_, ?_, ?_, ?_⟩) <;> (repeat' ((conv => whnf); apply And.intro)) <;> (try (first | exact trivial | decide)))
  all_goals first | rfl | exact fun _ _ h => h | (simp [SV.wf, SV.wfs]; done) | trace_state
 ·rintro ⟨x, A, cc⟩ hx
  dsimp only at hx ⊢
  by_cases hlt : x < 8
  ·(conv=>whnf);repeat' (first|((with_reducible refine isV ?_);first|(refine ValX_idxA (sz := 8) (vs := relsL c S) (.a ((rowV c S x).map .v)) tabOk rfl Tryz.underlying97 rfl rfl (by omega) (by omega) (by simp [relsL]) (congrArg (fun l => SV.a (l.map .v)) (row_of c S hlt).symm) ?_; conv => whnf))|((with_reducible refine isO ?_);first|((first|(refine OpX_build0 tabOk rfl rfl rfl ?_);intro bN|(refine OpX_build tabOk rfl rfl rfl rfl rfl ?_);intro bN);conv=>whnf))|((with_reducible refine isW ?_;first|refine xwr_ok (by omega) (by omega) ?_|refine xwr_raw ?_);conv=>whnf)|with_reducible exact rfl|((with_reducible first|refine xif_kt (by assumption) ?_|refine xif_kf (by assumption) ?_);conv=>whnf)|((with_reducible refine xif_s ?_ ?_)<;>(intro hb;(try simp (disch:=omega) only [hbS] at hb)<;>conv=>whnf)))
   all_goals try (exfalso; omega)
   refine LoopX_inv tabOk (α := Nat × Option Addr × Nat) (fun s => s.1 ≤ 8) (fun s => [(0, pR b), (3, .v (.slice s.2.1 (pairsN S (8 * x + s.1)).length s.2.2)), (4, I x), (14, .a ((relsL c S).map .v)), (15, I x), (19, .a ((rowV c S x).map .v)), (20, I s.1)])
    (fun s => [stO b c S H, .row 39 5 s.2.1 (pairsN S (8 * x + s.1)).length s.2.2 ((pairsN S (8 * x + s.1)).map encR)]) (fun s => 8 - s.1) (0, A, cc) [0, 1] (Nat.zero_le _) ?_ ?_
   ·((refine ⟨?_, ?_, ?_, ?_⟩) <;> (repeat' ((conv => whnf); apply And.intro)) <;> (try (first | exact trivial | decide)))
    all_goals first | rfl | exact fun _ _ h => h | (simp [SV.wf, SV.wfs]; done) | trace_state
   ·rintro ⟨y, A, cc⟩ hy
    dsimp only at hy ⊢
    by_cases hlt2 : y < 8
    ·have hp := prs_at (S := S) (x := x) hlt2
     have hl := pairsN_len S (8 * x + y)
     rcases opt_em (S.rel x y) with hn | ⟨f, hs⟩
     ·rw [hn] at hp
      have hnx := pairsN_none hp
      generalize pairsN S (8 * x + y) = L at *
      (conv=>whnf);repeat' (first|((with_reducible refine isV ?_);first|(refine ValX_idxA (sz := 1) (vs := rowV c S x) (.v (.pointer none)) tabOk rfl Tryz.underlying96 rfl rfl (by omega) (by omega) rfl (by (try dsimp only); rw [Int.toNat_natCast, row_at c S x hlt2]; unfold relP; rw [hn]; rfl) ?_; conv => whnf))|((with_reducible refine isO ?_);first|((first|(refine OpX_build0 tabOk rfl rfl rfl ?_);intro bN|(refine OpX_build tabOk rfl rfl rfl rfl rfl ?_);intro bN);conv=>whnf))|((with_reducible refine isW ?_;first|refine xwr_ok (by omega) (by omega) ?_|refine xwr_raw ?_);conv=>whnf)|with_reducible exact rfl|((with_reducible first|refine xif_kt (by assumption) ?_|refine xif_kf (by assumption) ?_);conv=>whnf)|((with_reducible refine xif_s ?_ ?_)<;>(intro hb;(try simp (disch:=omega) only [hbS] at hb)<;>conv=>whnf)))
      all_goals try (exfalso; omega)
      refine ⟨(y + 1, A, cc), [0, 1], by (try dsimp only); omega, ?_, by (try dsimp only); omega⟩
      dsimp only
      rw [show 8 * x + (y + 1) = 8 * x + y + 1 by omega, hnx]
      ((refine ⟨?_, ?_, ?_, ?_⟩) <;> (repeat' ((conv => whnf); apply And.intro)) <;> (try (first | exact trivial | decide)))
      all_goals first | rfl | exact fun _ _ h => h | (simp [SV.wf, SV.wfs]; done) | trace_state
     ·rw [hs] at hp
      have hnx := pairsN_some hp
      generalize pairsN S (8 * x + y) = L at *
      (conv=>whnf);repeat' (first|((with_reducible refine isV ?_);first|(refine ValX_idxA (sz := 1) (vs := rowV c S x) (.v (.pointer (some ⟨c.rp x y, 2, none⟩))) tabOk rfl Tryz.underlying96 rfl rfl (by omega) (by omega) rfl (by (try dsimp only); rw [Int.toNat_natCast, row_at c S x hlt2]; unfold relP; rw [hs]; rfl) ?_; conv => whnf)|(refine ValX_stFr 0 x y f tabOk rfl rfl rfl rfl rfl hlt hlt2 hs ?_; conv => whnf))|((with_reducible refine isO ?_);first|((refine OpX_append 1 tabOk rfl rfl rfl rfl (ArgSl.row 2 rfl) (by decide) ?_ ?_ ?_)<;>first|omega|(dsimp only;omega)|(intro A' c';conv=>whnf))|((first|(refine OpX_build0 tabOk rfl rfl rfl ?_);intro bN|(refine OpX_build tabOk rfl rfl rfl rfl rfl ?_);intro bN);conv=>whnf))|((with_reducible refine isW ?_;first|refine xwr_ok (by omega) (by omega) ?_|refine xwr_raw ?_);conv=>whnf)|with_reducible exact rfl|((with_reducible first|refine xif_kt (by assumption) ?_|refine xif_kf (by assumption) ?_);conv=>whnf)|((with_reducible refine xif_s ?_ ?_)<;>(intro hb;(try simp (disch:=omega) only [hbS] at hb)<;>conv=>whnf)))
      all_goals try (exfalso; omega)
      refine ⟨(y + 1, A', c'), [0, 1], by (try dsimp only); omega, ?_, by (try dsimp only); omega⟩
      dsimp only
      rw [show 8 * x + (y + 1) = 8 * x + y + 1 by omega, hnx, List.length_append, List.map_append]
      ((refine ⟨?_, ?_, ?_, ?_⟩) <;> (repeat' ((conv => whnf); apply And.intro)) <;> (try (first | exact trivial | decide)))
      all_goals first | rfl | exact fun _ _ h => h | (simp [SV.wf, SV.wfs]; done) | trace_state
    ·obtain rfl : y = 8 := by omega
     (conv=>whnf);repeat' (first|((with_reducible refine isO ?_);first|((first|(refine OpX_build0 tabOk rfl rfl rfl ?_);intro bN|(refine OpX_build tabOk rfl rfl rfl rfl rfl ?_);intro bN);conv=>whnf))|((with_reducible refine isW ?_;first|refine xwr_ok (by omega) (by omega) ?_|refine xwr_raw ?_);conv=>whnf)|with_reducible exact rfl|((with_reducible first|refine xif_kt (by assumption) ?_|refine xif_kf (by assumption) ?_);conv=>whnf)|((with_reducible refine xif_s ?_ ?_)<;>(intro hb;(try simp (disch:=omega) only [hbS] at hb)<;>conv=>whnf)))
     all_goals try (exfalso; omega)
     refine ⟨(x + 1, A, cc), [0, 1], by (try dsimp only); omega, ?_, by (try dsimp only); omega⟩
     dsimp only
     rw [show 8 * (x + 1) = 8 * x + 8 by omega]
     ((refine ⟨?_, ?_, ?_, ?_⟩) <;> (repeat' ((conv => whnf); apply And.intro)) <;> (try (first | exact trivial | decide)))
     all_goals first | rfl | exact fun _ _ h => h | (simp [SV.wf, SV.wfs]; done) | trace_state
  ·obtain rfl : x = 8 := by omega
   (conv=>whnf);repeat' (first|((with_reducible refine isO ?_);first|((first|(refine OpX_build0 tabOk rfl rfl rfl ?_);intro bN|(refine OpX_build tabOk rfl rfl rfl rfl rfl ?_);intro bN);conv=>whnf))|((with_reducible refine isW ?_;first|refine xwr_ok (by omega) (by omega) ?_|refine xwr_raw ?_);conv=>whnf)|with_reducible exact rfl|((with_reducible first|refine xif_kt (by assumption) ?_|refine xif_kf (by assumption) ?_);conv=>whnf)|((with_reducible refine xif_s ?_ ?_)<;>(intro hb;(try simp (disch:=omega) only [hbS] at hb)<;>conv=>whnf)))
   all_goals try (exfalso; omega)
   exact Fin_m (A, cc) [0, 1] ⟨rfl, by simp [SV.wf, SV.wfs]⟩ ⟨fun _ _ h => h, ⟨rfl, rfl, rfl, rfl, rfl, rfl⟩, trivial⟩ (by decide) rfl
set_option maxHeartbeats 2000000 in
theorem fAtlas_m (b : Nat) (c : CoT) (S : SnT) (i : Nat) (hi : i < 8) : CallM Tryz.prog 37 [pR b, I i] (fun _ _ => True) [stO b c S allT]
 (fun _ : {_r : (Nat × Nat) × StI (S.ats i) // goodA (S.ats i)} => .p 1 0) (fun r => [stO b c S allT, atB r.1.1.1 r.1.1.2, scO r.1.1.1 r.1.2.1.1, plO r.1.1.2 r.1.2.1.2]) := by
 have kr := robot34_x i
 rw [show rbB (i : Int) = true by unfold rbB; exact decide_eq_true (by omega)] at kr
 refine CallM.of (m := 1) Tryz.func37 rfl tabOk rfl rfl rfl rfl (by simp [SV.wfs, SV.wf]) fun w M π _ => ?_
 (conv=>whnf);repeat' (first|((with_reducible refine isC ?_);first|((with_reducible refine CallX_pure (kr) ?_)<;>first|omega|with_reducible refine isP ?_|conv=>whnf))|((with_reducible refine isV ?_);first|((refine ValX_arr (n := 8) (sz := 1) tabOk rfl Tryz.underlying94 rfl rfl ?_ ?_ ?_) <;> first | omega | (conv => whnf))|((refine ValX_arr (n := 8) (sz := 8) tabOk rfl Tryz.underlying97 rfl rfl ?_ ?_ ?_) <;> first | omega | (conv => whnf))|((refine ValX_arr (n := 8) (sz := 1) tabOk rfl Tryz.underlying96 rfl rfl ?_ ?_ ?_) <;> first | omega | (conv => whnf))|(refine ValX_stPt 0 i _ tabOk rfl rfl rfl rfl hi rfl ?_; conv => whnf))|with_reducible exact rfl|((with_reducible first|refine xif_kt (by assumption) ?_|refine xif_kf (by assumption) ?_);conv=>whnf)|((with_reducible refine xif_s ?_ ?_)<;>(intro hb;(try simp (disch:=omega) only [hbS] at hb)<;>conv=>whnf)))
 (refine CallX_open (b := b) (c := c) (S := S) [.p 1 0] 0 i 1 ?_ ?_ ?_ hi (allT_at hi) ?_ ?_ ?_); (focus (exact Entr.of Tryz.func75 rfl rfl)); (focus rfl); (focus rfl); (focus (simp [SV.wf, SV.wfs])); (focus (intro σ h; simp [SV.vals, SV.val, ptP, h]))
 intro b1 b2 m q hok hab hg
 conv => whnf
 refine CallX_m (AClone_m b1 b2 m q hok (by rw [hab]; exact hg)) [1, 2, 3] rfl ⟨⟨rfl, rfl, by simp [SV.wf, SV.wfs]⟩, fun _ _ h => h, fun _ _ h => h, trivial⟩ (by decide) (fun _ _ _ _ => trivial) ?_
 rintro ⟨⟨y1, y2⟩, ⟨m2, q2⟩, ok2, ab2⟩
 dsimp only at ok2 ⊢
 have ab2 := ab2.trans hab
 conv => whnf
 refine ⟨b1, b2, m, q, rfl, rfl, rfl, rfl, hok, by rw [hab]; exact hg, ?_⟩
 rw [hab, updN_self]
 (conv=>whnf);repeat' (first|with_reducible exact rfl|((with_reducible first|refine xif_kt (by assumption) ?_|refine xif_kf (by assumption) ?_);conv=>whnf)|((with_reducible refine xif_s ?_ ?_)<;>(intro hb;(try simp (disch:=omega) only [hbS] at hb)<;>conv=>whnf)))
 exact Fin_m ⟨⟨(y1, y2), (m2, q2), ok2, ab2⟩, hg⟩ [0, 4, 5, 6] ⟨rfl, by simp [SV.wf, SV.wfs]⟩ ⟨fun _ _ h => h, ⟨rfl, rfl, by simp [SV.wf, SV.wfs]⟩, fun _ _ h => h, fun _ _ h => h, trivial⟩ (by decide) rfl
theorem fAtlas_bad (b : Nat) (c : CoT) (S : SnT) (i : Int) (hi : rbB i = false) : CallM Tryz.prog 37 [pR b, I i] (fun _ _ => True) [stO b c S allT] (fun _ : Unit => nilP) (fun _ => [stO b c S allT]) := by
 have kr := robot34_x i
 rw [hi] at kr
 refine CallM.of (m := 1) Tryz.func37 rfl tabOk rfl rfl rfl rfl (by simp [SV.wfs, SV.wf]) fun w M π _ => ?_
 (conv=>whnf);repeat' (first|((with_reducible refine isC ?_);first|((with_reducible refine CallX_pure (kr) ?_)<;>first|omega|with_reducible refine isP ?_|conv=>whnf))|with_reducible exact rfl|((with_reducible first|refine xif_kt (by assumption) ?_|refine xif_kf (by assumption) ?_);conv=>whnf)|((with_reducible refine xif_s ?_ ?_)<;>(intro hb;(try simp (disch:=omega) only [hbS] at hb)<;>conv=>whnf)))
 exact Fin_m () [0] ⟨rfl, by simp [SV.wf, SV.wfs]⟩ ⟨fun _ _ h => h, trivial⟩ (by decide) rfl
end Go.Proofs.YtlnplelandimeaaGreat.En
end
section
namespace Go.Proofs.YtlnplelandimeaaGreat.En
open Go.RowKit
set_option maxRecDepth 100000
def wfS (S : SnT) : Prop := (∀ x y, ¬ (x < y ∧ y < 8) → S.rel x y = none) ∧ (∀ x y f, S.rel x y = some f → (0 ≤ f.1 ∧ f.1 < 4) ∧ (-1024 ≤ f.2.1 ∧ f.2.1 ≤ 1024) ∧ -1024 ≤ f.2.2 ∧ f.2.2 ≤ 1024) ∧ ∀ i, 8 ≤ i → S.ats i = at0
theorem prs_ok {S : SnT} (h : wfS S) {t : Nat} {x : RelT} (hx : prs S t = some x) : ∃ f, S.rel (t / 8) (t % 8) = some f ∧ x = (((t / 8 : Nat) : Int), ((t % 8 : Nat) : Int), f) ∧ t / 8 < t % 8 ∧ t % 8 < 8 := by
 unfold prs at hx
 rcases opt_em (S.rel (t / 8) (t % 8)) with hn | ⟨f, hs⟩
 ·rw [hn] at hx; cases hx
 ·rw [hs] at hx
  refine ⟨f, hs, (Option.some.inj hx).symm, ?_⟩
  by_cases hc : t / 8 < t % 8 ∧ t % 8 < 8
  ·exact hc
  ·rw [h.1 _ _ hc] at hs; cases hs
theorem take_norm {S O : SnT} (h : wfS O) {u v : Nat} {f : Fr} (hf : O.rel u v = some f) : takeS S ((u : Int), (v : Int), f) = setR S u v f ∧ addOk ((u : Int), (v : Int), f) = true := by
 have hlt : u < v ∧ v < 8 := by
  by_cases hc : u < v ∧ v < 8
  ·exact hc
  ·rw [h.1 _ _ hc] at hf; cases hf
 obtain ⟨h1, h2, h3⟩ := h.2.1 u v f hf
 constructor
 ·unfold takeS normR
  dsimp only
  rw [if_neg (by omega)]
  simp only [Int.toNat_natCast]
  congr 1
  exact Prod.ext (by simp; omega) rfl
 ·unfold addOk rbB szB
  simp
  omega
theorem hear_fold {O : SnT} (h : wfS O) (S : SnT) : ∀ n, n ≤ 64 → (pairsN O n).foldl takeS S = { S with rel := fun u v => if v < 8 ∧ 8 * u + v < n then joinO keyF (S.rel u v) (O.rel u v) else S.rel u v }
 | 0, _ => by
  show S = _
  have : (fun u v => if v < 8 ∧ 8 * u + v < 0 then joinO keyF (S.rel u v) (O.rel u v) else S.rel u v) = S.rel := by
   funext u v
   rw [if_neg (by omega)]
  rw [this]
 | n + 1, hn => by
  have ih := hear_fold h S n (by omega)
  rcases opt_em (prs O n) with hp | ⟨x, hp⟩
  ·rw [pairsN_none hp, ih]
   congr 1
   funext u v
   by_cases c1 : v < 8 ∧ 8 * u + v < n
   ·rw [if_pos c1, if_pos (by omega)]
   ·rw [if_neg c1]
    by_cases c2 : v < 8 ∧ 8 * u + v < n + 1
    ·rw [if_pos c2]
     have : O.rel u v = none := by
      unfold prs at hp
      rw [show n / 8 = u by omega, show n % 8 = v by omega] at hp
      simpa using hp
     rw [this]
     rfl
    ·rw [if_neg c2]
  ·obtain ⟨f, hf, rfl, hlt⟩ := prs_ok h hp
   rw [pairsN_some hp, List.foldl_append, ih]
   simp only [List.foldl_cons, List.foldl_nil]
   rw [(take_norm h hf).1]
   unfold setR
   congr 1
   funext u v
   unfold upd2
   dsimp only
   by_cases e : u = n / 8 ∧ v = n % 8
   ·rw [if_pos e, if_neg (by omega), if_pos (by omega), e.1, e.2, hf]
    rfl
   ·rw [if_neg e]
    by_cases c1 : v < 8 ∧ 8 * u + v < n
    ·rw [if_pos c1, if_pos (by omega)]
    ·rw [if_neg c1, if_neg (by omega)]
def joinR (S O : SnT) : SnT := { S with rel := fun u v => joinO keyF (S.rel u v) (O.rel u v) }
theorem hear_pairs {O : SnT} (h : wfS O) (S : SnT) : (pairs O).foldl takeS S = joinR S O := by
 unfold pairs
 rw [hear_fold h S 64 (Nat.le_refl _)]
 unfold joinR
 congr 1
 funext u v
 by_cases c : v < 8 ∧ 8 * u + v < 64
 ·rw [if_pos c]
 ·rw [if_neg c, h.1 u v (by omega)]
  rfl
def hearS (S O : SnT) : SnT := ⟨S.me, fun u v => joinO keyF (S.rel u v) (O.rel u v), fun i => joinA (S.ats i) (O.ats i)⟩
def sameS (S1 S2 : SnT) : Prop := pairs S1 = pairs S2 ∧ ∀ i, i < 8 → S1.ats i = S2.ats i
def r0 : RelT := (0, 0, 0, 0, 0)
set_option maxHeartbeats 8000000 in
theorem fSame_m (b1 b2 : Nat) (c1 c2 : CoT) (S1 S2 : SnT) (r : Bool) (hr : r = true ↔ sameS S1 S2) : CallM Tryz.prog 30 [pR b1, pR b2] (fun _ _ => True) [stO b1 c1 S1 allT, stO b2 c2 S2 allT]
 (fun _ : Unit => B r) (fun _ => [stO b1 c1 S1 allT, stO b2 c2 S2 allT]) := by
 have k1 := relations_m b1 c1 S1 allT
 have k2 := relations_m b2 c2 S2 allT
 have ka1 := fun i hi => fAtlas_m b1 c1 S1 i hi
 have ka2 := fun i hi => fAtlas_m b2 c2 S2 i hi
 have hl1 := pairsN_len S1 64
 have hl2 := pairsN_len S2 64
 have hfin : pairs S1 = pairs S2 → (∀ i, i < 8 → S1.ats i = S2.ats i) → r = true := fun h h' => hr.2 ⟨h, h'⟩
 have hno : ¬ (pairs S1 = pairs S2) → r = false := fun h => by
  rcases Bool.eq_false_or_eq_true r with e | e
  ·exact (h (hr.1 e).1).elim
  ·exact e
 have hno2 : ∀ i, i < 8 → ¬ (S1.ats i = S2.ats i) → r = false := fun i hi h => by
  rcases Bool.eq_false_or_eq_true r with e | e
  ·exact (h ((hr.1 e).2 i hi)).elim
  ·exact e
 clear hr
 have e1 : pairsN S1 64 = pairs S1 := rfl
 have e2 : pairsN S2 64 = pairs S2 := rfl
 rw [e1] at hl1
 rw [e2] at hl2
 clear e1 e2
 generalize pairs S1 = L1 at *
 generalize pairs S2 = L2 at *
 refine CallM.of (m := 2) Tryz.func30 rfl tabOk rfl rfl rfl rfl (by simp [SV.wfs, SV.wf]) fun w M π _ => ?_
 (conv=>whnf);repeat' (first|((with_reducible refine isC ?_);first|(((with_reducible refine isF 35 ?_);(first | (refine CallX_m k1 [0] rfl ⟨fun _ _ h => h, trivial⟩ (by decide) (fun _ _ _ _ => trivial) ?_; intro q1; obtain ⟨A1, d1⟩ := q1) | (refine CallX_m k2 [1] rfl ⟨fun _ _ h => h, trivial⟩ (by decide) (fun _ _ _ _ => trivial) ?_; intro q2; obtain ⟨A2, d2⟩ := q2)));conv=>whnf))|((with_reducible refine isW ?_;first|refine xwr_ok (by omega) (by omega) ?_|refine xwr_raw ?_);conv=>whnf)|((first|refine DrawX_s tabOk folOk ?_|refine DrawS_i (by kernel_rfl) ?_|with_reducible refine andX_i ?_ ?_)<;>conv=>whnf)|with_reducible exact rfl|((with_reducible first|refine xif_kt (by assumption) ?_|refine xif_kf (by assumption) ?_);conv=>whnf)|((with_reducible refine xif_s ?_ ?_)<;>(intro hb;(try simp (disch:=omega) only [hbS] at hb)<;>conv=>whnf)))
 ·have hne := hno (fun e => by rw [e] at hb; exact hb rfl)
  exact Fin_m () [0, 1] ⟨by rw [hne]; rfl, by simp [SV.wf, SV.wfs]⟩ ⟨fun _ _ h => h, fun _ _ h => h, trivial⟩ (by decide) rfl
 clear k1 k2
 have hb : L1.length = L2.length := by omega
 refine LoopX_inv tabOk (α := Nat) (fun k => k ≤ L1.length ∧ ∀ j, j < k → L1.getD j r0 = L2.getD j r0) (fun k => [(0, pR b1), (1, pR b2), (5, .v (.slice A1 L1.length d1)), (6, .v (.slice A2 L2.length d2)), (19, I L1.length), (20, I k)])
  (fun _ => [stO b1 c1 S1 allT, stO b2 c2 S2 allT, .row 39 5 A1 L1.length d1 (L1.map encR), .row 39 5 A2 L2.length d2 (L2.map encR)]) (fun k => L1.length - k) 0 [0, 1, 2, 3] ⟨Nat.zero_le _, fun j hj => by omega⟩ ?_ ?_
 ·((refine ⟨?_, ?_, ?_, ?_⟩) <;> (repeat' ((conv => whnf); apply And.intro)) <;> (try (first | exact trivial | decide)))
  all_goals first | rfl | exact fun _ _ h => h | (simp [SV.wf, SV.wfs]; done) | trace_state
 ·rintro k ⟨hk, hall⟩
  by_cases hlt : k < L1.length
  ·by_cases he : L1.getD k r0 = L2.getD k r0
   ·(conv=>whnf);repeat' (first|((with_reducible refine isV ?_);first|((first|refine ValX_index tabOk rfl (ArgSl.row 2 rfl) rfl ?_ ?_ ?_|(with_reducible refine nat_idx ?_);refine ValX_loadEn _ _ (r0) tabOk rfl rfl rfl rfl (ArgSl.row 2 rfl) ?_ ?_ ?_|refine ValX_loadE _ _ (r0) tabOk rfl rfl rfl rfl (ArgSl.row 2 rfl) ?_ ?_ ?_|refine ValX_index tabOk rfl (ArgSl.row 3 rfl) rfl ?_ ?_ ?_|(with_reducible refine nat_idx ?_);refine ValX_loadEn _ _ (r0) tabOk rfl rfl rfl rfl (ArgSl.row 3 rfl) ?_ ?_ ?_|refine ValX_loadE _ _ (r0) tabOk rfl rfl rfl rfl (ArgSl.row 3 rfl) ?_ ?_ ?_)<;>first|rfl|omega|with_reducible refine isP ?_|conv=>whnf))|((with_reducible refine isW ?_;first|refine xwr_ok (by omega) (by omega) ?_|refine xwr_raw ?_);conv=>whnf)|((first|refine DrawX_s tabOk folOk ?_|refine DrawS_i (by kernel_rfl) ?_|with_reducible refine andX_i ?_ ?_)<;>conv=>whnf)|with_reducible exact rfl|((with_reducible first|refine xif_kt (by assumption) ?_|refine xif_kf (by assumption) ?_);conv=>whnf)|((with_reducible refine xif_s ?_ ?_)<;>(intro hb;(try simp (disch:=omega) only [hbS] at hb)<;>conv=>whnf)))
    all_goals try (exfalso; omega)
    all_goals try (exfalso; rw [he] at hb; simp at hb; done)
    refine ⟨k + 1, [0, 1, 2, 3], ⟨by (try dsimp only); omega, fun j hj => ?_⟩, ?_, by (try dsimp only); omega⟩
    ·by_cases e : j = k
     ·rw [e]; exact he
     ·exact hall j (by omega)
    ·((refine ⟨?_, ?_, ?_, ?_⟩) <;> (repeat' ((conv => whnf); apply And.intro)) <;> (try (first | exact trivial | decide)))
     all_goals first | rfl | exact fun _ _ h => h | (simp [SV.wf, SV.wfs]; done) | trace_state
   ·have hne := hno (fun e => he (by rw [e]))
    (conv=>whnf);repeat' (first|((with_reducible refine isV ?_);first|((first|refine ValX_index tabOk rfl (ArgSl.row 2 rfl) rfl ?_ ?_ ?_|(with_reducible refine nat_idx ?_);refine ValX_loadEn _ _ (r0) tabOk rfl rfl rfl rfl (ArgSl.row 2 rfl) ?_ ?_ ?_|refine ValX_loadE _ _ (r0) tabOk rfl rfl rfl rfl (ArgSl.row 2 rfl) ?_ ?_ ?_|refine ValX_index tabOk rfl (ArgSl.row 3 rfl) rfl ?_ ?_ ?_|(with_reducible refine nat_idx ?_);refine ValX_loadEn _ _ (r0) tabOk rfl rfl rfl rfl (ArgSl.row 3 rfl) ?_ ?_ ?_|refine ValX_loadE _ _ (r0) tabOk rfl rfl rfl rfl (ArgSl.row 3 rfl) ?_ ?_ ?_)<;>first|rfl|omega|with_reducible refine isP ?_|conv=>whnf))|((with_reducible refine isW ?_;first|refine xwr_ok (by omega) (by omega) ?_|refine xwr_raw ?_);conv=>whnf)|((first|refine DrawX_s tabOk folOk ?_|refine DrawS_i (by kernel_rfl) ?_|with_reducible refine andX_i ?_ ?_)<;>conv=>whnf)|with_reducible exact rfl|((with_reducible first|refine xif_kt (by assumption) ?_|refine xif_kf (by assumption) ?_);conv=>whnf)|((with_reducible refine xif_s ?_ ?_)<;>(intro hb;(try simp (disch:=omega) only [hbS] at hb)<;>conv=>whnf)))
    all_goals try (exfalso; omega)
    all_goals first
     | exact Fin_m () [0, 1] ⟨by rw [hne]; rfl, by simp [SV.wf, SV.wfs]⟩ ⟨fun _ _ h => h, fun _ _ h => h, trivial⟩ (by decide) rfl
     | (exfalso; apply he; simp [Prod.ext_iff] at hb ⊢; exact hb; done)
     | trace_state
  ·obtain rfl : k = L1.length := by omega
   have hL : L1 = L2 := ext_getD r0 rfl hb.symm hall
   (conv=>whnf);repeat' (first|((with_reducible refine isW ?_;first|refine xwr_ok (by omega) (by omega) ?_|refine xwr_raw ?_);conv=>whnf)|((first|refine DrawX_s tabOk folOk ?_|refine DrawS_i (by kernel_rfl) ?_|with_reducible refine andX_i ?_ ?_)<;>conv=>whnf)|with_reducible exact rfl|((with_reducible first|refine xif_kt (by assumption) ?_|refine xif_kf (by assumption) ?_);conv=>whnf)|((with_reducible refine xif_s ?_ ?_)<;>(intro hb;(try simp (disch:=omega) only [hbS] at hb)<;>conv=>whnf)))
   all_goals try (exfalso; omega)
   refine LoopX_inv tabOk (α := Nat) (fun k => k ≤ 8 ∧ ∀ j, j < k → S1.ats j = S2.ats j) (fun k => [(0, pR b1), (1, pR b2), (33, I k)]) (fun _ => [stO b1 c1 S1 allT, stO b2 c2 S2 allT]) (fun k => 8 - k) 0 [0, 1] ⟨Nat.zero_le _, fun j hj => by omega⟩ ?_ ?_
   ·((refine ⟨?_, ?_, ?_, ?_⟩) <;> (repeat' ((conv => whnf); apply And.intro)) <;> (try (first | exact trivial | decide)))
    all_goals first | rfl | exact fun _ _ h => h | (simp [SV.wf, SV.wfs]; done) | trace_state
   ·rintro k ⟨hk, hall⟩
    by_cases hlt : k < 8
    ·have k1 := ka1 k hlt
     have k2 := ka2 k hlt
     have hn2 := hno2 k hlt
     (conv=>whnf);repeat' (first|((with_reducible refine isC ?_);first|(((with_reducible refine isF 37 ?_);(first | (refine CallX_m k1 [0] rfl ⟨fun _ _ h => h, trivial⟩ (by decide) (fun _ _ _ _ => trivial) ?_; intro q1; obtain ⟨⟨⟨x1, x2⟩, ⟨ma, qa⟩, oka, aba⟩, ga⟩ := q1) | (refine CallX_m k2 [1] rfl ⟨fun _ _ h => h, trivial⟩ (by decide) (fun _ _ _ _ => trivial) ?_; intro q2; obtain ⟨⟨⟨y1, y2⟩, ⟨mb, qb⟩, okb, abb⟩, gb⟩ := q2)));conv=>whnf))|((with_reducible refine isW ?_;first|refine xwr_ok (by omega) (by omega) ?_|refine xwr_raw ?_);conv=>whnf)|((first|refine DrawX_s tabOk folOk ?_|refine DrawS_i (by kernel_rfl) ?_|with_reducible refine andX_i ?_ ?_)<;>conv=>whnf)|with_reducible exact rfl|((with_reducible first|refine xif_kt (by assumption) ?_|refine xif_kf (by assumption) ?_);conv=>whnf)|((with_reducible refine xif_s ?_ ?_)<;>(intro hb;(try simp (disch:=omega) only [hbS] at hb)<;>conv=>whnf)))
     all_goals try (exfalso; omega)
     by_cases he : S1.ats k = S2.ats k
     ·refine CallX_m (SameG_m x1 x2 y1 y2 ma mb qa qb oka okb (by rw [aba]; exact ga) (by rw [abb]; exact gb) true (by rw [aba, abb]; simp [he])) [2, 3, 4, 5, 6, 7] rfl ⟨⟨rfl, rfl, by simp [SV.wf, SV.wfs]⟩, fun _ _ h => h, fun _ _ h => h, ⟨rfl, rfl, by simp [SV.wf, SV.wfs]⟩, fun _ _ h => h, fun _ _ h => h, trivial⟩ (by decide) (fun _ _ _ _ => trivial) ?_
      intro u
      (conv=>whnf);repeat' (first|((with_reducible refine isW ?_;first|refine xwr_ok (by omega) (by omega) ?_|refine xwr_raw ?_);conv=>whnf)|((first|refine DrawX_s tabOk folOk ?_|refine DrawS_i (by kernel_rfl) ?_|with_reducible refine andX_i ?_ ?_)<;>conv=>whnf)|with_reducible exact rfl|((with_reducible first|refine xif_kt (by assumption) ?_|refine xif_kf (by assumption) ?_);conv=>whnf)|((with_reducible refine xif_s ?_ ?_)<;>(intro hb;(try simp (disch:=omega) only [hbS] at hb)<;>conv=>whnf)))
      all_goals try (exfalso; omega)
      refine ⟨k + 1, [0, 1], ⟨by (try dsimp only); omega, fun j hj => ?_⟩, ?_, by (try dsimp only); omega⟩
      ·by_cases e : j = k
       ·rw [e]; exact he
       ·exact hall j (by omega)
      ·((refine ⟨?_, ?_, ?_, ?_⟩) <;> (repeat' ((conv => whnf); apply And.intro)) <;> (try (first | exact trivial | decide)))
       all_goals first | rfl | exact fun _ _ h => h | (simp [SV.wf, SV.wfs]; done) | trace_state
     ·have hne := hn2 he
      refine CallX_m (SameG_m x1 x2 y1 y2 ma mb qa qb oka okb (by rw [aba]; exact ga) (by rw [abb]; exact gb) false (by rw [aba, abb]; simp [he])) [2, 3, 4, 5, 6, 7] rfl ⟨⟨rfl, rfl, by simp [SV.wf, SV.wfs]⟩, fun _ _ h => h, fun _ _ h => h, ⟨rfl, rfl, by simp [SV.wf, SV.wfs]⟩, fun _ _ h => h, fun _ _ h => h, trivial⟩ (by decide) (fun _ _ _ _ => trivial) ?_
      intro u
      (conv=>whnf);repeat' (first|((with_reducible refine isW ?_;first|refine xwr_ok (by omega) (by omega) ?_|refine xwr_raw ?_);conv=>whnf)|((first|refine DrawX_s tabOk folOk ?_|refine DrawS_i (by kernel_rfl) ?_|with_reducible refine andX_i ?_ ?_)<;>conv=>whnf)|with_reducible exact rfl|((with_reducible first|refine xif_kt (by assumption) ?_|refine xif_kf (by assumption) ?_);conv=>whnf)|((with_reducible refine xif_s ?_ ?_)<;>(intro hb;(try simp (disch:=omega) only [hbS] at hb)<;>conv=>whnf)))
      all_goals try (exfalso; omega)
      exact Fin_m () [0, 1] ⟨by rw [hne]; rfl, by simp [SV.wf, SV.wfs]⟩ ⟨fun _ _ h => h, fun _ _ h => h, trivial⟩ (by decide) rfl
    ·obtain rfl : k = 8 := by omega
     have ht := hfin hL hall
     (conv=>whnf);repeat' (first|((with_reducible refine isW ?_;first|refine xwr_ok (by omega) (by omega) ?_|refine xwr_raw ?_);conv=>whnf)|((first|refine DrawX_s tabOk folOk ?_|refine DrawS_i (by kernel_rfl) ?_|with_reducible refine andX_i ?_ ?_)<;>conv=>whnf)|with_reducible exact rfl|((with_reducible first|refine xif_kt (by assumption) ?_|refine xif_kf (by assumption) ?_);conv=>whnf)|((with_reducible refine xif_s ?_ ?_)<;>(intro hb;(try simp (disch:=omega) only [hbS] at hb)<;>conv=>whnf)))
     all_goals try (exfalso; omega)
     exact Fin_m () [0, 1] ⟨by rw [ht]; rfl, by simp [SV.wf, SV.wfs]⟩ ⟨fun _ _ h => h, fun _ _ h => h, trivial⟩ (by decide) rfl
end Go.Proofs.YtlnplelandimeaaGreat.En
end
