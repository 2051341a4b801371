import Derived.Test.YtlnplelandimeaaGreatZFleetNew28
import Derived.Test.YtlnplelandimeaaGreatZFleetNew12
import Derived.Test.YtlnplelandimeaaGreatZFleetNew22
set_option linter.all false
section
namespace Go.Proofs.YtlnplelandimeaaGreat.En
open Go.RowKit
set_option maxRecDepth 100000
def prs (S : SnT) (t : Nat) : Option RelT := (S.rel (t / 8) (t % 8)).map fun f => (((t / 8 : Nat) : Int), ((t % 8 : Nat) : Int), f)
def pairsN (S : SnT) (n : Nat) : List RelT := (List.range n).filterMap (prs S)
def pairs (S : SnT) : List RelT := pairsN S 64
theorem pairsN_none {S : SnT} {n : Nat} (h : prs S n = none) : pairsN S (n + 1) = pairsN S n := by
  unfold pairsN
  rw [List.range_succ, List.filterMap_append]
  simp [h]
theorem pairsN_some {S : SnT} {n : Nat} {x : RelT} (h : prs S n = some x) : pairsN S (n + 1) = pairsN S n ++ [x] := by
  unfold pairsN
  rw [List.range_succ, List.filterMap_append]
  simp [h]
theorem prs_at {S : SnT} {x y : Nat} (hy : y < 8) : prs S (8 * x + y) = (S.rel x y).map fun f => ((x : Int), (y : Int), f) := by
  unfold prs
  rw [show (8 * x + y) / 8 = x by omega, show (8 * x + y) % 8 = y by omega]
theorem pairsN_len (S : SnT) (n : Nat) : (pairsN S n).length ≤ n := by
  unfold pairsN
  exact Nat.le_trans (List.length_filterMap_le _ _) (by simp)
def rowV (c : CoT) (S : SnT) (x : Nat) : List Value := [.pointer (relP c S x 0), .pointer (relP c S x 1), .pointer (relP c S x 2), .pointer (relP c S x 3), .pointer (relP c S x 4), .pointer (relP c S x 5), .pointer (relP c S x 6), .pointer (relP c S x 7)]
theorem row_of (c : CoT) (S : SnT) {x : Nat} (hx : x < 8) : ((relsL c S).drop (x * 8)).take 8 = rowV c S x := by
  rcases (by omega : x = 0 ∨ x = 1 ∨ x = 2 ∨ x = 3 ∨ x = 4 ∨ x = 5 ∨ x = 6 ∨ x = 7) with rfl | rfl | rfl | rfl | rfl | rfl | rfl | rfl <;> rfl
theorem row_at (c : CoT) (S : SnT) (x : Nat) {y : Nat} (hy : y < 8) : ((rowV c S x).drop (y * 1)).take 1 = [.pointer (relP c S x y)] := by
  rcases (by omega : y = 0 ∨ y = 1 ∨ y = 2 ∨ y = 3 ∨ y = 4 ∨ y = 5 ∨ y = 6 ∨ y = 7) with rfl | rfl | rfl | rfl | rfl | rfl | rfl | rfl <;> rfl
theorem pts_at (c : CoT) {y : Nat} (hy : y < 8) : ((ptsL c).drop (y * 1)).take 1 = [.pointer (ptP c y)] := by
  rcases (by omega : y = 0 ∨ y = 1 ∨ y = 2 ∨ y = 3 ∨ y = 4 ∨ y = 5 ∨ y = 6 ∨ y = 7) with rfl | rfl | rfl | rfl | rfl | rfl | rfl | rfl <;> rfl
set_option maxHeartbeats 4000000 in
theorem relations_m (b : Nat) (c : CoT) (S : SnT) (H : Nat → Bool) : CallM Tryz.prog 35 [pR b] (fun _ _ => True) [stO b c S H]
    (fun q : Option Addr × Nat => .v (.slice q.1 (pairs S).length q.2)) (fun q => [stO b c S H, .row 39 5 q.1 (pairs S).length q.2 ((pairs S).map encR)]) := by
  refine CallM.of (m := 1) Tryz.func35 rfl tabOk rfl rfl rfl rfl (by simp [SV.wfs, SV.wf]) fun w M π _ => ?_
  (conv => whnf); repeat' (first | ((with_reducible refine isV ?_); first | (refine ValX_stRels 0 tabOk rfl rfl rfl rfl rfl ?_; conv => whnf)) | ((with_reducible refine isO ?_); first | ((refine OpX_build0 tabOk rfl rfl rfl ?_); intro bN; conv => whnf) | ((refine OpX_build tabOk rfl rfl rfl rfl rfl ?_); intro bN; conv => whnf)) | ((with_reducible refine isW ?_); first | ((with_reducible refine xwr_ok (by omega) (by omega) ?_); conv => whnf) | ((with_reducible refine xwr_raw ?_); conv => whnf)) | (with_reducible exact rfl) | ((with_reducible refine xif_kt (by with_reducible assumption) ?_); conv => whnf) | ((with_reducible refine xif_kf (by with_reducible assumption) ?_); conv => whnf) | (((with_reducible refine xif_s ?_ ?_) <;> (intro hb; (try simp (disch := omega) only [hbS] at hb))) <;> (conv => whnf)))
  refine LoopX_addNil 39 5 ?_
  conv => whnf
  refine LoopX_inv tabOk (α := Nat × Option Addr × Nat) (fun s => s.1 ≤ 8) (fun s => [(0, pR b), (3, .v (.slice s.2.1 (pairsN S (8 * s.1)).length s.2.2)), (14, .a ((relsL c S).map .v)), (15, I s.1)])
    (fun s => [stO b c S H, .row 39 5 s.2.1 (pairsN S (8 * s.1)).length s.2.2 ((pairsN S (8 * s.1)).map encR)]) (fun s => 8 - s.1) (0, none, 0) [0, 1] (by decide) ?_ ?_
  · ((refine ⟨?_, ?_, ?_, ?_⟩) <;> (repeat' ((conv => whnf); apply And.intro)) <;> (try (first | exact trivial | decide)))
    all_goals first | rfl | exact fun _ _ h => h | (simp [SV.wf, SV.wfs]; done) | trace_state
  · rintro ⟨x, A, cc⟩ hx
    dsimp only at hx ⊢
    by_cases hlt : x < 8
    · (conv => whnf); repeat' (first | ((with_reducible refine isV ?_); first | (refine ValX_idxA (sz := 8) (vs := relsL c S) (.a ((rowV c S x).map .v)) tabOk rfl Tryz.underlying97 rfl rfl (by omega) (by omega) (by simp [relsL]) (congrArg (fun l => SV.a (l.map .v)) (row_of c S hlt).symm) ?_; conv => whnf)) | ((with_reducible refine isO ?_); first | ((refine OpX_build0 tabOk rfl rfl rfl ?_); intro bN; conv => whnf) | ((refine OpX_build tabOk rfl rfl rfl rfl rfl ?_); intro bN; conv => whnf)) | ((with_reducible refine isW ?_); first | ((with_reducible refine xwr_ok (by omega) (by omega) ?_); conv => whnf) | ((with_reducible refine xwr_raw ?_); conv => whnf)) | (with_reducible exact rfl) | ((with_reducible refine xif_kt (by with_reducible assumption) ?_); conv => whnf) | ((with_reducible refine xif_kf (by with_reducible assumption) ?_); conv => whnf) | (((with_reducible refine xif_s ?_ ?_) <;> (intro hb; (try simp (disch := omega) only [hbS] at hb))) <;> (conv => whnf)))
      all_goals try (exfalso; omega)
      refine LoopX_inv tabOk (α := Nat × Option Addr × Nat) (fun s => s.1 ≤ 8) (fun s => [(0, pR b), (3, .v (.slice s.2.1 (pairsN S (8 * x + s.1)).length s.2.2)), (4, I x), (14, .a ((relsL c S).map .v)), (15, I x), (19, .a ((rowV c S x).map .v)), (20, I s.1)])
        (fun s => [stO b c S H, .row 39 5 s.2.1 (pairsN S (8 * x + s.1)).length s.2.2 ((pairsN S (8 * x + s.1)).map encR)]) (fun s => 8 - s.1) (0, A, cc) [0, 1] (Nat.zero_le _) ?_ ?_
      · ((refine ⟨?_, ?_, ?_, ?_⟩) <;> (repeat' ((conv => whnf); apply And.intro)) <;> (try (first | exact trivial | decide)))
        all_goals first | rfl | exact fun _ _ h => h | (simp [SV.wf, SV.wfs]; done) | trace_state
      · rintro ⟨y, A, cc⟩ hy
        dsimp only at hy ⊢
        by_cases hlt2 : y < 8
        · have hp := prs_at (S := S) (x := x) hlt2
          have hl := pairsN_len S (8 * x + y)
          rcases opt_em (S.rel x y) with hn | ⟨f, hs⟩
          · rw [hn] at hp
            have hnx := pairsN_none hp
            generalize pairsN S (8 * x + y) = L at *
            (conv => whnf); repeat' (first | ((with_reducible refine isV ?_); first | (refine ValX_idxA (sz := 1) (vs := rowV c S x) (.v (.pointer none)) tabOk rfl Tryz.underlying96 rfl rfl (by omega) (by omega) rfl (by (try dsimp only); rw [Int.toNat_natCast, row_at c S x hlt2]; unfold relP; rw [hn]; rfl) ?_; conv => whnf)) | ((with_reducible refine isO ?_); first | ((refine OpX_build0 tabOk rfl rfl rfl ?_); intro bN; conv => whnf) | ((refine OpX_build tabOk rfl rfl rfl rfl rfl ?_); intro bN; conv => whnf)) | ((with_reducible refine isW ?_); first | ((with_reducible refine xwr_ok (by omega) (by omega) ?_); conv => whnf) | ((with_reducible refine xwr_raw ?_); conv => whnf)) | (with_reducible exact rfl) | ((with_reducible refine xif_kt (by with_reducible assumption) ?_); conv => whnf) | ((with_reducible refine xif_kf (by with_reducible assumption) ?_); conv => whnf) | (((with_reducible refine xif_s ?_ ?_) <;> (intro hb; (try simp (disch := omega) only [hbS] at hb))) <;> (conv => whnf)))
            all_goals try (exfalso; omega)
            refine ⟨(y + 1, A, cc), [0, 1], by (try dsimp only); omega, ?_, by (try dsimp only); omega⟩
            dsimp only
            rw [show 8 * x + (y + 1) = 8 * x + y + 1 by omega, hnx]
            ((refine ⟨?_, ?_, ?_, ?_⟩) <;> (repeat' ((conv => whnf); apply And.intro)) <;> (try (first | exact trivial | decide)))
            all_goals first | rfl | exact fun _ _ h => h | (simp [SV.wf, SV.wfs]; done) | trace_state
          · rw [hs] at hp
            have hnx := pairsN_some hp
            generalize pairsN S (8 * x + y) = L at *
            (conv => whnf); repeat' (first | ((with_reducible refine isV ?_); first | (refine ValX_idxA (sz := 1) (vs := rowV c S x) (.v (.pointer (some ⟨c.rp x y, 2, none⟩))) tabOk rfl Tryz.underlying96 rfl rfl (by omega) (by omega) rfl (by (try dsimp only); rw [Int.toNat_natCast, row_at c S x hlt2]; unfold relP; rw [hs]; rfl) ?_; conv => whnf) | (refine ValX_stFr 0 x y f tabOk rfl rfl rfl rfl rfl hlt hlt2 hs ?_; conv => whnf)) | ((with_reducible refine isO ?_); first | ((refine OpX_append 1 tabOk rfl rfl rfl rfl (ArgSl.row 2 rfl) (by decide) ?_ ?_ ?_) <;> first | omega | (dsimp only; omega) | (intro A' c'; conv => whnf)) | ((refine OpX_build0 tabOk rfl rfl rfl ?_); intro bN; conv => whnf) | ((refine OpX_build tabOk rfl rfl rfl rfl rfl ?_); intro bN; conv => whnf)) | ((with_reducible refine isW ?_); first | ((with_reducible refine xwr_ok (by omega) (by omega) ?_); conv => whnf) | ((with_reducible refine xwr_raw ?_); conv => whnf)) | (with_reducible exact rfl) | ((with_reducible refine xif_kt (by with_reducible assumption) ?_); conv => whnf) | ((with_reducible refine xif_kf (by with_reducible assumption) ?_); conv => whnf) | (((with_reducible refine xif_s ?_ ?_) <;> (intro hb; (try simp (disch := omega) only [hbS] at hb))) <;> (conv => whnf)))
            all_goals try (exfalso; omega)
            refine ⟨(y + 1, A', c'), [0, 1], by (try dsimp only); omega, ?_, by (try dsimp only); omega⟩
            dsimp only
            rw [show 8 * x + (y + 1) = 8 * x + y + 1 by omega, hnx, List.length_append, List.map_append]
            ((refine ⟨?_, ?_, ?_, ?_⟩) <;> (repeat' ((conv => whnf); apply And.intro)) <;> (try (first | exact trivial | decide)))
            all_goals first | rfl | exact fun _ _ h => h | (simp [SV.wf, SV.wfs]; done) | trace_state
        · obtain rfl : y = 8 := by omega
          (conv => whnf); repeat' (first | ((with_reducible refine isO ?_); first | ((refine OpX_build0 tabOk rfl rfl rfl ?_); intro bN; conv => whnf) | ((refine OpX_build tabOk rfl rfl rfl rfl rfl ?_); intro bN; conv => whnf)) | ((with_reducible refine isW ?_); first | ((with_reducible refine xwr_ok (by omega) (by omega) ?_); conv => whnf) | ((with_reducible refine xwr_raw ?_); conv => whnf)) | (with_reducible exact rfl) | ((with_reducible refine xif_kt (by with_reducible assumption) ?_); conv => whnf) | ((with_reducible refine xif_kf (by with_reducible assumption) ?_); conv => whnf) | (((with_reducible refine xif_s ?_ ?_) <;> (intro hb; (try simp (disch := omega) only [hbS] at hb))) <;> (conv => whnf)))
          all_goals try (exfalso; omega)
          refine ⟨(x + 1, A, cc), [0, 1], by (try dsimp only); omega, ?_, by (try dsimp only); omega⟩
          dsimp only
          rw [show 8 * (x + 1) = 8 * x + 8 by omega]
          ((refine ⟨?_, ?_, ?_, ?_⟩) <;> (repeat' ((conv => whnf); apply And.intro)) <;> (try (first | exact trivial | decide)))
          all_goals first | rfl | exact fun _ _ h => h | (simp [SV.wf, SV.wfs]; done) | trace_state
    · obtain rfl : x = 8 := by omega
      (conv => whnf); repeat' (first | ((with_reducible refine isO ?_); first | ((refine OpX_build0 tabOk rfl rfl rfl ?_); intro bN; conv => whnf) | ((refine OpX_build tabOk rfl rfl rfl rfl rfl ?_); intro bN; conv => whnf)) | ((with_reducible refine isW ?_); first | ((with_reducible refine xwr_ok (by omega) (by omega) ?_); conv => whnf) | ((with_reducible refine xwr_raw ?_); conv => whnf)) | (with_reducible exact rfl) | ((with_reducible refine xif_kt (by with_reducible assumption) ?_); conv => whnf) | ((with_reducible refine xif_kf (by with_reducible assumption) ?_); conv => whnf) | (((with_reducible refine xif_s ?_ ?_) <;> (intro hb; (try simp (disch := omega) only [hbS] at hb))) <;> (conv => whnf)))
      all_goals try (exfalso; omega)
      exact Fin_m (A, cc) [0, 1] ⟨rfl, by simp [SV.wf, SV.wfs]⟩ ⟨fun _ _ h => h, ⟨rfl, rfl, rfl, rfl, rfl, rfl⟩, trivial⟩ (by decide) rfl
theorem updN_self {α : Type} (f : Nat → α) (i : Nat) : updN f i (f i) = f := by
  funext k
  unfold updN
  split
  · rename_i h; rw [h]
  · rfl
set_option maxHeartbeats 2000000 in
theorem fAtlas_m (b : Nat) (c : CoT) (S : SnT) (i : Nat) (hi : i < 8) : CallM Tryz.prog 37 [pR b, I i] (fun _ _ => True) [stO b c S allT]
    (fun _ : {_r : (Nat × Nat) × StI (S.ats i) // goodA (S.ats i)} => .p 1 0) (fun r => [stO b c S allT, atB r.1.1.1 r.1.1.2, scO r.1.1.1 r.1.2.1.1, plO r.1.1.2 r.1.2.1.2]) := by
  have kr := robot34_x i
  rw [show rbB (i : Int) = true by unfold rbB; exact decide_eq_true (by omega)] at kr
  refine CallM.of (m := 1) Tryz.func37 rfl tabOk rfl rfl rfl rfl (by simp [SV.wfs, SV.wf]) fun w M π _ => ?_
  (conv => whnf); repeat' (first | ((with_reducible refine isC ?_); first | ((with_reducible refine CallX_pure (kr) ?_) <;> first | omega | (with_reducible show (_ : Int) ≤ _) | (with_reducible show (_ : Int) < _) | (with_reducible show (_ : Nat) ≤ _) | (with_reducible show (_ : Nat) < _) | (conv => whnf))) | ((with_reducible refine isV ?_); first | ((refine ValX_arr (n := 8) (sz := 1) tabOk rfl Tryz.underlying94 rfl rfl ?_ ?_ ?_) <;> first | omega | (conv => whnf)) | ((refine ValX_arr (n := 8) (sz := 8) tabOk rfl Tryz.underlying97 rfl rfl ?_ ?_ ?_) <;> first | omega | (conv => whnf)) | ((refine ValX_arr (n := 8) (sz := 1) tabOk rfl Tryz.underlying96 rfl rfl ?_ ?_ ?_) <;> first | omega | (conv => whnf)) | (refine ValX_stPt 0 i _ tabOk rfl rfl rfl rfl hi rfl ?_; conv => whnf)) | (with_reducible exact rfl) | ((with_reducible refine xif_kt (by with_reducible assumption) ?_); conv => whnf) | ((with_reducible refine xif_kf (by with_reducible assumption) ?_); conv => whnf) | (((with_reducible refine xif_s ?_ ?_) <;> (intro hb; (try simp (disch := omega) only [hbS] at hb))) <;> (conv => whnf)))
  (refine CallX_open (b := b) (c := c) (S := S) [.p 1 0] 0 i 1 ?_ ?_ ?_ hi (allT_at hi) ?_ ?_ ?_); (focus (exact Entr.of Tryz.func75 rfl rfl)); (focus rfl); (focus rfl); (focus (simp [SV.wf, SV.wfs])); (focus (intro σ h; simp [SV.vals, SV.val, ptP, h]))
  intro b1 b2 m q hok hab hg
  conv => whnf
  refine CallX_m (AClone_m b1 b2 m q hok (by rw [hab]; exact hg)) [1, 2, 3] rfl ⟨⟨rfl, rfl, by simp [SV.wf, SV.wfs]⟩, fun _ _ h => h, fun _ _ h => h, trivial⟩ (by decide) (fun _ _ _ _ => trivial) ?_
  rintro ⟨⟨y1, y2⟩, ⟨m2, q2⟩, ok2, ab2⟩
  dsimp only at ok2 ⊢
  have ab2 := ab2.trans hab
  conv => whnf
  refine ⟨b1, b2, m, q, rfl, rfl, rfl, rfl, hok, by rw [hab]; exact hg, ?_⟩
  rw [hab, updN_self]
  (conv => whnf); repeat' (first | (with_reducible exact rfl) | ((with_reducible refine xif_kt (by with_reducible assumption) ?_); conv => whnf) | ((with_reducible refine xif_kf (by with_reducible assumption) ?_); conv => whnf) | (((with_reducible refine xif_s ?_ ?_) <;> (intro hb; (try simp (disch := omega) only [hbS] at hb))) <;> (conv => whnf)))
  exact Fin_m ⟨⟨(y1, y2), (m2, q2), ok2, ab2⟩, hg⟩ [0, 4, 5, 6] ⟨rfl, by simp [SV.wf, SV.wfs]⟩ ⟨fun _ _ h => h, ⟨rfl, rfl, by simp [SV.wf, SV.wfs]⟩, fun _ _ h => h, fun _ _ h => h, trivial⟩ (by decide) rfl
theorem fAtlas_bad (b : Nat) (c : CoT) (S : SnT) (i : Int) (hi : rbB i = false) : CallM Tryz.prog 37 [pR b, I i] (fun _ _ => True) [stO b c S allT] (fun _ : Unit => nilP) (fun _ => [stO b c S allT]) := by
  have kr := robot34_x i
  rw [hi] at kr
  refine CallM.of (m := 1) Tryz.func37 rfl tabOk rfl rfl rfl rfl (by simp [SV.wfs, SV.wf]) fun w M π _ => ?_
  (conv => whnf); repeat' (first | ((with_reducible refine isC ?_); first | ((with_reducible refine CallX_pure (kr) ?_) <;> first | omega | (with_reducible show (_ : Int) ≤ _) | (with_reducible show (_ : Int) < _) | (with_reducible show (_ : Nat) ≤ _) | (with_reducible show (_ : Nat) < _) | (conv => whnf))) | (with_reducible exact rfl) | ((with_reducible refine xif_kt (by with_reducible assumption) ?_); conv => whnf) | ((with_reducible refine xif_kf (by with_reducible assumption) ?_); conv => whnf) | (((with_reducible refine xif_s ?_ ?_) <;> (intro hb; (try simp (disch := omega) only [hbS] at hb))) <;> (conv => whnf)))
  exact Fin_m () [0] ⟨rfl, by simp [SV.wf, SV.wfs]⟩ ⟨fun _ _ h => h, trivial⟩ (by decide) rfl
end Go.Proofs.YtlnplelandimeaaGreat.En
end
section
namespace Go.Proofs.YtlnplelandimeaaGreat.En
open Go.RowKit
set_option maxRecDepth 100000
def r0 : RelT := (0, 0, 0, 0, 0)
end Go.Proofs.YtlnplelandimeaaGreat.En
end
section
namespace Go.Proofs.YtlnplelandimeaaGreat.En
open Go.RowKit
set_option maxRecDepth 100000
theorem take_getR {L : List RelT} {t : Nat} (ht : t < L.length) : L.take (t + 1) = L.take t ++ [L.getD t r0] := by
  rw [List.take_succ]
  simp [ht]
end Go.Proofs.YtlnplelandimeaaGreat.En
end
section
namespace Go.Proofs.YtlnplelandimeaaGreat.En
open Go.RowKit
set_option maxRecDepth 100000
def framesL (L : List RelT) : List RelT := L.foldl (fun rs x => (Go.Proofs.YtlnplelandimeaaGreat.addF rs x).2) []
def framesS (S : SnT) : List RelT := framesL (pairs S)
theorem framesL_succ {L : List RelT} {t : Nat} (ht : t < L.length) : framesL (L.take (t + 1)) = (Go.Proofs.YtlnplelandimeaaGreat.addF (framesL (L.take t)) (L.getD t r0)).2 := by
  unfold framesL
  rw [take_getR ht, List.foldl_append]
  rfl
theorem addF_len (rs : List RelT) (x : RelT) : (Go.Proofs.YtlnplelandimeaaGreat.addF rs x).2.length ≤ rs.length + 1 := by
  unfold Go.Proofs.YtlnplelandimeaaGreat.addF
  split
  · split
    · simp
    · split <;> simp
  · simp
theorem framesL_len (L : List RelT) : ∀ t, t ≤ L.length → (framesL (L.take t)).length ≤ t
  | 0, _ => by simp [framesL]
  | t + 1, h => by
    rw [framesL_succ (by omega)]
    exact Nat.le_trans (addF_len _ _) (by have := framesL_len L t (by omega); omega)
set_option maxHeartbeats 4000000 in
theorem frames_m (b : Nat) (c : CoT) (S : SnT) : CallM Tryz.prog 21 [pR b] (fun _ _ => True) [stO b c S allT] (fun rb : Nat => pR rb) (fun rb => [stO b c S allT, relO rb (framesS S)]) := by
  have k2 := relations_m b c S allT
  have hl := pairsN_len S 64
  have e1 : pairsN S 64 = pairs S := rfl
  have e2 : framesS S = framesL (pairs S) := rfl
  rw [e1] at hl
  rw [e2]
  clear e1 e2
  generalize pairs S = L at *
  have hfl := framesL_len L
  refine CallM.of (m := 1) Tryz.func21 rfl tabOk rfl rfl rfl rfl (by simp [SV.wfs, SV.wf]) fun w M π _ => ?_
  (conv => whnf); repeat' (first | ((with_reducible refine isC ?_); first | ((with_reducible refine isF 57 ?_); (refine CallX_New rfl ?_; intro rb); conv => whnf) | ((with_reducible refine isF 35 ?_); ((refine CallX_m k2 [0] rfl ⟨fun _ _ h => h, trivial⟩ (by decide) (fun _ _ _ _ => trivial) ?_; intro q2; obtain ⟨A2, d2⟩ := q2)); conv => whnf)) | ((with_reducible refine isW ?_); first | ((with_reducible refine xwr_ok (by omega) (by omega) ?_); conv => whnf) | ((with_reducible refine xwr_raw ?_); conv => whnf)) | (with_reducible exact rfl) | ((with_reducible refine xif_kt (by with_reducible assumption) ?_); conv => whnf) | ((with_reducible refine xif_kf (by with_reducible assumption) ?_); conv => whnf) | (((with_reducible refine xif_s ?_ ?_) <;> (intro hb; (try simp (disch := omega) only [hbS] at hb))) <;> (conv => whnf)))
  refine LoopX_inv tabOk (α := (t : Nat) × {rs : List RelT // rs = framesL (L.take t)}) (fun s => s.1 ≤ L.length) (fun s => [(3, pR rb), (10, .v (.slice A2 L.length d2)), (11, I L.length), (12, I s.1)])
    (fun s => [stO b c S allT, relO rb s.2.1, .row 39 5 A2 L.length d2 (L.map encR)]) (fun s => L.length - s.1) ⟨0, [], rfl⟩ [0, 1, 2] (Nat.zero_le _) ?_ ?_
  · ((refine ⟨?_, ?_, ?_, ?_⟩) <;> (repeat' ((conv => whnf); apply And.intro)) <;> (try (first | exact trivial | decide)))
    all_goals first | rfl | exact fun _ _ h => h | (simp [SV.wf, SV.wfs]; done) | trace_state
  · rintro ⟨t, rs, hrs⟩ ht
    dsimp only at ht hrs ⊢
    by_cases hlt : t < L.length
    · have hnx : (Go.Proofs.YtlnplelandimeaaGreat.addF rs (L.getD t r0)).2 = framesL (L.take (t + 1)) := by rw [framesL_succ hlt, hrs]
      have hle : rs.length ≤ 99 := by
        have := hfl t (by omega)
        rw [hrs]
        omega
      generalize hx : L.getD t r0 = x at *
      obtain ⟨a, a2, q, xx, yy⟩ := x
      (conv => whnf); repeat' (first | ((with_reducible refine isC ?_); first | ((with_reducible refine isF 58 ?_); ((rw [hx]; refine CallX_Add 1 rfl rfl hle ?_)); conv => whnf)) | ((with_reducible refine isV ?_); first | ((refine ValX_index tabOk rfl (ArgSl.row 2 rfl) rfl ?_ ?_ ?_) <;> first | omega | (with_reducible show (_ : Int) ≤ _) | (with_reducible show (_ : Int) < _) | (with_reducible show (_ : Nat) ≤ _) | (with_reducible show (_ : Nat) < _) | (conv => whnf)) | ((with_reducible refine nat_idx ?_); (refine ValX_loadEn _ _ (r0) tabOk rfl rfl rfl rfl (ArgSl.row 2 rfl) ?_ ?_ ?_) <;> first | rfl | omega | (with_reducible show (_ : Int) ≤ _) | (with_reducible show (_ : Int) < _) | (with_reducible show (_ : Nat) ≤ _) | (with_reducible show (_ : Nat) < _) | (conv => whnf)) | ((refine ValX_loadE _ _ (r0) tabOk rfl rfl rfl rfl (ArgSl.row 2 rfl) ?_ ?_ ?_) <;> first | rfl | omega | (with_reducible show (_ : Int) ≤ _) | (with_reducible show (_ : Int) < _) | (with_reducible show (_ : Nat) ≤ _) | (with_reducible show (_ : Nat) < _) | (conv => whnf))) | ((with_reducible refine isW ?_); first | ((with_reducible refine xwr_ok (by omega) (by omega) ?_); conv => whnf) | ((with_reducible refine xwr_raw ?_); conv => whnf)) | (with_reducible exact rfl) | ((with_reducible refine xif_kt (by with_reducible assumption) ?_); conv => whnf) | ((with_reducible refine xif_kf (by with_reducible assumption) ?_); conv => whnf) | (((with_reducible refine xif_s ?_ ?_) <;> (intro hb; (try simp (disch := omega) only [hbS] at hb))) <;> (conv => whnf)))
      all_goals try (exfalso; omega)
      refine ⟨⟨t + 1, _, hnx⟩, [0, 1, 2], by (try dsimp only); omega, ?_, by (try dsimp only); omega⟩
      ((refine ⟨?_, ?_, ?_, ?_⟩) <;> (repeat' ((conv => whnf); apply And.intro)) <;> (try (first | exact trivial | decide)))
      all_goals first | rfl | exact fun _ _ h => h | (simp [SV.wf, SV.wfs]; done) | trace_state
    · obtain rfl : t = L.length := by omega
      rw [List.take_length] at hrs
      subst hrs
      (conv => whnf); repeat' (first | ((with_reducible refine isW ?_); first | ((with_reducible refine xwr_ok (by omega) (by omega) ?_); conv => whnf) | ((with_reducible refine xwr_raw ?_); conv => whnf)) | (with_reducible exact rfl) | ((with_reducible refine xif_kt (by with_reducible assumption) ?_); conv => whnf) | ((with_reducible refine xif_kf (by with_reducible assumption) ?_); conv => whnf) | (((with_reducible refine xif_s ?_ ?_) <;> (intro hb; (try simp (disch := omega) only [hbS] at hb))) <;> (conv => whnf)))
      all_goals try (exfalso; omega)
      exact Fin_m rb [0, 1] ⟨rfl, by simp [SV.wf, SV.wfs]⟩ ⟨fun _ _ h => h, fun _ _ h => h, trivial⟩ (by decide) rfl
noncomputable def outL (f : Fr) (l : List EntT) : List EntT := @Classical.epsilon (List EntT) ⟨[]⟩ (fun ys => IsOut f l ys)
theorem outL_eq {f : Fr} {l ys : List EntT} (h : IsOut f l ys) : outL f l = ys := by
  have : IsOut f l (outL f l) := @Classical.epsilon_spec (List EntT) (fun ys => IsOut f l ys) ⟨ys, h⟩
  exact this.unique h
theorem IsOut_len {f : Fr} {l ys : List EntT} (h : IsOut f l ys) : ys.length ≤ l.length := by
  unfold IsOut at h
  split at h
  · have := h.1.length_eq
    simp at this
    omega
  · rw [h]; simp
def mapA (a : AtT) : List EntT := mapF a (idsF (hasA a) 64)
noncomputable def viewK (S : SnT) (n : Int) : Nat → List EntT
  | 0 => []
  | k + 1 => match btF (framesS S) n k with
    | some f => (combE 1 (viewK S n k) (outL f (mapA (S.ats k)))).1
    | none => viewK S n k
noncomputable def viewS (S : SnT) (n : Int) : List EntT := viewK S n 8
theorem combE_le (a b : List EntT) : (combE 1 a b).1.length ≤ 1048576 := by
  unfold combE
  split
  · split
    · simp
    · split
      · simp
      · rename_i h
        simpa using h
  · simp
theorem viewK_le (S : SnT) (n : Int) : ∀ k, (viewK S n k).length ≤ 1048576
  | 0 => by simp [viewK]
  | k + 1 => by
    unfold viewK
    split
    · exact combE_le _ _
    · exact viewK_le S n k
theorem framesS_len (S : SnT) : (framesS S).length ≤ 64 := by
  have := framesL_len (pairs S) (pairs S).length (Nat.le_refl _)
  rw [List.take_length] at this
  exact Nat.le_trans this (pairsN_len S 64)
set_option maxHeartbeats 8000000 in
theorem view_m (b : Nat) (c : CoT) (S : SnT) (n : Int) (hn : rbB n = true) : CallM Tryz.prog 18 [pR b, I n] (fun _ _ => True) [stO b c S allT]
    (fun q : Option Addr × Nat => .v (.slice q.1 (viewS S n).length q.2)) (fun q => [stO b c S allT, .row 89 4 q.1 (viewS S n).length q.2 ((viewS S n).map encE)]) := by
  have kr := robot34_x n
  rw [hn] at kr
  have kf := frames_m b c S
  have hfl := framesS_len S
  have hvl := viewK_le S n
  have h0 : viewK S n 0 = [] := rfl
  have hv : viewS S n = viewK S n 8 := rfl
  have hnx : ∀ k, viewK S n (k + 1) = match btF (framesS S) n k with
    | some f => (combE 1 (viewK S n k) (outL f (mapA (S.ats k)))).1
    | none => viewK S n k := fun k => rfl
  rw [hv]
  clear hv
  generalize framesS S = fs at *
  generalize viewK S n = vk at *
  refine CallM.of (m := 1) Tryz.func18 rfl tabOk rfl rfl rfl rfl (by simp [SV.wfs, SV.wf]) fun w M π _ => ?_
  (conv => whnf); repeat' (first | ((with_reducible refine isC ?_); first | ((with_reducible refine CallX_pure (kr) ?_) <;> first | omega | (with_reducible show (_ : Int) ≤ _) | (with_reducible show (_ : Int) < _) | (with_reducible show (_ : Nat) ≤ _) | (with_reducible show (_ : Nat) < _) | (conv => whnf)) | ((with_reducible refine isF 21 ?_); ((refine CallX_m kf [0] rfl ⟨fun _ _ h => h, trivial⟩ (by decide) (fun _ _ _ _ => trivial) ?_; intro rb)); conv => whnf)) | ((with_reducible refine isV ?_); first | (refine ValX_stPts 0 tabOk rfl rfl rfl rfl rfl ?_; conv => whnf)) | ((with_reducible refine isW ?_); first | ((with_reducible refine xwr_ok (by omega) (by omega) ?_); conv => whnf) | ((with_reducible refine xwr_raw ?_); conv => whnf)) | ((refine DrawX_s tabOk folOk ?_); conv => whnf) | ((refine DrawS_i (by kernel_rfl) ?_); conv => whnf) | ((with_reducible refine andX_i ?_ ?_) <;> (conv => whnf)) | (with_reducible exact rfl) | ((with_reducible refine xif_kt (by with_reducible assumption) ?_); conv => whnf) | ((with_reducible refine xif_kf (by with_reducible assumption) ?_); conv => whnf) | (((with_reducible refine xif_s ?_ ?_) <;> (intro hb; (try simp (disch := omega) only [hbS] at hb))) <;> (conv => whnf)))
  refine LoopX_addNil 89 4 ?_
  conv => whnf
  refine LoopX_inv tabOk (α := Nat × Option Addr × Nat) (fun s => s.1 ≤ 8) (fun s => [(1, I n), (5, .v (.slice s.2.1 (vk s.1).length s.2.2)), (6, pR rb), (25, .a ((ptsL c).map .v)), (26, I s.1)])
    (fun s => [stO b c S allT, relO rb fs, .row 89 4 s.2.1 (vk s.1).length s.2.2 ((vk s.1).map encE)]) (fun s => 8 - s.1) (0, none, 0) [0, 1, 2] (by decide) ?_ ?_
  · dsimp only
    rw [h0]
    ((refine ⟨?_, ?_, ?_, ?_⟩) <;> (repeat' ((conv => whnf); apply And.intro)) <;> (try (first | exact trivial | decide)))
    all_goals first | rfl | exact fun _ _ h => h | (simp [SV.wf, SV.wfs]; done) | trace_state
  · rintro ⟨k, A, cc⟩ hk
    dsimp only at hk ⊢
    by_cases hlt : k < 8
    · have hnk := hnx k
      have hvk := hvl k
      have hbt := @CallX_Between
      rcases opt_em (btF fs n k) with hb0 | ⟨f, hf⟩
      · rw [hb0] at hnk
        dsimp only at hnk
        generalize vk k = o at *
        (conv => whnf); repeat' (first | ((with_reducible refine isC ?_); first | ((with_reducible refine isF 22 ?_); ((refine CallX_Between 1 rfl rfl (by omega) ?_; rw [hb0])); conv => whnf)) | ((with_reducible refine isV ?_); first | (refine ValX_idxA (sz := 1) (vs := ptsL c) (.v (.pointer (ptP c k))) tabOk rfl Tryz.underlying94 rfl rfl (by omega) (by omega) rfl (by (try dsimp only); rw [Int.toNat_natCast, pts_at c hlt]; rfl) ?_; conv => whnf)) | ((with_reducible refine isW ?_); first | ((with_reducible refine xwr_ok (by omega) (by omega) ?_); conv => whnf) | ((with_reducible refine xwr_raw ?_); conv => whnf)) | ((refine DrawX_s tabOk folOk ?_); conv => whnf) | ((refine DrawS_i (by kernel_rfl) ?_); conv => whnf) | ((with_reducible refine andX_i ?_ ?_) <;> (conv => whnf)) | (with_reducible exact rfl) | ((with_reducible refine xif_kt (by with_reducible assumption) ?_); conv => whnf) | ((with_reducible refine xif_kf (by with_reducible assumption) ?_); conv => whnf) | (((with_reducible refine xif_s ?_ ?_) <;> (intro hb; (try simp (disch := omega) only [hbS] at hb))) <;> (conv => whnf)))
        all_goals try (exfalso; omega)
        refine ⟨(k + 1, A, cc), [0, 1, 2], by (try dsimp only); omega, ?_, by (try dsimp only); omega⟩
        dsimp only
        rw [hnk]
        ((refine ⟨?_, ?_, ?_, ?_⟩) <;> (repeat' ((conv => whnf); apply And.intro)) <;> (try (first | exact trivial | decide)))
        all_goals first | rfl | exact fun _ _ h => h | (simp [SV.wf, SV.wfs]; done) | trace_state
      · rw [hf] at hnk
        dsimp only at hnk
        generalize vk k = o at *
        (conv => whnf); repeat' (first | ((with_reducible refine isC ?_); first | ((with_reducible refine isF 22 ?_); ((refine CallX_Between 1 rfl rfl (by omega) ?_; rw [hf])); conv => whnf)) | ((with_reducible refine isV ?_); first | (refine ValX_idxA (sz := 1) (vs := ptsL c) (.v (.pointer (ptP c k))) tabOk rfl Tryz.underlying94 rfl rfl (by omega) (by omega) rfl (by (try dsimp only); rw [Int.toNat_natCast, pts_at c hlt]; rfl) ?_; conv => whnf)) | ((with_reducible refine isW ?_); first | ((with_reducible refine xwr_ok (by omega) (by omega) ?_); conv => whnf) | ((with_reducible refine xwr_raw ?_); conv => whnf)) | ((refine DrawX_s tabOk folOk ?_); conv => whnf) | ((refine DrawS_i (by kernel_rfl) ?_); conv => whnf) | ((with_reducible refine andX_i ?_ ?_) <;> (conv => whnf)) | (with_reducible exact rfl) | ((with_reducible refine xif_kt (by with_reducible assumption) ?_); conv => whnf) | ((with_reducible refine xif_kf (by with_reducible assumption) ?_); conv => whnf) | (((with_reducible refine xif_s ?_ ?_) <;> (intro hb; (try simp (disch := omega) only [hbS] at hb))) <;> (conv => whnf)))
        all_goals try (exfalso; omega)
        (refine CallX_open (b := b) (c := c) (S := S) [.p 4 0] 0 k 4 ?_ ?_ ?_ hlt (allT_at hlt) ?_ ?_ ?_); (focus (exact Entr.of Tryz.func53 rfl rfl)); (focus rfl); (focus rfl); (focus (simp [SV.wf, SV.wfs])); (focus (intro σ h; simp [SV.vals, SV.val, ptP, h]))
        intro x1 x2 m1 q1 ok1 ab1 hg1
        have kmap := Map_m x1 x2 m1 q1 ok1 (idsF (hasM m1 q1) 64) rfl
        have hma : mapF (absM (m1, q1)) (idsF (hasM m1 q1) 64) = mapA (S.ats k) := by
          rw [has_sem]
          show mapF (absM (m1, q1)) (idsF (hasA (absM (m1, q1))) 64) = _
          rw [ab1]
          rfl
        have hml := map_len (absM (m1, q1)) (idsF (hasM m1 q1) 64)
        rw [hma] at kmap hml
        generalize mapA (S.ats k) = l at *
        conv => whnf
        refine CallX_m kmap [4, 5, 6] rfl ⟨⟨rfl, rfl, by simp [SV.wf, SV.wfs]⟩, fun _ _ h => h, fun _ _ h => h, trivial⟩ (by decide) (fun _ _ _ _ => trivial) ?_
        rintro ⟨A3, c3⟩
        dsimp only
        conv => whnf
        refine ⟨x1, x2, m1, q1, rfl, rfl, rfl, rfl, ok1, by rw [ab1]; exact hg1, ?_⟩
        rw [ab1, updN_self]
        (conv => whnf); repeat' (first | ((with_reducible refine isC ?_); first | ((with_reducible refine isF 52 ?_); ((refine CallX_m (Entries_m f A3 c3 l rfl (by omega)) [] rfl trivial (by decide) (ArgN.row 7 rfl (m := 0) (fun j hj => by omega)) ?_; rintro ⟨⟨A4, c4, ys⟩, hys⟩; dsimp only; dsimp only at hys)); conv => whnf)) | ((with_reducible refine isW ?_); first | ((with_reducible refine xwr_ok (by omega) (by omega) ?_); conv => whnf) | ((with_reducible refine xwr_raw ?_); conv => whnf)) | ((refine DrawX_s tabOk folOk ?_); conv => whnf) | ((refine DrawS_i (by kernel_rfl) ?_); conv => whnf) | ((with_reducible refine andX_i ?_ ?_) <;> (conv => whnf)) | (with_reducible exact rfl) | ((with_reducible refine xif_kt (by with_reducible assumption) ?_); conv => whnf) | ((with_reducible refine xif_kf (by with_reducible assumption) ?_); conv => whnf) | (((with_reducible refine xif_s ?_ ?_) <;> (intro hb; (try simp (disch := omega) only [hbS] at hb))) <;> (conv => whnf)))
        all_goals try (exfalso; omega)
        have hyl := IsOut_len hys
        rw [outL_eq hys] at hnk
        (conv => whnf); repeat' (first | ((with_reducible refine isC ?_); first | ((with_reducible refine isF 54 ?_); ((refine CallX_m (Add_m A A4 cc c4 o ys rfl rfl (by unfold maxLen; omega) (by unfold maxLen; omega)) [] rfl trivial (by decide) (fun σ fp w hm => ⟨ArgN.row 2 rfl (m := 0) (fun j hj => by omega) σ fp w hm, ArgN.row 8 rfl (m := 0) (fun j hj => by omega) σ fp w hm⟩) ?_; rintro ⟨A5, c5⟩; dsimp only)); conv => whnf)) | ((with_reducible refine isW ?_); first | ((with_reducible refine xwr_ok (by omega) (by omega) ?_); conv => whnf) | ((with_reducible refine xwr_raw ?_); conv => whnf)) | ((refine DrawX_s tabOk folOk ?_); conv => whnf) | ((refine DrawS_i (by kernel_rfl) ?_); conv => whnf) | ((with_reducible refine andX_i ?_ ?_) <;> (conv => whnf)) | (with_reducible exact rfl) | ((with_reducible refine xif_kt (by with_reducible assumption) ?_); conv => whnf) | ((with_reducible refine xif_kf (by with_reducible assumption) ?_); conv => whnf) | (((with_reducible refine xif_s ?_ ?_) <;> (intro hb; (try simp (disch := omega) only [hbS] at hb))) <;> (conv => whnf)))
        all_goals try (exfalso; omega)
        refine ⟨(k + 1, A5, c5), [0, 1, 9], by (try dsimp only); omega, ?_, by (try dsimp only); omega⟩
        dsimp only
        rw [hnk]
        ((refine ⟨?_, ?_, ?_, ?_⟩) <;> (repeat' ((conv => whnf); apply And.intro)) <;> (try (first | exact trivial | decide)))
        all_goals first | rfl | exact fun _ _ h => h | (simp [SV.wf, SV.wfs]; done) | trace_state
    · obtain rfl : k = 8 := by omega
      (conv => whnf); repeat' (first | ((with_reducible refine isW ?_); first | ((with_reducible refine xwr_ok (by omega) (by omega) ?_); conv => whnf) | ((with_reducible refine xwr_raw ?_); conv => whnf)) | ((refine DrawX_s tabOk folOk ?_); conv => whnf) | ((refine DrawS_i (by kernel_rfl) ?_); conv => whnf) | ((with_reducible refine andX_i ?_ ?_) <;> (conv => whnf)) | (with_reducible exact rfl) | ((with_reducible refine xif_kt (by with_reducible assumption) ?_); conv => whnf) | ((with_reducible refine xif_kf (by with_reducible assumption) ?_); conv => whnf) | (((with_reducible refine xif_s ?_ ?_) <;> (intro hb; (try simp (disch := omega) only [hbS] at hb))) <;> (conv => whnf)))
      all_goals try (exfalso; omega)
      exact Fin_m (A, cc) [0, 2] ⟨rfl, by simp [SV.wf, SV.wfs]⟩ ⟨fun _ _ h => h, ⟨rfl, rfl, rfl, rfl, rfl, rfl⟩, trivial⟩ (by decide) rfl
theorem map34_m (b : Nat) (c : CoT) (S : SnT) (n : Int) (hme : S.me = n) (hn : rbB n = true) : CallM Tryz.prog 20 [pR b] (fun _ _ => True) [stO b c S allT]
    (fun q : Option Addr × Nat => .v (.slice q.1 (viewS S n).length q.2)) (fun q => [stO b c S allT, .row 89 4 q.1 (viewS S n).length q.2 ((viewS S n).map encE)]) := by
  have kv := view_m b c S n hn
  generalize viewS S n = V at *
  refine CallM.of (m := 1) Tryz.func20 rfl tabOk rfl rfl rfl rfl (by simp [SV.wfs, SV.wf]) fun w M π _ => ?_
  (conv => whnf); repeat' (first | ((with_reducible refine isC ?_); first | ((with_reducible refine isF 18 ?_); ((refine CallX_m kv [0] rfl ⟨fun _ _ h => h, trivial⟩ (by decide) (fun _ _ _ _ => trivial) ?_; rintro ⟨A, cc⟩; dsimp only)); conv => whnf)) | ((with_reducible refine isV ?_); first | (refine ValX_stMe 0 n tabOk rfl rfl rfl rfl hme ?_; conv => whnf)) | (with_reducible exact rfl) | ((with_reducible refine xif_kt (by with_reducible assumption) ?_); conv => whnf) | ((with_reducible refine xif_kf (by with_reducible assumption) ?_); conv => whnf) | (((with_reducible refine xif_s ?_ ?_) <;> (intro hb; (try simp (disch := omega) only [hbS] at hb))) <;> (conv => whnf)))
  exact Fin_m (A, cc) [0, 1] ⟨rfl, by simp [SV.wf, SV.wfs]⟩ ⟨fun _ _ h => h, ⟨rfl, rfl, rfl, rfl, rfl, rfl⟩, trivial⟩ (by decide) rfl
end Go.Proofs.YtlnplelandimeaaGreat.En
end
