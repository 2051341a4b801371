import Derived.Test.YtlnplelandimeaaGreatZFleetAligned27
import Derived.Test.YtlnplelandimeaaGreatZFleetAligned12
import Derived.Test.YtlnplelandimeaaGreatZFleetAligned21
import Derived.Test.YtlnplelandimeaaGreatZFleetAligned01
import Derived.Test.YtlnplelandimeaaGreatZFleetAligned08
set_option linter.all false
section
namespace Go.Proofs.YtlnplelandimeaaGreat.En
open Go.RowKit
set_option maxRecDepth 100000
def framesL (L : List RelT) : List RelT := L.foldl (fun rs x => (Go.Proofs.YtlnplelandimeaaGreat.addF rs x).2) []
def framesS (S : SnT) : List RelT := framesL (pairs S)
theorem framesL_succ {L : List RelT} {t : Nat} (ht : t < L.length) : framesL (L.take (t + 1)) = (Go.Proofs.YtlnplelandimeaaGreat.addF (framesL (L.take t)) (L.getD t r0)).2 := by
 unfold framesL
 rw [take_getR ht, List.foldl_append]
 rfl
theorem addF_len (rs : List RelT) (x : RelT) : (Go.Proofs.YtlnplelandimeaaGreat.addF rs x).2.length ≤ rs.length + 1 := by
 unfold Go.Proofs.YtlnplelandimeaaGreat.addF
 split
 ·split
  ·simp
  ·split <;> simp
 ·simp
theorem framesL_len (L : List RelT) : ∀ t, t ≤ L.length → (framesL (L.take t)).length ≤ t
 | 0, _ => by simp [framesL]
 | t + 1, h => by
  rw [framesL_succ (by omega)]
  exact Nat.le_trans (addF_len _ _) (by have := framesL_len L t (by omega); omega)
set_option maxHeartbeats 4000000 in
theorem frames_m (b : Nat) (c : CoT) (S : SnT) : CallM Tryz.prog 21 [pR b] (fun _ _ => True) [stO b c S allT] (fun rb : Nat => pR rb) (fun rb => [stO b c S allT, relO rb (framesS S)]) := by
 have k2 := relations_m b c S allT
 have hl := pairsN_len S 64
 have e1 : pairsN S 64 = pairs S := rfl
 have e2 : framesS S = framesL (pairs S) := rfl
 rw [e1] at hl
 rw [e2]
 clear e1 e2
 generalize pairs S = L at *
 have hfl := framesL_len L
 refine CallM.of (m := 1) Tryz.func21 rfl tabOk rfl rfl rfl rfl (by simp [SV.wfs, SV.wf]) fun w M π _ => ?_
 (conv=>whnf);repeat' (first|((with_reducible refine isC ?_);first|((first|(with_reducible refine isF 57 ?_);(refine CallX_New rfl ?_; intro rb)|(with_reducible refine isF 35 ?_);((refine CallX_m k2 [0] rfl ⟨fun _ _ h => h, trivial⟩ (by decide) (fun _ _ _ _ => trivial) ?_; intro q2; obtain ⟨A2, d2⟩ := q2)));conv=>whnf))|((with_reducible refine isW ?_;first|refine xwr_ok (by omega) (by omega) ?_|refine xwr_raw ?_);conv=>whnf)|with_reducible exact rfl|((with_reducible first|refine xif_kt (by assumption) ?_|refine xif_kf (by assumption) ?_);conv=>whnf)|((with_reducible refine xif_s ?_ ?_)<;>(intro hb;(try simp (disch:=omega) only [hbS] at hb)<;>conv=>whnf)))
 refine LoopX_inv tabOk (α := (t : Nat) × {rs : List RelT // rs = framesL (L.take t)}) (fun s => s.1 ≤ L.length) (fun s => [(3, pR rb), (10, .v (.slice A2 L.length d2)), (11, I L.length), (12, I s.1)])
  (fun s => [stO b c S allT, relO rb s.2.1, .row 39 5 A2 L.length d2 (L.map encR)]) (fun s => L.length - s.1) ⟨0, [], rfl⟩ [0, 1, 2] (Nat.zero_le _) ?_ ?_
 ·((refine ⟨?_, ?_, ?_, ?_⟩) <;> (repeat' ((conv => whnf); apply And.intro)) <;> (try (first | exact trivial | decide)))
  all_goals first | rfl | exact fun _ _ h => h | (simp [SV.wf, SV.wfs]; done) | trace_state
 ·rintro ⟨t, rs, hrs⟩ ht
  dsimp only at ht hrs ⊢
  by_cases hlt : t < L.length
  ·have hnx : (Go.Proofs.YtlnplelandimeaaGreat.addF rs (L.getD t r0)).2 = framesL (L.take (t + 1)) := by rw [framesL_succ hlt, hrs]
   have hle : rs.length ≤ 99 := by
    have := hfl t (by omega)
    rw [hrs]
    omega
   generalize hx : L.getD t r0 = x at *
   obtain ⟨a, a2, q, xx, yy⟩ := x
   (conv=>whnf);repeat' (first|((with_reducible refine isC ?_);first|(((with_reducible refine isF 58 ?_);((rw [hx]; refine CallX_Add 1 rfl rfl hle ?_)));conv=>whnf))|((with_reducible refine isV ?_);first|((first|refine ValX_index tabOk rfl (ArgSl.row 2 rfl) rfl ?_ ?_ ?_|(with_reducible refine nat_idx ?_);refine ValX_loadEn _ _ (r0) tabOk rfl rfl rfl rfl (ArgSl.row 2 rfl) ?_ ?_ ?_|refine ValX_loadE _ _ (r0) tabOk rfl rfl rfl rfl (ArgSl.row 2 rfl) ?_ ?_ ?_)<;>first|rfl|omega|with_reducible refine isP ?_|conv=>whnf))|((with_reducible refine isW ?_;first|refine xwr_ok (by omega) (by omega) ?_|refine xwr_raw ?_);conv=>whnf)|with_reducible exact rfl|((with_reducible first|refine xif_kt (by assumption) ?_|refine xif_kf (by assumption) ?_);conv=>whnf)|((with_reducible refine xif_s ?_ ?_)<;>(intro hb;(try simp (disch:=omega) only [hbS] at hb)<;>conv=>whnf)))
   all_goals try (exfalso; omega)
   refine ⟨⟨t + 1, _, hnx⟩, [0, 1, 2], by (try dsimp only); omega, ?_, by (try dsimp only); omega⟩
   ((refine ⟨?_, ?_, ?_, ?_⟩) <;> (repeat' ((conv => whnf); apply And.intro)) <;> (try (first | exact trivial | decide)))
   all_goals first | rfl | exact fun _ _ h => h | (simp [SV.wf, SV.wfs]; done) | trace_state
  ·obtain rfl : t = L.length := by omega
   rw [List.take_length] at hrs
   subst hrs
   (conv=>whnf);repeat' (first|((with_reducible refine isW ?_;first|refine xwr_ok (by omega) (by omega) ?_|refine xwr_raw ?_);conv=>whnf)|with_reducible exact rfl|((with_reducible first|refine xif_kt (by assumption) ?_|refine xif_kf (by assumption) ?_);conv=>whnf)|((with_reducible refine xif_s ?_ ?_)<;>(intro hb;(try simp (disch:=omega) only [hbS] at hb)<;>conv=>whnf)))
   all_goals try (exfalso; omega)
   exact Fin_m rb [0, 1] ⟨rfl, by simp [SV.wf, SV.wfs]⟩ ⟨fun _ _ h => h, fun _ _ h => h, trivial⟩ (by decide) rfl
noncomputable def outL (f : Fr) (l : List EntT) : List EntT := @Classical.epsilon (List EntT) ⟨[]⟩ (fun ys => IsOut f l ys)
theorem outL_eq {f : Fr} {l ys : List EntT} (h : IsOut f l ys) : outL f l = ys := by
 have : IsOut f l (outL f l) := @Classical.epsilon_spec (List EntT) (fun ys => IsOut f l ys) ⟨ys, h⟩
 exact this.unique h
theorem IsOut_len {f : Fr} {l ys : List EntT} (h : IsOut f l ys) : ys.length ≤ l.length := by
 unfold IsOut at h
 split at h
 ·have := h.1.length_eq
  simp at this
  omega
 ·rw [h]; simp
def mapA (a : AtT) : List EntT := mapF a (idsF (hasA a) 64)
noncomputable def viewK (S : SnT) (n : Int) : Nat → List EntT
 | 0 => []
 | k + 1 => match btF (framesS S) n k with
  | some f => (combE 1 (viewK S n k) (outL f (mapA (S.ats k)))).1
  | none => viewK S n k
noncomputable def viewS (S : SnT) (n : Int) : List EntT := viewK S n 8
theorem combE_le (a b : List EntT) : (combE 1 a b).1.length ≤ 1048576 := by
 unfold combE
 split
 ·split
  ·simp
  ·split
   ·simp
   ·rename_i h
    simpa using h
 ·simp
theorem viewK_le (S : SnT) (n : Int) : ∀ k, (viewK S n k).length ≤ 1048576
 | 0 => by simp [viewK]
 | k + 1 => by
  unfold viewK
  split
  ·exact combE_le _ _
  ·exact viewK_le S n k
theorem framesS_len (S : SnT) : (framesS S).length ≤ 64 := by
 have := framesL_len (pairs S) (pairs S).length (Nat.le_refl _)
 rw [List.take_length] at this
 exact Nat.le_trans this (pairsN_len S 64)
set_option maxHeartbeats 8000000 in
theorem view_m (b : Nat) (c : CoT) (S : SnT) (n : Int) (hn : rbB n = true) : CallM Tryz.prog 18 [pR b, I n] (fun _ _ => True) [stO b c S allT]
 (fun q : Option Addr × Nat => .v (.slice q.1 (viewS S n).length q.2)) (fun q => [stO b c S allT, .row 89 4 q.1 (viewS S n).length q.2 ((viewS S n).map encE)]) := by
 have kr := robot34_x n
 rw [hn] at kr
 have kf := frames_m b c S
 have hfl := framesS_len S
 have hvl := viewK_le S n
 have h0 : viewK S n 0 = [] := rfl
 have hv : viewS S n = viewK S n 8 := rfl
 have hnx : ∀ k, viewK S n (k + 1) = match btF (framesS S) n k with
  | some f => (combE 1 (viewK S n k) (outL f (mapA (S.ats k)))).1
  | none => viewK S n k := fun k => rfl
 rw [hv]
 clear hv
 generalize framesS S = fs at *
 generalize viewK S n = vk at *
 refine CallM.of (m := 1) Tryz.func18 rfl tabOk rfl rfl rfl rfl (by simp [SV.wfs, SV.wf]) fun w M π _ => ?_
 (conv=>whnf);repeat' (first|((with_reducible refine isC ?_);first|((with_reducible refine CallX_pure (kr) ?_)<;>first|omega|with_reducible refine isP ?_|conv=>whnf)|(((with_reducible refine isF 21 ?_);((refine CallX_m kf [0] rfl ⟨fun _ _ h => h, trivial⟩ (by decide) (fun _ _ _ _ => trivial) ?_; intro rb)));conv=>whnf))|((with_reducible refine isV ?_);first|(refine ValX_stPts 0 tabOk rfl rfl rfl rfl rfl ?_; conv => whnf))|((with_reducible refine isW ?_;first|refine xwr_ok (by omega) (by omega) ?_|refine xwr_raw ?_);conv=>whnf)|((first|refine DrawX_s tabOk folOk ?_|refine DrawS_i (by kernel_rfl) ?_|with_reducible refine andX_i ?_ ?_)<;>conv=>whnf)|with_reducible exact rfl|((with_reducible first|refine xif_kt (by assumption) ?_|refine xif_kf (by assumption) ?_);conv=>whnf)|((with_reducible refine xif_s ?_ ?_)<;>(intro hb;(try simp (disch:=omega) only [hbS] at hb)<;>conv=>whnf)))
 refine LoopX_addNil 89 4 ?_
 conv => whnf
 refine LoopX_inv tabOk (α := Nat × Option Addr × Nat) (fun s => s.1 ≤ 8) (fun s => [(1, I n), (5, .v (.slice s.2.1 (vk s.1).length s.2.2)), (6, pR rb), (25, .a ((ptsL c).map .v)), (26, I s.1)])
  (fun s => [stO b c S allT, relO rb fs, .row 89 4 s.2.1 (vk s.1).length s.2.2 ((vk s.1).map encE)]) (fun s => 8 - s.1) (0, none, 0) [0, 1, 2] (by decide) ?_ ?_
 ·dsimp only
  rw [h0]
  ((refine ⟨?_, ?_, ?_, ?_⟩) <;> (repeat' ((conv => whnf); apply And.intro)) <;> (try (first | exact trivial | decide)))
  all_goals first | rfl | exact fun _ _ h => h | (simp [SV.wf, SV.wfs]; done) | trace_state
 ·rintro ⟨k, A, cc⟩ hk
  dsimp only at hk ⊢
  by_cases hlt : k < 8
  ·have hnk := hnx k
   have hvk := hvl k
   have hbt := @CallX_Between
   rcases opt_em (btF fs n k) with hb0 | ⟨f, hf⟩
   ·rw [hb0] at hnk
    dsimp only at hnk
    generalize vk k = o at *
    (conv=>whnf);repeat' (first|((with_reducible refine isC ?_);first|(((with_reducible refine isF 22 ?_);((refine CallX_Between 1 rfl rfl (by omega) ?_; rw [hb0])));conv=>whnf))|((with_reducible refine isV ?_);first|(refine ValX_idxA (sz := 1) (vs := ptsL c) (.v (.pointer (ptP c k))) tabOk rfl Tryz.underlying94 rfl rfl (by omega) (by omega) rfl (by (try dsimp only); rw [Int.toNat_natCast, pts_at c hlt]; rfl) ?_; conv => whnf))|((with_reducible refine isW ?_;first|refine xwr_ok (by omega) (by omega) ?_|refine xwr_raw ?_);conv=>whnf)|((first|refine DrawX_s tabOk folOk ?_|refine DrawS_i (by kernel_rfl) ?_|with_reducible refine andX_i ?_ ?_)<;>conv=>whnf)|with_reducible exact rfl|((with_reducible first|refine xif_kt (by assumption) ?_|refine xif_kf (by assumption) ?_);conv=>whnf)|((with_reducible refine xif_s ?_ ?_)<;>(intro hb;(try simp (disch:=omega) only [hbS] at hb)<;>conv=>whnf)))
    all_goals try (exfalso; omega)
    refine ⟨(k + 1, A, cc), [0, 1, 2], by (try dsimp only); omega, ?_, by (try dsimp only); omega⟩
    dsimp only
    rw [hnk]
    ((refine ⟨?_, ?_, ?_, ?_⟩) <;> (repeat' ((conv => whnf); apply And.intro)) <;> (try (first | exact trivial | decide)))
    all_goals first | rfl | exact fun _ _ h => h | (simp [SV.wf, SV.wfs]; done) | trace_state
   ·rw [hf] at hnk
    dsimp only at hnk
    generalize vk k = o at *
    (conv=>whnf);repeat' (first|((with_reducible refine isC ?_);first|(((with_reducible refine isF 22 ?_);((refine CallX_Between 1 rfl rfl (by omega) ?_; rw [hf])));conv=>whnf))|((with_reducible refine isV ?_);first|(refine ValX_idxA (sz := 1) (vs := ptsL c) (.v (.pointer (ptP c k))) tabOk rfl Tryz.underlying94 rfl rfl (by omega) (by omega) rfl (by (try dsimp only); rw [Int.toNat_natCast, pts_at c hlt]; rfl) ?_; conv => whnf))|((with_reducible refine isW ?_;first|refine xwr_ok (by omega) (by omega) ?_|refine xwr_raw ?_);conv=>whnf)|((first|refine DrawX_s tabOk folOk ?_|refine DrawS_i (by kernel_rfl) ?_|with_reducible refine andX_i ?_ ?_)<;>conv=>whnf)|with_reducible exact rfl|((with_reducible first|refine xif_kt (by assumption) ?_|refine xif_kf (by assumption) ?_);conv=>whnf)|((with_reducible refine xif_s ?_ ?_)<;>(intro hb;(try simp (disch:=omega) only [hbS] at hb)<;>conv=>whnf)))
    all_goals try (exfalso; omega)
    (refine CallX_open (b := b) (c := c) (S := S) [.p 4 0] 0 k 4 ?_ ?_ ?_ hlt (allT_at hlt) ?_ ?_ ?_); (focus (exact Entr.of Tryz.func53 rfl rfl)); (focus rfl); (focus rfl); (focus (simp [SV.wf, SV.wfs])); (focus (intro σ h; simp [SV.vals, SV.val, ptP, h]))
    intro x1 x2 m1 q1 ok1 ab1 hg1
    have kmap := Map_m x1 x2 m1 q1 ok1 (idsF (hasM m1 q1) 64) rfl
    have hma : mapF (absM (m1, q1)) (idsF (hasM m1 q1) 64) = mapA (S.ats k) := by
     rw [has_sem]
     show mapF (absM (m1, q1)) (idsF (hasA (absM (m1, q1))) 64) = _
     rw [ab1]
     rfl
    have hml := map_len (absM (m1, q1)) (idsF (hasM m1 q1) 64)
    rw [hma] at kmap hml
    generalize mapA (S.ats k) = l at *
    conv => whnf
    refine CallX_m kmap [4, 5, 6] rfl ⟨⟨rfl, rfl, by simp [SV.wf, SV.wfs]⟩, fun _ _ h => h, fun _ _ h => h, trivial⟩ (by decide) (fun _ _ _ _ => trivial) ?_
    rintro ⟨A3, c3⟩
    dsimp only
    conv => whnf
    refine ⟨x1, x2, m1, q1, rfl, rfl, rfl, rfl, ok1, by rw [ab1]; exact hg1, ?_⟩
    rw [ab1, updN_self]
    (conv=>whnf);repeat' (first|((with_reducible refine isC ?_);first|(((with_reducible refine isF 52 ?_);((refine CallX_m (Entries_m f A3 c3 l rfl (by omega)) [] rfl trivial (by decide) (ArgN.row 7 rfl (m := 0) (fun j hj => by omega)) ?_; rintro ⟨⟨A4, c4, ys⟩, hys⟩; dsimp only; dsimp only at hys)));conv=>whnf))|((with_reducible refine isW ?_;first|refine xwr_ok (by omega) (by omega) ?_|refine xwr_raw ?_);conv=>whnf)|((first|refine DrawX_s tabOk folOk ?_|refine DrawS_i (by kernel_rfl) ?_|with_reducible refine andX_i ?_ ?_)<;>conv=>whnf)|with_reducible exact rfl|((with_reducible first|refine xif_kt (by assumption) ?_|refine xif_kf (by assumption) ?_);conv=>whnf)|((with_reducible refine xif_s ?_ ?_)<;>(intro hb;(try simp (disch:=omega) only [hbS] at hb)<;>conv=>whnf)))
    all_goals try (exfalso; omega)
    have hyl := IsOut_len hys
    rw [outL_eq hys] at hnk
    (conv=>whnf);repeat' (first|((with_reducible refine isC ?_);first|(((with_reducible refine isF 54 ?_);((refine CallX_m (Add_m A A4 cc c4 o ys rfl rfl (by unfold maxLen; omega) (by unfold maxLen; omega)) [] rfl trivial (by decide) (fun σ fp w hm => ⟨ArgN.row 2 rfl (m := 0) (fun j hj => by omega) σ fp w hm, ArgN.row 8 rfl (m := 0) (fun j hj => by omega) σ fp w hm⟩) ?_; rintro ⟨A5, c5⟩; dsimp only)));conv=>whnf))|((with_reducible refine isW ?_;first|refine xwr_ok (by omega) (by omega) ?_|refine xwr_raw ?_);conv=>whnf)|((first|refine DrawX_s tabOk folOk ?_|refine DrawS_i (by kernel_rfl) ?_|with_reducible refine andX_i ?_ ?_)<;>conv=>whnf)|with_reducible exact rfl|((with_reducible first|refine xif_kt (by assumption) ?_|refine xif_kf (by assumption) ?_);conv=>whnf)|((with_reducible refine xif_s ?_ ?_)<;>(intro hb;(try simp (disch:=omega) only [hbS] at hb)<;>conv=>whnf)))
    all_goals try (exfalso; omega)
    refine ⟨(k + 1, A5, c5), [0, 1, 9], by (try dsimp only); omega, ?_, by (try dsimp only); omega⟩
    dsimp only
    rw [hnk]
    ((refine ⟨?_, ?_, ?_, ?_⟩) <;> (repeat' ((conv => whnf); apply And.intro)) <;> (try (first | exact trivial | decide)))
    all_goals first | rfl | exact fun _ _ h => h | (simp [SV.wf, SV.wfs]; done) | trace_state
  ·obtain rfl : k = 8 := by omega
   (conv=>whnf);repeat' (first|((with_reducible refine isW ?_;first|refine xwr_ok (by omega) (by omega) ?_|refine xwr_raw ?_);conv=>whnf)|((first|refine DrawX_s tabOk folOk ?_|refine DrawS_i (by kernel_rfl) ?_|with_reducible refine andX_i ?_ ?_)<;>conv=>whnf)|with_reducible exact rfl|((with_reducible first|refine xif_kt (by assumption) ?_|refine xif_kf (by assumption) ?_);conv=>whnf)|((with_reducible refine xif_s ?_ ?_)<;>(intro hb;(try simp (disch:=omega) only [hbS] at hb)<;>conv=>whnf)))
   all_goals try (exfalso; omega)
   exact Fin_m (A, cc) [0, 2] ⟨rfl, by simp [SV.wf, SV.wfs]⟩ ⟨fun _ _ h => h, ⟨rfl, rfl, rfl, rfl, rfl, rfl⟩, trivial⟩ (by decide) rfl
theorem map34_m (b : Nat) (c : CoT) (S : SnT) (n : Int) (hme : S.me = n) (hn : rbB n = true) : CallM Tryz.prog 20 [pR b] (fun _ _ => True) [stO b c S allT]
 (fun q : Option Addr × Nat => .v (.slice q.1 (viewS S n).length q.2)) (fun q => [stO b c S allT, .row 89 4 q.1 (viewS S n).length q.2 ((viewS S n).map encE)]) := by
 have kv := view_m b c S n hn
 generalize viewS S n = V at *
 refine CallM.of (m := 1) Tryz.func20 rfl tabOk rfl rfl rfl rfl (by simp [SV.wfs, SV.wf]) fun w M π _ => ?_
 (conv=>whnf);repeat' (first|((with_reducible refine isC ?_);first|(((with_reducible refine isF 18 ?_);((refine CallX_m kv [0] rfl ⟨fun _ _ h => h, trivial⟩ (by decide) (fun _ _ _ _ => trivial) ?_; rintro ⟨A, cc⟩; dsimp only)));conv=>whnf))|((with_reducible refine isV ?_);first|(refine ValX_stMe 0 n tabOk rfl rfl rfl rfl hme ?_; conv => whnf))|with_reducible exact rfl|((with_reducible first|refine xif_kt (by assumption) ?_|refine xif_kf (by assumption) ?_);conv=>whnf)|((with_reducible refine xif_s ?_ ?_)<;>(intro hb;(try simp (disch:=omega) only [hbS] at hb)<;>conv=>whnf)))
 exact Fin_m (A, cc) [0, 1] ⟨rfl, by simp [SV.wf, SV.wfs]⟩ ⟨fun _ _ h => h, ⟨rfl, rfl, rfl, rfl, rfl, rfl⟩, trivial⟩ (by decide) rfl
end Go.Proofs.YtlnplelandimeaaGreat.En
end
section
namespace Go.Proofs.YtlnplelandimeaaGreat.En
open Go.RowKit
set_option maxRecDepth 100000
theorem nMap34_x : PureX Tryz.prog 20 [nilP] nilS := by
 refine PureX.of Tryz.func20 rfl tabOk rfl rfl rfl (by simp [SV.wfs, SV.wf]) (by simp [SV.wfs, SV.wf]) fun w => ?_
 (conv=>whnf);repeat' (first|with_reducible exact rfl|((with_reducible first|refine xif_kt (by assumption) ?_|refine xif_kf (by assumption) ?_);conv=>whnf)|((with_reducible refine xif_s ?_ ?_)<;>(intro hb;(try simp (disch:=omega) only [hbS] at hb)<;>conv=>whnf)))
 exact Fin_pure rfl rfl trivial
theorem nClone34_x : PureX Tryz.prog 32 [nilP] nilP := by
 refine PureX.of Tryz.func32 rfl tabOk rfl rfl rfl (by simp [SV.wfs, SV.wf]) (by simp [SV.wfs, SV.wf]) fun w => ?_
 (conv=>whnf);repeat' (first|((with_reducible refine isW ?_;first|refine xwr_ok (by omega) (by omega) ?_|refine xwr_raw ?_);conv=>whnf)|((first|refine DrawX_s tabOk folOk ?_|refine DrawS_i (by kernel_rfl) ?_|with_reducible refine andX_i ?_ ?_)<;>conv=>whnf)|with_reducible exact rfl|((with_reducible first|refine xif_kt (by assumption) ?_|refine xif_kf (by assumption) ?_);conv=>whnf)|((with_reducible refine xif_s ?_ ?_)<;>(intro hb;(try simp (disch:=omega) only [hbS] at hb)<;>conv=>whnf)))
 exact Fin_pure rfl rfl trivial
def aw1 : SnT := takeS (sn0 2) (3, 1, 1, 2, 0)
def aw2 : SnT := takeS aw1 (1, 3, 2, 5, 5)
def aw3 : SnT := { aw2 with ats := updN aw2.ats 2 (putA (aw2.ats 2) 0 [(0, 100)]) }
def aw4 : SnT := { aw3 with ats := updN aw3.ats 2 (plcA (aw3.ats 2) 0 (1, false, 32, 32, 0)) }
def aw5 : SnT := takeS aw4 (5, 2, 0, 1, 0)
theorem aw_pairs : pairs aw4 = [(1, 3, 3, 0, 2)] := by decide +kernel
theorem aw_of3 : (ofE (32, 32, 0) [(0, 100)]).1 = [(0, 0, 0, 1), (1, 0, 0, 1), (2, 0, 1, 0)] := (ofE_of (at_ := (32, 32, 0)) (s := [(0, 100)]) (ys := [(0, 0, 0, 1), (1, 0, 0, 1), (2, 0, 1, 0)]) (by
 unfold IsOf
 rw [if_pos (by decide +kernel)]
 exact ⟨by decide +kernel, by unfold asc; decide +kernel⟩)).symm
theorem comb_lnil {a : List EntT} (ha : vE a = true) : combE 1 [] a = (a, 0) := by rw [comb_sym, comb_nil ha]
theorem aw_map : mapA (aw4.ats 2) = [(0, 0, 0, 1), (1, 0, 0, 1), (2, 0, 1, 0)] := by
 have hi : idsF (hasA (aw4.ats 2)) 64 = [0] := by decide +kernel
 unfold mapA
 rw [hi]
 show (combE 1 [] (partA (aw4.ats 2) 0)).1 = _
 have hp : partA (aw4.ats 2) 0 = (ofE (32, 32, 0) [(0, 100)]).1 := rfl
 rw [hp, aw_of3, comb_lnil (by decide +kernel)]
theorem aw_none : mapA at0 = [] := by decide +kernel
theorem aw_bt : ((List.range 8).map fun k : Nat => btF [(1, 3, 3, 0, 2)] 2 k) = [none, none, some (0, 0, 0), none, none, none, none, none] := by decide +kernel
theorem aw_bt5 : ((List.range 8).map fun k : Nat => btF [(1, 3, 3, 0, 2)] 5 k) = [none, none, none, none, none, some (0, 0, 0), none, none] := by decide +kernel
theorem aw_bt6 : ((List.range 8).map fun k : Nat => btF [(1, 3, 3, 0, 2), (2, 5, 0, -1, 0)] 5 k) = [none, none, some (0, 1, 0), none, none, some (0, 0, 0), none, none] := by decide +kernel
theorem aw_fr4 : framesS aw4 = [(1, 3, 3, 0, 2)] := by decide +kernel
theorem aw_fr5 : framesS aw5 = [(1, 3, 3, 0, 2), (2, 5, 0, -1, 0)] := by decide +kernel
theorem aw_at {rs : List RelT} {n : Int} {L : List (Option Fr)} (h : ((List.range 8).map fun k : Nat => btF rs n k) = L) (k : Nat) (hk : k < 8) : btF rs n k = L.getD k none := by
 rw [← h]
 simp [hk]
theorem aw_out0 : outL (0, 0, 0) [] = [] := outL_eq (by
 unfold IsOut
 rw [if_pos (by decide +kernel)]
 exact ⟨List.Perm.refl _, List.Pairwise.nil⟩)
theorem aw_out1 : outL (0, 0, 0) [(0, 0, 0, 1), (1, 0, 0, 1), (2, 0, 1, 0)] = [(0, 0, 0, 1), (1, 0, 0, 1), (2, 0, 1, 0)] := outL_eq (by
 unfold IsOut
 rw [if_pos (by decide +kernel)]
 refine ⟨?_, by unfold asc; decide +kernel⟩
 rw [show ([(0, 0, 0, 1), (1, 0, 0, 1), (2, 0, 1, 0)] : List EntT).map (imgE (0, 0, 0)) = [(0, 0, 0, 1), (1, 0, 0, 1), (2, 0, 1, 0)] by decide +kernel])
theorem aw_out2 : outL (0, 1, 0) [(0, 0, 0, 1), (1, 0, 0, 1), (2, 0, 1, 0)] = [(1, 0, 0, 1), (2, 0, 0, 1), (3, 0, 1, 0)] := outL_eq (by
 unfold IsOut
 rw [if_pos (by decide +kernel)]
 refine ⟨?_, by unfold asc; decide +kernel⟩
 rw [show ([(0, 0, 0, 1), (1, 0, 0, 1), (2, 0, 1, 0)] : List EntT).map (imgE (0, 1, 0)) = [(1, 0, 0, 1), (2, 0, 0, 1), (3, 0, 1, 0)] by decide +kernel])
theorem aw_ats4 (k : Nat) (h : k ≠ 2) : aw4.ats k = at0 := by
 unfold aw4 aw3 aw2 aw1 updN takeS setR sn0
 dsimp only
 rw [if_neg h, if_neg h]
theorem aw_view4 : viewS aw4 2 = [(0, 0, 0, 1), (1, 0, 0, 1), (2, 0, 1, 0)] := by
 have b := aw_at aw_bt
 unfold viewS
 simp only [viewK, aw_fr4]
 rw [b 0 (by decide), b 1 (by decide), b 2 (by decide), b 3 (by decide), b 4 (by decide), b 5 (by decide), b 6 (by decide), b 7 (by decide)]
 simp only [List.getD_cons_zero, List.getD_cons_succ]
 rw [aw_map, aw_out1, comb_lnil (by decide +kernel)]
theorem aw_view5 : viewS aw4 5 = [] := by
 have b := aw_at aw_bt5
 unfold viewS
 simp only [viewK, aw_fr4]
 rw [b 0 (by decide), b 1 (by decide), b 2 (by decide), b 3 (by decide), b 4 (by decide), b 5 (by decide), b 6 (by decide), b 7 (by decide)]
 simp only [List.getD_cons_zero, List.getD_cons_succ]
 rw [aw_ats4 5 (by decide), aw_none, aw_out0, comb_nil (by decide +kernel)]
theorem aw_view6 : viewS aw5 5 = [(1, 0, 0, 1), (2, 0, 0, 1), (3, 0, 1, 0)] := by
 have b := aw_at aw_bt6
 unfold viewS
 simp only [viewK, aw_fr5]
 rw [b 0 (by decide), b 1 (by decide), b 2 (by decide), b 3 (by decide), b 4 (by decide), b 5 (by decide), b 6 (by decide), b 7 (by decide)]
 simp only [List.getD_cons_zero, List.getD_cons_succ]
 rw [show aw5.ats 5 = at0 from aw_ats4 5 (by decide), show aw5.ats 2 = aw4.ats 2 from rfl, aw_map, aw_none, aw_out0, aw_out2, comb_lnil (by decide +kernel)]
 dsimp only
 rw [comb_nil (by decide +kernel)]
theorem aw_ids34 : idsF (hasA (aw5.ats 2)) 64 = [0] := by decide +kernel
end Go.Proofs.YtlnplelandimeaaGreat.En
end
section
namespace Go.Proofs.YtlnplelandimeaaGreat.En
open Go.RowKit
set_option maxRecDepth 100000
theorem relate_ok (b : Nat) (c : CoT) (S : SnT) (x : RelT) (hx : addOk x = true) : CallM Tryz.prog 41 [pR b, relX x] (fun _ _ => True) [stO b c S allT] (fun _ : Nat → Nat → Nat => I 0) (fun rp => [stO b { c with rp := rp } (takeS S x) allT]) := by
 have h := relate_m b c S x
 rw [hx] at h
 exact h
set_option maxHeartbeats 8000000 in
theorem awake34_x : PureX Tryz.prog 11 [] (B true) := by
 refine PureX.of Tryz.func11 rfl tabOk rfl rfl rfl (by simp [SV.wfs, SV.wf]) (by simp [SV.wfs, SV.wf]) fun w => ?_
 (conv=>whnf);repeat' (first|((with_reducible refine isC ?_);first|(((with_reducible refine isF 40 ?_);((refine CallX_m (fNew_m 2 (by decide)) [] rfl trivial (by decide) (fun _ _ _ _ => trivial) ?_; rintro ⟨b, c⟩; dsimp only)));conv=>whnf)|((first|with_reducible refine CallX_pure (nMap34_x) ?_|with_reducible refine CallX_pure (nClone34_x) ?_)<;>first|omega|with_reducible refine isP ?_|conv=>whnf))|((with_reducible refine isO ?_);first|((first|(refine OpX_build0 tabOk rfl rfl rfl ?_);intro bN|(refine OpX_build tabOk rfl rfl rfl rfl rfl ?_);intro bN);conv=>whnf))|with_reducible exact rfl|((with_reducible first|refine xif_kt (by assumption) ?_|refine xif_kf (by assumption) ?_);conv=>whnf)|((with_reducible refine xif_s ?_ ?_)<;>(intro hb;(try simp (disch:=omega) only [hbS] at hb)<;>conv=>whnf)))
 refine CallX_m (relate_ok b c (sn0 2) (3, 1, 1, 2, 0) (by decide)) [0] rfl ⟨fun _ _ h => h, trivial⟩ (by decide) (fun _ _ _ _ => trivial) ?_
 intro rp1
 (conv=>whnf);repeat' (first|((with_reducible refine isO ?_);first|((first|(refine OpX_build0 tabOk rfl rfl rfl ?_);intro bN|(refine OpX_build tabOk rfl rfl rfl rfl rfl ?_);intro bN);conv=>whnf))|with_reducible exact rfl|((with_reducible first|refine xif_kt (by assumption) ?_|refine xif_kf (by assumption) ?_);conv=>whnf)|((with_reducible refine xif_s ?_ ?_)<;>(intro hb;(try simp (disch:=omega) only [hbS] at hb)<;>conv=>whnf)))
 refine CallX_m (relate_ok b { c with rp := rp1 } aw1 (1, 3, 2, 5, 5) (by decide)) [0] rfl ⟨fun _ _ h => h, trivial⟩ (by decide) (fun _ _ _ _ => trivial) ?_
 intro rp2
 (conv=>whnf);repeat' (first|((with_reducible refine isO ?_);first|((first|(refine OpX_build0 tabOk rfl rfl rfl ?_);intro bN|(refine OpX_build tabOk rfl rfl rfl rfl rfl ?_);intro bN);conv=>whnf))|with_reducible exact rfl|((with_reducible first|refine xif_kt (by assumption) ?_|refine xif_kf (by assumption) ?_);conv=>whnf)|((with_reducible refine xif_s ?_ ?_)<;>(intro hb;(try simp (disch:=omega) only [hbS] at hb)<;>conv=>whnf)))
 refine CallX_m (fPut_m b { c with rp := rp2 } aw2 2 (by decide) rfl 0 _ _ [(0, 100)] rfl (by decide)) [0] rfl ⟨fun _ _ h => h, trivial⟩ (by decide) (ArgN.row 1 rfl (m := 1) (r := [0]) (fun j hj => by rcases (by omega : j = 0) with rfl; simp)) ?_
 intro u1
 rw [show putC 0 [(0, 100)] = 0 by decide]
 (conv=>whnf);repeat' (first|((with_reducible refine isO ?_);first|((first|(refine OpX_build0 tabOk rfl rfl rfl ?_);intro bN|(refine OpX_build tabOk rfl rfl rfl rfl rfl ?_);intro bN);conv=>whnf))|with_reducible exact rfl|((with_reducible first|refine xif_kt (by assumption) ?_|refine xif_kf (by assumption) ?_);conv=>whnf)|((with_reducible refine xif_s ?_ ?_)<;>(intro hb;(try simp (disch:=omega) only [hbS] at hb)<;>conv=>whnf)))
 refine CallX_m (fPlace_m b { c with rp := rp2 } aw3 2 (by decide) rfl 0 (1, false, 32, 32, 0)) [0] rfl ⟨fun _ _ h => h, trivial⟩ (by decide) (fun _ _ _ _ => trivial) ?_
 intro u2
 rw [show plcC 0 (1, false, 32, 32, 0) = 0 by decide]
 have kr := relations_m b { c with rp := rp2 } aw4 allT
 rw [aw_pairs] at kr
 (conv=>whnf);repeat' (first|((with_reducible refine isO ?_);first|((first|(refine OpX_build0 tabOk rfl rfl rfl ?_);intro bN|(refine OpX_build tabOk rfl rfl rfl rfl rfl ?_);intro bN);conv=>whnf))|with_reducible exact rfl|((with_reducible first|refine xif_kt (by assumption) ?_|refine xif_kf (by assumption) ?_);conv=>whnf)|((with_reducible refine xif_s ?_ ?_)<;>(intro hb;(try simp (disch:=omega) only [hbS] at hb)<;>conv=>whnf)))
 refine CallX_m kr [0] rfl ⟨fun _ _ h => h, trivial⟩ (by decide) (fun _ _ _ _ => trivial) ?_
 rintro ⟨A1, d1⟩
 have km := map34_m b { c with rp := rp2 } aw4 2 rfl (by decide)
 rw [aw_view4] at km
 (conv=>whnf);repeat' (first|((with_reducible refine isO ?_);first|((first|(refine OpX_build0 tabOk rfl rfl rfl ?_);intro bN|(refine OpX_build tabOk rfl rfl rfl rfl rfl ?_);intro bN);conv=>whnf))|with_reducible exact rfl|((with_reducible first|refine xif_kt (by assumption) ?_|refine xif_kf (by assumption) ?_);conv=>whnf)|((with_reducible refine xif_s ?_ ?_)<;>(intro hb;(try simp (disch:=omega) only [hbS] at hb)<;>conv=>whnf)))
 refine CallX_m km [0] rfl ⟨fun _ _ h => h, trivial⟩ (by decide) (fun _ _ _ _ => trivial) ?_
 rintro ⟨A2, d2⟩
 have kv := view_m b { c with rp := rp2 } aw4 5 (by decide)
 rw [aw_view5] at kv
 (conv=>whnf);repeat' (first|((with_reducible refine isO ?_);first|((first|(refine OpX_build0 tabOk rfl rfl rfl ?_);intro bN|(refine OpX_build tabOk rfl rfl rfl rfl rfl ?_);intro bN);conv=>whnf))|with_reducible exact rfl|((with_reducible first|refine xif_kt (by assumption) ?_|refine xif_kf (by assumption) ?_);conv=>whnf)|((with_reducible refine xif_s ?_ ?_)<;>(intro hb;(try simp (disch:=omega) only [hbS] at hb)<;>conv=>whnf)))
 refine CallX_m kv [0] rfl ⟨fun _ _ h => h, trivial⟩ (by decide) (fun _ _ _ _ => trivial) ?_
 rintro ⟨A3, d3⟩
 (conv=>whnf);repeat' (first|((with_reducible refine isO ?_);first|((first|(refine OpX_build0 tabOk rfl rfl rfl ?_);intro bN|(refine OpX_build tabOk rfl rfl rfl rfl rfl ?_);intro bN);conv=>whnf))|with_reducible exact rfl|((with_reducible first|refine xif_kt (by assumption) ?_|refine xif_kf (by assumption) ?_);conv=>whnf)|((with_reducible refine xif_s ?_ ?_)<;>(intro hb;(try simp (disch:=omega) only [hbS] at hb)<;>conv=>whnf)))
 refine CallX_m (relate_ok b { c with rp := rp2 } aw4 (5, 2, 0, 1, 0) (by decide)) [0] rfl ⟨fun _ _ h => h, trivial⟩ (by decide) (fun _ _ _ _ => trivial) ?_
 intro rp3
 have kw := view_m b { c with rp := rp3 } aw5 5 (by decide)
 rw [aw_view6] at kw
 (conv=>whnf);repeat' (first|((with_reducible refine isO ?_);first|((first|(refine OpX_build0 tabOk rfl rfl rfl ?_);intro bN|(refine OpX_build tabOk rfl rfl rfl rfl rfl ?_);intro bN);conv=>whnf))|with_reducible exact rfl|((with_reducible first|refine xif_kt (by assumption) ?_|refine xif_kf (by assumption) ?_);conv=>whnf)|((with_reducible refine xif_s ?_ ?_)<;>(intro hb;(try simp (disch:=omega) only [hbS] at hb)<;>conv=>whnf)))
 refine CallX_m kw [0] rfl ⟨fun _ _ h => h, trivial⟩ (by decide) (fun _ _ _ _ => trivial) ?_
 rintro ⟨A4, d4⟩
 (conv=>whnf);repeat' (first|((with_reducible refine isC ?_);first|((first|(with_reducible refine isF 21 ?_);((refine CallX_m (frames_m b { c with rp := rp3 } aw5) [0] rfl ⟨fun _ _ h => h, trivial⟩ (by decide) (fun _ _ _ _ => trivial) ?_; intro rb))|(with_reducible refine isF 37 ?_);(first | (refine CallX_m (fAtlas_m b { c with rp := rp3 } aw5 2 (by decide)) [0] rfl ⟨fun _ _ h => h, trivial⟩ (by decide) (fun _ _ _ _ => trivial) ?_; rintro ⟨⟨⟨x1, x2⟩, ⟨ma, qa⟩, oka, aba⟩, ga⟩; dsimp only) | (refine CallX_m (fAtlas_bad b { c with rp := rp3 } aw5 8 (by decide)) [0] rfl ⟨fun _ _ h => h, trivial⟩ (by decide) (fun _ _ _ _ => trivial) ?_; intro u))|(with_reducible refine isF 39 ?_);((refine CallX_m (fMe_m b { c with rp := rp3 } aw5) [0] rfl ⟨fun _ _ h => h, trivial⟩ (by decide) (fun _ _ _ _ => trivial) ?_; intro u)));conv=>whnf))|((with_reducible refine isV ?_);first|((first|refine ValX_index tabOk rfl (ArgSl.row 2 rfl) rfl ?_ ?_ ?_|(with_reducible refine nat_idx ?_);refine ValX_loadEn _ _ (r0) tabOk rfl rfl rfl rfl (ArgSl.row 2 rfl) ?_ ?_ ?_|refine ValX_loadE _ _ (r0) tabOk rfl rfl rfl rfl (ArgSl.row 2 rfl) ?_ ?_ ?_|refine ValX_index tabOk rfl (ArgSl.row 3 rfl) rfl ?_ ?_ ?_|(with_reducible refine nat_idx ?_);refine ValX_loadEn _ _ (e0) tabOk rfl rfl rfl rfl (ArgSl.row 3 rfl) ?_ ?_ ?_|refine ValX_loadE _ _ (e0) tabOk rfl rfl rfl rfl (ArgSl.row 3 rfl) ?_ ?_ ?_|refine ValX_index tabOk rfl (ArgSl.row 5 rfl) rfl ?_ ?_ ?_|(with_reducible refine nat_idx ?_);refine ValX_loadEn _ _ (e0) tabOk rfl rfl rfl rfl (ArgSl.row 5 rfl) ?_ ?_ ?_|refine ValX_loadE _ _ (e0) tabOk rfl rfl rfl rfl (ArgSl.row 5 rfl) ?_ ?_ ?_)<;>first|rfl|omega|with_reducible refine isP ?_|conv=>whnf))|((with_reducible refine isO ?_);first|((first|(refine OpX_build0 tabOk rfl rfl rfl ?_);intro bN|(refine OpX_build tabOk rfl rfl rfl rfl rfl ?_);intro bN);conv=>whnf))|with_reducible exact rfl|((with_reducible first|refine xif_kt (by assumption) ?_|refine xif_kf (by assumption) ?_);conv=>whnf)|((with_reducible refine xif_s ?_ ?_)<;>(intro hb;(try simp (disch:=omega) only [hbS] at hb)<;>conv=>whnf)))
 all_goals try decide
 have ki := Ids_m x1 x2 ma qa
 rw [show idsF (hasM ma qa) 64 = [0] by rw [has_sem]; show idsF (hasA (absM (ma, qa))) 64 = [0]; rw [aba]; exact aw_ids34] at ki
 refine CallX_m ki [10, 11, 12] rfl ⟨⟨rfl, rfl, by simp [SV.wf, SV.wfs]⟩, fun _ _ h => h, fun _ _ h => h, trivial⟩ (by decide) (fun _ _ _ _ => trivial) ?_
 rintro ⟨A6, d6⟩
 (conv=>whnf);repeat' (first|((with_reducible refine isO ?_);first|((first|(refine OpX_build0 tabOk rfl rfl rfl ?_);intro bN|(refine OpX_build tabOk rfl rfl rfl rfl rfl ?_);intro bN);conv=>whnf))|with_reducible exact rfl|((with_reducible first|refine xif_kt (by assumption) ?_|refine xif_kf (by assumption) ?_);conv=>whnf)|((with_reducible refine xif_s ?_ ?_)<;>(intro hb;(try simp (disch:=omega) only [hbS] at hb)<;>conv=>whnf)))
 refine CallX_w (Ints_w A6 _ d6 _ [0] rfl (by decide)) (fun σ fp w hm => ⟨ArgSl.row 13 rfl σ fp w hm, ArgSl.row 14 rfl σ fp w hm⟩) ?_
 (conv=>whnf);repeat' (first|((with_reducible refine isO ?_);first|((first|(refine OpX_build0 tabOk rfl rfl rfl ?_);intro bN|(refine OpX_build tabOk rfl rfl rfl rfl rfl ?_);intro bN);conv=>whnf))|with_reducible exact rfl|((with_reducible first|refine xif_kt (by assumption) ?_|refine xif_kf (by assumption) ?_);conv=>whnf)|((with_reducible refine xif_s ?_ ?_)<;>(intro hb;(try simp (disch:=omega) only [hbS] at hb)<;>conv=>whnf)))
 exact Fin_pure rfl rfl trivial
end Go.Proofs.YtlnplelandimeaaGreat.En
end
section
namespace Go.Proofs.YtlnplelandimeaaGreat.En
open Go.RowKit
theorem ArgSl.of_SlO {w : World} {A : Option Addr} {n C : Nat} {V : Nat → Nat → Int} {α : Type} (enc : α → List Value) (f : Nat → α) (h : SlO w A n C V) (hC : 0 < C) (he : ∀ i, enc (f i) = (List.range C).map fun j => Value.int .i64 (V i j)) : ArgSl w A n C (((List.range n).map f).map enc) := by
 refine ⟨by simp, fun e hm => ?_, fun e hm v hv => ?_, fun hn => ?_⟩
 ·obtain ⟨x, hx, rfl⟩ := List.mem_map.1 hm
  obtain ⟨i, _, rfl⟩ := List.mem_map.1 hx
  simp [he]
 ·obtain ⟨x, hx, rfl⟩ := List.mem_map.1 hm
  obtain ⟨i, _, rfl⟩ := List.mem_map.1 hx
  rw [he] at hv
  obtain ⟨j, _, rfl⟩ := List.mem_map.1 hv
  rfl
 ·rcases h with h | ⟨a, rfl, h⟩
  ·exact (hn h).elim
  ·obtain ⟨b, o, s⟩ := a
   have h0 := (h 0 (by omega) 0 hC).1
   have hs : s = none := by
    simp only [Nat.zero_mul, Addr.add, if_true] at h0
    unfold World.cell? at h0
    cases s with
    | none => rfl
    | some s =>
     exfalso
     simp only [Option.isSome_some, if_true] at h0
     revert h0
     split <;> intro h0 <;> cases h0
   subst hs
   refine ⟨b, o, rfl, fun i e hi j v hj => ?_⟩
   rw [List.getElem?_map, List.getElem?_map] at hi
   by_cases hin : i < n
   ·rw [List.getElem?_range hin] at hi
    simp only [Option.map_some, Option.some.injEq] at hi
    subst hi
    rw [he, List.getElem?_map] at hj
    by_cases hjn : j < C
    ·rw [List.getElem?_range hjn] at hj
     simp only [Option.map_some, Option.some.injEq] at hj
     subst hj
     have := (h i hin j hjn).1
     rw [Addr.add_mid, Addr.add_mid] at this
     exact this
    ·rw [List.getElem?_eq_none (by simpa using hjn)] at hj
     cases hj
   ·rw [List.getElem?_eq_none (by simpa using hin)] at hi
    cases hi
end Go.Proofs.YtlnplelandimeaaGreat.En
end
section
namespace Go.Proofs.YtlnplelandimeaaGreat.En
open Go.RowKit
set_option maxRecDepth 100000
abbrev FOp := Int × Int × Int × Int × SlT × PlT × RelT
def encFO (o : FOp) : List Value := [.int .i64 o.1, .int .i64 o.2.1, .int .i64 o.2.2.1, .int .i64 o.2.2.2.1, .slice o.2.2.2.2.1.1 o.2.2.2.2.1.2.2.length o.2.2.2.2.1.2.1, .int .i64 o.2.2.2.2.2.1.1, .bool o.2.2.2.2.2.1.2.1, .int .i64 o.2.2.2.2.2.1.2.2.1, .int .i64 o.2.2.2.2.2.1.2.2.2.1, .int .i64 o.2.2.2.2.2.1.2.2.2.2, .int .i64 o.2.2.2.2.2.2.1, .int .i64 o.2.2.2.2.2.2.2.1, .int .i64 o.2.2.2.2.2.2.2.2.1, .int .i64 o.2.2.2.2.2.2.2.2.2.1, .int .i64 o.2.2.2.2.2.2.2.2.2.2]
def fo0 : FOp := (0, 0, 0, 0, (none, 0, []), (0, false, 0, 0, 0), (0, 0, 0, 0, 0))
abbrev foX (o : FOp) : SV := .a [I o.1, I o.2.1, I o.2.2.1, I o.2.2.2.1, .v (.slice o.2.2.2.2.1.1 o.2.2.2.2.1.2.2.length o.2.2.2.2.1.2.1), I o.2.2.2.2.2.1.1, B o.2.2.2.2.2.1.2.1, I o.2.2.2.2.2.1.2.2.1, I o.2.2.2.2.2.1.2.2.2.1, I o.2.2.2.2.2.1.2.2.2.2, I o.2.2.2.2.2.2.1, I o.2.2.2.2.2.2.2.1, I o.2.2.2.2.2.2.2.2.1, I o.2.2.2.2.2.2.2.2.2.1, I o.2.2.2.2.2.2.2.2.2.2]
def opsF (w : World) (A : Option Addr) (n : Nat) (l : List FOp) : Prop := ArgSl w A n 15 (l.map encFO) ∧ ∀ o ∈ l, ArgSl w o.2.2.2.2.1.1 o.2.2.2.2.1.2.2.length 2 (o.2.2.2.2.1.2.2.map encBm) ∧ o.2.2.2.2.1.2.2.length ≤ maxLen
theorem opsF.op {w : World} {A : Option Addr} {n : Nat} {l : List FOp} (h : opsF w A n l) {o : FOp} (ho : o ∈ l) : ArgN w (fun _ => False) o.2.2.2.2.1.1 o.2.2.2.2.1.2.2.length 2 (o.2.2.2.2.1.2.2.map encBm) := ArgN.of (h.2 o ho).1 fun _ => id
theorem opsF.few {C : Ctx} {ob : List OB} {A : Option Addr} {n : Nat} {l : List FOp} (h : opsF C.w0 A n l) (hM : C.M = fun _ => False) : ∀ σ fp w, Mem C σ fp ob w → ArgSl w A n 15 (l.map encFO) ∧ ∀ o ∈ l, o.2.2.2.2.1.2.2.length ≤ maxLen :=
 fun σ fp w hm => ⟨h.1.mem (by decide) hM σ fp w hm, fun o ho => (h.2 o ho).2⟩
def lenG (o : FOp) : Int := min (o.2.2.2.2.1.2.2.length : Int) 40
def fewG (l : List FOp) : Bool := decide (l.length ≤ 16) && decide (((l.take 40).map lenG).sum ≤ 40)
theorem fewG_next {l : List FOp} {k : Nat} (hk : k < l.length) : ((l.take (k + 1)).map lenG).sum = ((l.take k).map lenG).sum + lenG (l.getD k fo0) := by
 have e : l.getD k fo0 = l[k] := by simp [hk]
 rw [List.take_succ_eq_append_getElem hk, e, List.map_append, List.sum_append]
 simp only [List.map_cons, List.map_nil, List.sum_cons, List.sum_nil, Int.add_zero]
theorem fewG_bd (l : List FOp) : ∀ k : Nat, 0 ≤ ((l.take k).map lenG).sum ∧ ((l.take k).map lenG).sum ≤ 40 * k := by
 intro k
 induction k with
 | zero => simp
 | succ k ih =>
  by_cases hk : k < l.length
  ·rw [fewG_next hk]
   unfold lenG at *
   omega
  ·rw [List.take_of_length_le (by omega)]
   rw [List.take_of_length_le (by omega)] at ih
   omega
theorem few34_w (A : Option Addr) (c : Nat) (l : List FOp) {n : Nat} (hl : l.length = n) (hn : n ≤ maxLen) :
 CallW Tryz.prog 12 [.v (.slice A n c)] (fun w => ArgSl w A n 15 (l.map encFO) ∧ ∀ o ∈ l, o.2.2.2.2.1.2.2.length ≤ maxLen) (B (fewG l)) := by
 unfold maxLen at hn
 refine CallW.of Tryz.func12 rfl tabOk rfl rfl rfl (by simp [SV.wfs, SV.wf]) (by simp [SV.wfs, SV.wf]) fun w hpre => ?_
 obtain ⟨hpre, hlen⟩ := hpre
 (conv=>whnf);repeat' (first|((with_reducible refine isW ?_;first|refine xwr_ok (by omega) (by omega) ?_|refine xwr_raw ?_);conv=>whnf)|with_reducible exact rfl|((with_reducible first|refine xif_kt (by assumption) ?_|refine xif_kf (by assumption) ?_);conv=>whnf)|((with_reducible refine xif_s ?_ ?_)<;>(intro hb;(try simp (disch:=omega) only [hbS] at hb)<;>conv=>whnf)))
 refine LoopX_inv tabOk (α := Nat) (fun k => k ≤ n ∧ k ≤ 40) (fun k => [(0, .v (.slice A n c)), (3, I ((l.take k).map lenG).sum), (4, I k)]) (fun _ => []) (fun k => n - k) 0 [] ⟨Nat.zero_le _, Nat.zero_le _⟩ ?_ ?_
 ·((refine ⟨?_, ?_, ?_, ?_⟩) <;> (repeat' ((conv => whnf); apply And.intro)) <;> (try (first | exact trivial | decide)))
  all_goals first | rfl | exact fun _ _ h => h | simp [SV.wf, SV.wfs]
 ·rintro k ⟨hk, hk2⟩
  have hbk := fewG_bd l k
  by_cases hlt : k < n
  ·by_cases hlt2 : k < 40
   ·have hnx := fewG_next (l := l) (k := k) (by omega)
    have hol := hlen (l.getD k fo0) (by simp [show k < l.length by omega])
    unfold maxLen at hol
    have hlf : lenG (l.getD k fo0) = min ((l.getD k fo0).2.2.2.2.1.2.2.length : Int) 40 := rfl
    rw [hlf] at hnx
    generalize ((l.take k).map lenG).sum = S at *
    (conv=>whnf);repeat' (first|((with_reducible refine isV ?_);first|((first|(with_reducible refine nat_idxF ?_);refine ValX_loadFn _ _ (fo0) _ tabOk rfl rfl rfl (hpre.mem (by decide) rfl) ?_ ?_ rfl ?_|refine ValX_loadF _ _ (fo0) _ tabOk rfl rfl rfl (hpre.mem (by decide) rfl) ?_ ?_ rfl ?_)<;>first|omega|(simp;omega)|with_reducible refine isP ?_|conv=>whnf)|((refine ValX_index tabOk rfl (hpre.mem (by decide) rfl) rfl ?_ ?_ ?_)<;>first|rfl|omega|with_reducible refine isP ?_|conv=>whnf))|((with_reducible refine isW ?_;first|refine xwr_ok (by omega) (by omega) ?_|refine xwr_raw ?_);conv=>whnf)|with_reducible exact rfl|((with_reducible first|refine xif_kt (by assumption) ?_|refine xif_kf (by assumption) ?_);conv=>whnf)|((with_reducible refine xif_s ?_ ?_)<;>(intro hb;(try simp (disch:=omega) only [hbS] at hb)<;>conv=>whnf)))
    all_goals try (exfalso; omega)
    refine ⟨k + 1, [], ⟨by (try dsimp only); omega, by (try dsimp only); omega⟩, ?_, by (try dsimp only); omega⟩
    dsimp only
    rw [hnx]
    ((refine ⟨?_, ?_, ?_, ?_⟩) <;> (repeat' ((conv => whnf); apply And.intro)) <;> (try (first | exact trivial | decide)))
    all_goals first | rfl | exact fun _ _ h => h | (simp [SV.wf, SV.wfs]; done) | trace_state
   ·obtain rfl : k = 40 := by omega
    have hf : fewG l = (decide (l.length ≤ 16) && decide (((l.take 40).map lenG).sum ≤ 40)) := rfl
    rw [hf]
    generalize ((l.take 40).map lenG).sum = S at *
    (conv=>whnf);repeat' (first|((with_reducible refine isW ?_;first|refine xwr_ok (by omega) (by omega) ?_|refine xwr_raw ?_);conv=>whnf)|with_reducible exact rfl|((with_reducible first|refine xif_kt (by assumption) ?_|refine xif_kf (by assumption) ?_);conv=>whnf)|((with_reducible refine xif_s ?_ ?_)<;>(intro hb;(try simp (disch:=omega) only [hbS] at hb)<;>conv=>whnf)))
    all_goals try (exfalso; omega)
    all_goals refine Fin_pure rfl (B_eq ?_) trivial
    all_goals simp
    all_goals omega
  ·obtain rfl : k = n := by omega
   have hf : fewG l = (decide (l.length ≤ 16) && decide (((l.take k).map lenG).sum ≤ 40)) := by
    unfold fewG
    rw [List.take_of_length_le (show l.length ≤ 40 by omega), List.take_of_length_le (by omega)]
   rw [hf]
   generalize ((l.take k).map lenG).sum = S at *
   (conv=>whnf);repeat' (first|((with_reducible refine isW ?_;first|refine xwr_ok (by omega) (by omega) ?_|refine xwr_raw ?_);conv=>whnf)|with_reducible exact rfl|((with_reducible first|refine xif_kt (by assumption) ?_|refine xif_kf (by assumption) ?_);conv=>whnf)|((with_reducible refine xif_s ?_ ?_)<;>(intro hb;(try simp (disch:=omega) only [hbS] at hb)<;>conv=>whnf)))
   all_goals try (exfalso; omega)
   all_goals refine Fin_pure rfl (B_eq ?_) trivial
   all_goals simp
   all_goals omega
end Go.Proofs.YtlnplelandimeaaGreat.En
end
