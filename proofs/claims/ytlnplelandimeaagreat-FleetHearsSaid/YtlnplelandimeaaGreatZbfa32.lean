import Derived.Test.YtlnplelandimeaaGreatZbfa31
set_option linter.all false
section
namespace Go.Proofs.YtlnplelandimeaaGreat.En
open Go.RowKit
set_option maxRecDepth 100000
theorem addOk_pair {O : SnT} (h : wfS O) {L : List RelT} (hL : L = pairs O) {t : Nat} (ht : t < L.length) : addOk (L.getD t r0) = true := by
  subst hL
  have hm : (pairs O).getD t r0 ∈ pairs O := by simp [ht]
  unfold pairs pairsN at hm
  obtain ⟨n, _, hn⟩ := List.mem_filterMap.1 hm
  obtain ⟨f, hf, he, _⟩ := prs_ok h hn
  unfold pairs pairsN
  rw [he]
  exact (take_norm (S := O) h hf).2
theorem take_getR {L : List RelT} {t : Nat} (ht : t < L.length) : L.take (t + 1) = L.take t ++ [L.getD t r0] := by
  rw [List.take_succ]
  simp [ht]
def joinAk (S O : SnT) (k : Nat) : SnT := { S with ats := fun i => if i < k then joinA (S.ats i) (O.ats i) else S.ats i }
theorem joinAk_succ (S O : SnT) (k : Nat) : { joinAk S O k with ats := updN (joinAk S O k).ats k (joinA (S.ats k) (O.ats k)) } = joinAk S O (k + 1) := by
  unfold joinAk
  dsimp only
  congr 1
  funext i
  unfold updN
  by_cases e : i = k
  · rw [if_pos e, if_pos (by omega), e]
  · rw [if_neg e]
    dsimp only
    by_cases c : i < k
    · rw [if_pos c, if_pos (by omega)]
    · rw [if_neg c, if_neg (by omega)]
theorem joinAk_at (S O : SnT) (k : Nat) : (joinAk S O k).ats k = S.ats k := by
  unfold joinAk
  dsimp only
  rw [if_neg (by omega)]
theorem hear_all {S O : SnT} (hO : wfS O) : (pairs O).foldl takeS (joinAk S O 8) = hearS S O := by
  rw [hear_pairs hO]
  unfold joinR joinAk hearS
  dsimp only
  congr 1
  funext i
  by_cases c : i < 8
  · rw [if_pos c]
  · rw [if_neg c, hO.2.2 i (by omega)]
    rfl
set_option maxHeartbeats 8000000 in
theorem hear_m (b1 b2 : Nat) (c1 c2 : CoT) (S O : SnT) (hO : wfS O) : CallM Tryz.prog 33 [pR b1, pR b2] (fun _ _ => True) [stO b1 c1 S allT, stO b2 c2 O allT]
    (fun _ : Nat → Nat → Nat => I 0) (fun rp => [stO b1 { c1 with rp := rp } (hearS S O) allT, stO b2 c2 O allT]) := by
  have k2 := relations_m b2 c2 O allT
  have hfin := hear_all (S := S) hO
  have hao := fun t ht => addOk_pair hO (L := pairs O) rfl (t := t) ht
  have hl := pairsN_len O 64
  have e1 : pairsN O 64 = pairs O := rfl
  rw [e1] at hl
  clear e1
  generalize pairs O = L at *
  refine CallM.of (m := 2) Tryz.func33 rfl tabOk rfl rfl rfl rfl (by simp [SV.wfs, SV.wf]) fun w M π _ => ?_
  (conv => whnf); repeat' (first | ((with_reducible refine isV ?_); first | (refine ValX_stPts 0 tabOk rfl rfl rfl rfl rfl ?_; conv => whnf)) | ((with_reducible refine isW ?_); first | ((with_reducible refine xwr_ok (by omega) (by omega) ?_); conv => whnf) | ((with_reducible refine xwr_raw ?_); conv => whnf)) | (with_reducible exact rfl) | ((with_reducible refine xif_kt (by with_reducible assumption) ?_); conv => whnf) | ((with_reducible refine xif_kf (by with_reducible assumption) ?_); conv => whnf) | (((with_reducible refine xif_s ?_ ?_) <;> (intro hb; (try simp (disch := omega) only [hbS] at hb))) <;> (conv => whnf)))
  have hj0 : joinAk S O 0 = S := by
    unfold joinAk
    have : (fun i => if i < 0 then joinA (S.ats i) (O.ats i) else S.ats i) = S.ats := by
      funext i
      rw [if_neg (by omega)]
    rw [this]
  refine LoopX_inv tabOk (α := (k : Nat) × {S' : SnT // S' = joinAk S O k}) (fun s => s.1 ≤ 8) (fun s => [(0, pR b1), (1, pR b2), (18, .a ((ptsL c1).map .v)), (19, I s.1)]) (fun s => [stO b1 c1 s.2.1 allT, stO b2 c2 O allT]) (fun s => 8 - s.1) ⟨0, S, hj0.symm⟩ [0, 1] (Nat.zero_le _) ?_ ?_
  · ((refine ⟨?_, ?_, ?_, ?_⟩) <;> (repeat' ((conv => whnf); apply And.intro)) <;> (try (first | exact trivial | decide)))
    all_goals first | rfl | exact fun _ _ h => h | (simp [SV.wf, SV.wfs]; done) | trace_state
  · rintro ⟨k, S', hS'⟩ hk
    dsimp only at hk hS' ⊢
    by_cases hlt : k < 8
    · have hat : S'.ats k = S.ats k := by rw [hS', joinAk_at]
      have hnx : { S' with ats := updN S'.ats k (joinA (S'.ats k) (O.ats k)) } = joinAk S O (k + 1) := by
        rw [hat, hS']
        exact joinAk_succ S O k
      (conv => whnf); repeat' (first | ((with_reducible refine isV ?_); first | (refine ValX_idxA (sz := 1) (vs := ptsL c1) (.v (.pointer (ptP c1 k))) tabOk rfl Tryz.underlying94 rfl rfl (by omega) (by omega) rfl (by (try dsimp only); rw [Int.toNat_natCast, pts_at c1 hlt]; rfl) ?_; conv => whnf) | ((refine ValX_arr (n := 8) (sz := 1) tabOk rfl Tryz.underlying94 rfl rfl ?_ ?_ ?_) <;> first | omega | (conv => whnf)) | ((refine ValX_arr (n := 8) (sz := 8) tabOk rfl Tryz.underlying97 rfl rfl ?_ ?_ ?_) <;> first | omega | (conv => whnf)) | ((refine ValX_arr (n := 8) (sz := 1) tabOk rfl Tryz.underlying96 rfl rfl ?_ ?_ ?_) <;> first | omega | (conv => whnf)) | (refine ValX_stPt 1 k _ tabOk rfl rfl rfl rfl hlt rfl ?_; conv => whnf)) | ((with_reducible refine isW ?_); first | ((with_reducible refine xwr_ok (by omega) (by omega) ?_); conv => whnf) | ((with_reducible refine xwr_raw ?_); conv => whnf)) | (with_reducible exact rfl) | ((with_reducible refine xif_kt (by with_reducible assumption) ?_); conv => whnf) | ((with_reducible refine xif_kf (by with_reducible assumption) ?_); conv => whnf) | (((with_reducible refine xif_s ?_ ?_) <;> (intro hb; (try simp (disch := omega) only [hbS] at hb))) <;> (conv => whnf)))
      all_goals try (exfalso; omega)
      (refine CallX_open (b := b1) (c := c1) (S := S') [.p 2 0, .v (.pointer (ptP c2 k))] 0 k 2 ?_ ?_ ?_ hlt (allT_at hlt) ?_ ?_ ?_); (focus (exact Entr.of Tryz.func77 rfl rfl)); (focus rfl); (focus rfl); (focus (simp [SV.wf, SV.wfs])); (focus (intro σ h; simp [SV.vals, SV.val, ptP, h]))
      intro x1 x2 m1 q1 ok1 ab1 hg1
      conv => whnf
      (refine CallX_open (b := b2) (c := c2) (S := O) [.p 2 0, .p 5 0] 1 k 5 ?_ ?_ ?_ hlt (allT_at hlt) ?_ ?_ ?_); (focus (exact Entr.of Tryz.func77 rfl rfl)); (focus rfl); (focus rfl); (focus (simp [SV.wf, SV.wfs])); (focus (intro σ h; simp [SV.vals, SV.val, ptP, h]))
      intro y1 y2 m2 q2 ok2 ab2 hg2
      conv => whnf
      refine CallX_m (Join_m x1 x2 y1 y2 m1 m2 q1 q2 ok1 ok2 (by rw [ab2]; exact hg2)) [2, 3, 4, 5, 6, 7] rfl ⟨⟨rfl, rfl, by simp [SV.wf, SV.wfs]⟩, fun _ _ h => h, fun _ _ h => h, ⟨rfl, rfl, by simp [SV.wf, SV.wfs]⟩, fun _ _ h => h, fun _ _ h => h, trivial⟩ (by decide) (fun _ _ _ _ => trivial) ?_
      rintro ⟨⟨m3, q3⟩, ok3, ab3⟩
      dsimp only at ok3 ⊢
      have ab3 : absM (m3, q3) = joinA (S'.ats k) (O.ats k) := ab3.trans (by rw [ab1, ab2])
      conv => whnf
      refine ⟨y1, y2, m2, q2, rfl, rfl, rfl, rfl, ok2, by rw [ab2]; exact hg2, ?_⟩
      rw [ab2, updN_self]
      conv => whnf
      refine ⟨x1, x2, m3, q3, rfl, rfl, rfl, rfl, ok3, by rw [ab3]; exact goodA_joinA hg1 hg2, ?_⟩
      rw [ab3]
      (conv => whnf); repeat' (first | ((with_reducible refine isW ?_); first | ((with_reducible refine xwr_ok (by omega) (by omega) ?_); conv => whnf) | ((with_reducible refine xwr_raw ?_); conv => whnf)) | (with_reducible exact rfl) | ((with_reducible refine xif_kt (by with_reducible assumption) ?_); conv => whnf) | ((with_reducible refine xif_kf (by with_reducible assumption) ?_); conv => whnf) | (((with_reducible refine xif_s ?_ ?_) <;> (intro hb; (try simp (disch := omega) only [hbS] at hb))) <;> (conv => whnf)))
      all_goals try (exfalso; omega)
      refine ⟨⟨k + 1, _, hnx⟩, [0, 1], by (try dsimp only); omega, ?_, by (try dsimp only); omega⟩
      ((refine ⟨?_, ?_, ?_, ?_⟩) <;> (repeat' ((conv => whnf); apply And.intro)) <;> (try (first | exact trivial | decide)))
      all_goals first | rfl | exact fun _ _ h => h | (simp [SV.wf, SV.wfs]; done) | trace_state
    · obtain rfl : k = 8 := by omega
      (conv => whnf); repeat' (first | ((with_reducible refine isC ?_); first | ((with_reducible refine isF 35 ?_); ((refine CallX_m k2 [1] rfl ⟨fun _ _ h => h, trivial⟩ (by decide) (fun _ _ _ _ => trivial) ?_; intro q2; obtain ⟨A2, d2⟩ := q2)); conv => whnf)) | ((with_reducible refine isW ?_); first | ((with_reducible refine xwr_ok (by omega) (by omega) ?_); conv => whnf) | ((with_reducible refine xwr_raw ?_); conv => whnf)) | (with_reducible exact rfl) | ((with_reducible refine xif_kt (by with_reducible assumption) ?_); conv => whnf) | ((with_reducible refine xif_kf (by with_reducible assumption) ?_); conv => whnf) | (((with_reducible refine xif_s ?_ ?_) <;> (intro hb; (try simp (disch := omega) only [hbS] at hb))) <;> (conv => whnf)))
      all_goals try (exfalso; omega)
      refine LoopX_inv tabOk (α := (t : Nat) × (Nat → Nat → Nat) × {S2 : SnT // S2 = (L.take t).foldl takeS S'}) (fun s => s.1 ≤ L.length) (fun s => [(0, pR b1), (33, .v (.slice A2 L.length d2)), (34, I L.length), (35, I s.1)])
        (fun s => [stO b1 { c1 with rp := s.2.1 } s.2.2.1 allT, stO b2 c2 O allT, .row 39 5 A2 L.length d2 (L.map encR)]) (fun s => L.length - s.1) ⟨0, c1.rp, S', rfl⟩ [0, 1, 2] (Nat.zero_le _) ?_ ?_
      · ((refine ⟨?_, ?_, ?_, ?_⟩) <;> (repeat' ((conv => whnf); apply And.intro)) <;> (try (first | exact trivial | decide)))
        all_goals first | rfl | exact fun _ _ h => h | (simp [SV.wf, SV.wfs]; done) | trace_state
      · rintro ⟨t, rp, S2, hS2⟩ ht
        dsimp only at ht hS2 ⊢
        by_cases hlt : t < L.length
        · have hnx : takeS S2 (L.getD t r0) = (L.take (t + 1)).foldl takeS S' := by
            rw [take_getR hlt, List.foldl_append, hS2]
            rfl
          have kt := takeUp_m b1 { c1 with rp := rp } S2 (L.getD t r0) (hao t hlt)
          (conv => whnf); repeat' (first | ((with_reducible refine isC ?_); first | ((with_reducible refine isF 76 ?_); ((refine CallX_m kt [0] rfl ⟨fun _ _ h => h, trivial⟩ (by decide) (fun _ _ _ _ => trivial) ?_; intro rp2)); conv => whnf)) | ((with_reducible refine isV ?_); first | ((refine ValX_index tabOk rfl (ArgSl.row 2 rfl) rfl ?_ ?_ ?_) <;> first | omega | (with_reducible show (_ : Int) ≤ _) | (with_reducible show (_ : Int) < _) | (with_reducible show (_ : Nat) ≤ _) | (with_reducible show (_ : Nat) < _) | (conv => whnf)) | ((with_reducible refine nat_idx ?_); (refine ValX_loadEn _ _ (r0) tabOk rfl rfl rfl rfl (ArgSl.row 2 rfl) ?_ ?_ ?_) <;> first | rfl | omega | (with_reducible show (_ : Int) ≤ _) | (with_reducible show (_ : Int) < _) | (with_reducible show (_ : Nat) ≤ _) | (with_reducible show (_ : Nat) < _) | (conv => whnf)) | ((refine ValX_loadE _ _ (r0) tabOk rfl rfl rfl rfl (ArgSl.row 2 rfl) ?_ ?_ ?_) <;> first | rfl | omega | (with_reducible show (_ : Int) ≤ _) | (with_reducible show (_ : Int) < _) | (with_reducible show (_ : Nat) ≤ _) | (with_reducible show (_ : Nat) < _) | (conv => whnf))) | ((with_reducible refine isW ?_); first | ((with_reducible refine xwr_ok (by omega) (by omega) ?_); conv => whnf) | ((with_reducible refine xwr_raw ?_); conv => whnf)) | (with_reducible exact rfl) | ((with_reducible refine xif_kt (by with_reducible assumption) ?_); conv => whnf) | ((with_reducible refine xif_kf (by with_reducible assumption) ?_); conv => whnf) | (((with_reducible refine xif_s ?_ ?_) <;> (intro hb; (try simp (disch := omega) only [hbS] at hb))) <;> (conv => whnf)))
          all_goals try (exfalso; omega)
          refine ⟨⟨t + 1, rp2, _, hnx⟩, [0, 1, 2], by (try dsimp only); omega, ?_, by (try dsimp only); omega⟩
          ((refine ⟨?_, ?_, ?_, ?_⟩) <;> (repeat' ((conv => whnf); apply And.intro)) <;> (try (first | exact trivial | decide)))
          all_goals first | rfl | exact fun _ _ h => h | (simp [SV.wf, SV.wfs]; done) | trace_state
        · obtain rfl : t = L.length := by omega
          have hS3 : S2 = hearS S O := by rw [hS2, List.take_length, hS', hfin]
          (conv => whnf); repeat' (first | ((with_reducible refine isW ?_); first | ((with_reducible refine xwr_ok (by omega) (by omega) ?_); conv => whnf) | ((with_reducible refine xwr_raw ?_); conv => whnf)) | (with_reducible exact rfl) | ((with_reducible refine xif_kt (by with_reducible assumption) ?_); conv => whnf) | ((with_reducible refine xif_kf (by with_reducible assumption) ?_); conv => whnf) | (((with_reducible refine xif_s ?_ ?_) <;> (intro hb; (try simp (disch := omega) only [hbS] at hb))) <;> (conv => whnf)))
          all_goals try (exfalso; omega)
          exact Fin_m rp [0, 1] ⟨rfl, by simp [SV.wf, SV.wfs]⟩ ⟨fun _ _ h => stO_cast hS3 rfl h, fun _ _ h => h, trivial⟩ (by decide) rfl
theorem mxO_self {α : Type} (key : α → List Int) (v : α) : mxO key (some v) v = some v := by
  unfold mxO
  dsimp only
  rw [lexC_self, if_neg (by omega)]
theorem take_own {S : SnT} (h : wfS S) {L : List RelT} (hL : L = pairs S) {t : Nat} (ht : t < L.length) : takeS S (L.getD t r0) = S := by
  subst hL
  have hm : (pairs S).getD t r0 ∈ pairs S := by simp [ht]
  unfold pairs pairsN at hm
  obtain ⟨n, _, hn⟩ := List.mem_filterMap.1 hm
  obtain ⟨f, hf, he, _⟩ := prs_ok h hn
  unfold pairs pairsN
  rw [he, (take_norm h hf).1]
  unfold setR
  rw [hf, mxO_self, ← hf, upd2_self]
set_option maxHeartbeats 8000000 in
theorem hearSelf_m (b1 : Nat) (c1 : CoT) (S : SnT) (hS : wfS S) : CallM Tryz.prog 33 [pR b1, pR b1] (fun _ _ => True) [stO b1 c1 S allT] (fun _ : Nat → Nat → Nat => I 0) (fun rp => [stO b1 { c1 with rp := rp } S allT]) := by
  have k2 := relations_m b1 c1 S allT
  have hao := fun t ht => addOk_pair hS (L := pairs S) rfl (t := t) ht
  have hown := fun t ht => take_own hS (L := pairs S) rfl (t := t) ht
  have hl := pairsN_len S 64
  have e1 : pairsN S 64 = pairs S := rfl
  rw [e1] at hl
  clear e1
  generalize pairs S = L at *
  refine CallM.of (m := 1) Tryz.func33 rfl tabOk rfl rfl rfl rfl (by simp [SV.wfs, SV.wf]) fun w M π _ => ?_
  (conv => whnf); repeat' (first | ((with_reducible refine isV ?_); first | (refine ValX_stPts 0 tabOk rfl rfl rfl rfl rfl ?_; conv => whnf)) | ((with_reducible refine isW ?_); first | ((with_reducible refine xwr_ok (by omega) (by omega) ?_); conv => whnf) | ((with_reducible refine xwr_raw ?_); conv => whnf)) | (with_reducible exact rfl) | ((with_reducible refine xif_kt (by with_reducible assumption) ?_); conv => whnf) | ((with_reducible refine xif_kf (by with_reducible assumption) ?_); conv => whnf) | (((with_reducible refine xif_s ?_ ?_) <;> (intro hb; (try simp (disch := omega) only [hbS] at hb))) <;> (conv => whnf)))
  refine LoopX_inv tabOk (α := Nat) (fun s => s ≤ 8) (fun s => [(0, pR b1), (1, pR b1), (18, .a ((ptsL c1).map .v)), (19, I s)]) (fun s => [stO b1 c1 S allT]) (fun s => 8 - s) 0 [0] (Nat.zero_le _) ?_ ?_
  · ((refine ⟨?_, ?_, ?_, ?_⟩) <;> (repeat' ((conv => whnf); apply And.intro)) <;> (try (first | exact trivial | decide)))
    all_goals first | rfl | exact fun _ _ h => h | (simp [SV.wf, SV.wfs]; done) | trace_state
  · intro k hk
    by_cases hlt : k < 8
    · (conv => whnf); repeat' (first | ((with_reducible refine isV ?_); first | (refine ValX_idxA (sz := 1) (vs := ptsL c1) (.v (.pointer (ptP c1 k))) tabOk rfl Tryz.underlying94 rfl rfl (by omega) (by omega) rfl (by (try dsimp only); rw [Int.toNat_natCast, pts_at c1 hlt]; rfl) ?_; conv => whnf) | ((refine ValX_arr (n := 8) (sz := 1) tabOk rfl Tryz.underlying94 rfl rfl ?_ ?_ ?_) <;> first | omega | (conv => whnf)) | ((refine ValX_arr (n := 8) (sz := 8) tabOk rfl Tryz.underlying97 rfl rfl ?_ ?_ ?_) <;> first | omega | (conv => whnf)) | ((refine ValX_arr (n := 8) (sz := 1) tabOk rfl Tryz.underlying96 rfl rfl ?_ ?_ ?_) <;> first | omega | (conv => whnf)) | (refine ValX_stPt 0 k _ tabOk rfl rfl rfl rfl hlt rfl ?_; conv => whnf)) | ((with_reducible refine isW ?_); first | ((with_reducible refine xwr_ok (by omega) (by omega) ?_); conv => whnf) | ((with_reducible refine xwr_raw ?_); conv => whnf)) | (with_reducible exact rfl) | ((with_reducible refine xif_kt (by with_reducible assumption) ?_); conv => whnf) | ((with_reducible refine xif_kf (by with_reducible assumption) ?_); conv => whnf) | (((with_reducible refine xif_s ?_ ?_) <;> (intro hb; (try simp (disch := omega) only [hbS] at hb))) <;> (conv => whnf)))
      all_goals try (exfalso; omega)
      (refine CallX_open (b := b1) (c := c1) (S := S) [.p 1 0, .p 1 0] 0 k 1 ?_ ?_ ?_ hlt (allT_at hlt) ?_ ?_ ?_); (focus (exact Entr.of Tryz.func77 rfl rfl)); (focus rfl); (focus rfl); (focus (simp [SV.wf, SV.wfs])); (focus (intro σ h; simp [SV.vals, SV.val, ptP, h]))
      intro x1 x2 m1 q1 ok1 ab1 hg1
      conv => whnf
      refine CallX_m (JoinSelf_m x1 x2 m1 q1 ok1 (by rw [ab1]; exact hg1)) [1, 2, 3] rfl ⟨⟨rfl, rfl, by simp [SV.wf, SV.wfs]⟩, fun _ _ h => h, fun _ _ h => h, trivial⟩ (by decide) (fun _ _ _ _ => trivial) ?_
      rintro ⟨q3, hq3⟩
      have ab3 : absM (m1, q3) = S.ats k := by
        rw [← ab1]
        unfold absM
        dsimp only
        rw [hq3]
      conv => whnf
      refine ⟨x1, x2, m1, q3, rfl, rfl, rfl, rfl, ok1, by rw [ab3]; exact hg1, ?_⟩
      rw [ab3, updN_self]
      (conv => whnf); repeat' (first | ((with_reducible refine isW ?_); first | ((with_reducible refine xwr_ok (by omega) (by omega) ?_); conv => whnf) | ((with_reducible refine xwr_raw ?_); conv => whnf)) | (with_reducible exact rfl) | ((with_reducible refine xif_kt (by with_reducible assumption) ?_); conv => whnf) | ((with_reducible refine xif_kf (by with_reducible assumption) ?_); conv => whnf) | (((with_reducible refine xif_s ?_ ?_) <;> (intro hb; (try simp (disch := omega) only [hbS] at hb))) <;> (conv => whnf)))
      all_goals try (exfalso; omega)
      refine ⟨k + 1, [0], by (try dsimp only); omega, ?_, by (try dsimp only); omega⟩
      ((refine ⟨?_, ?_, ?_, ?_⟩) <;> (repeat' ((conv => whnf); apply And.intro)) <;> (try (first | exact trivial | decide)))
      all_goals first | rfl | exact fun _ _ h => h | (simp [SV.wf, SV.wfs]; done) | trace_state
    · obtain rfl : k = 8 := by omega
      (conv => whnf); repeat' (first | ((with_reducible refine isC ?_); first | ((with_reducible refine isF 35 ?_); ((refine CallX_m k2 [0] rfl ⟨fun _ _ h => h, trivial⟩ (by decide) (fun _ _ _ _ => trivial) ?_; intro q2; obtain ⟨A2, d2⟩ := q2)); conv => whnf)) | ((with_reducible refine isW ?_); first | ((with_reducible refine xwr_ok (by omega) (by omega) ?_); conv => whnf) | ((with_reducible refine xwr_raw ?_); conv => whnf)) | (with_reducible exact rfl) | ((with_reducible refine xif_kt (by with_reducible assumption) ?_); conv => whnf) | ((with_reducible refine xif_kf (by with_reducible assumption) ?_); conv => whnf) | (((with_reducible refine xif_s ?_ ?_) <;> (intro hb; (try simp (disch := omega) only [hbS] at hb))) <;> (conv => whnf)))
      all_goals try (exfalso; omega)
      refine LoopX_inv tabOk (α := Nat × (Nat → Nat → Nat)) (fun s => s.1 ≤ L.length) (fun s => [(0, pR b1), (33, .v (.slice A2 L.length d2)), (34, I L.length), (35, I s.1)])
        (fun s => [stO b1 { c1 with rp := s.2 } S allT, .row 39 5 A2 L.length d2 (L.map encR)]) (fun s => L.length - s.1) (0, c1.rp) [0, 1] (Nat.zero_le _) ?_ ?_
      · ((refine ⟨?_, ?_, ?_, ?_⟩) <;> (repeat' ((conv => whnf); apply And.intro)) <;> (try (first | exact trivial | decide)))
        all_goals first | rfl | exact fun _ _ h => h | (simp [SV.wf, SV.wfs]; done) | trace_state
      · rintro ⟨t, rp⟩ ht
        dsimp only at ht ⊢
        by_cases hlt : t < L.length
        · have kt := takeUp_m b1 { c1 with rp := rp } S (L.getD t r0) (hao t hlt)
          rw [hown t hlt] at kt
          (conv => whnf); repeat' (first | ((with_reducible refine isC ?_); first | ((with_reducible refine isF 76 ?_); ((refine CallX_m kt [0] rfl ⟨fun _ _ h => h, trivial⟩ (by decide) (fun _ _ _ _ => trivial) ?_; intro rp2)); conv => whnf)) | ((with_reducible refine isV ?_); first | ((refine ValX_index tabOk rfl (ArgSl.row 1 rfl) rfl ?_ ?_ ?_) <;> first | omega | (with_reducible show (_ : Int) ≤ _) | (with_reducible show (_ : Int) < _) | (with_reducible show (_ : Nat) ≤ _) | (with_reducible show (_ : Nat) < _) | (conv => whnf)) | ((with_reducible refine nat_idx ?_); (refine ValX_loadEn _ _ (r0) tabOk rfl rfl rfl rfl (ArgSl.row 1 rfl) ?_ ?_ ?_) <;> first | rfl | omega | (with_reducible show (_ : Int) ≤ _) | (with_reducible show (_ : Int) < _) | (with_reducible show (_ : Nat) ≤ _) | (with_reducible show (_ : Nat) < _) | (conv => whnf)) | ((refine ValX_loadE _ _ (r0) tabOk rfl rfl rfl rfl (ArgSl.row 1 rfl) ?_ ?_ ?_) <;> first | rfl | omega | (with_reducible show (_ : Int) ≤ _) | (with_reducible show (_ : Int) < _) | (with_reducible show (_ : Nat) ≤ _) | (with_reducible show (_ : Nat) < _) | (conv => whnf))) | ((with_reducible refine isW ?_); first | ((with_reducible refine xwr_ok (by omega) (by omega) ?_); conv => whnf) | ((with_reducible refine xwr_raw ?_); conv => whnf)) | (with_reducible exact rfl) | ((with_reducible refine xif_kt (by with_reducible assumption) ?_); conv => whnf) | ((with_reducible refine xif_kf (by with_reducible assumption) ?_); conv => whnf) | (((with_reducible refine xif_s ?_ ?_) <;> (intro hb; (try simp (disch := omega) only [hbS] at hb))) <;> (conv => whnf)))
          all_goals try (exfalso; omega)
          refine ⟨(t + 1, rp2), [0, 1], by (try dsimp only); omega, ?_, by (try dsimp only); omega⟩
          ((refine ⟨?_, ?_, ?_, ?_⟩) <;> (repeat' ((conv => whnf); apply And.intro)) <;> (try (first | exact trivial | decide)))
          all_goals first | rfl | exact fun _ _ h => h | (simp [SV.wf, SV.wfs]; done) | trace_state
        · obtain rfl : t = L.length := by omega
          (conv => whnf); repeat' (first | ((with_reducible refine isW ?_); first | ((with_reducible refine xwr_ok (by omega) (by omega) ?_); conv => whnf) | ((with_reducible refine xwr_raw ?_); conv => whnf)) | (with_reducible exact rfl) | ((with_reducible refine xif_kt (by with_reducible assumption) ?_); conv => whnf) | ((with_reducible refine xif_kf (by with_reducible assumption) ?_); conv => whnf) | (((with_reducible refine xif_s ?_ ?_) <;> (intro hb; (try simp (disch := omega) only [hbS] at hb))) <;> (conv => whnf)))
          all_goals try (exfalso; omega)
          exact Fin_m rp [0] ⟨rfl, by simp [SV.wf, SV.wfs]⟩ ⟨fun _ _ h => h, trivial⟩ (by decide) rfl
def clK (S : SnT) (k : Nat) : SnT := ⟨S.me, fun _ _ => none, fun i => if i < k then S.ats i else at0⟩
theorem clK_succ (S : SnT) (k : Nat) : { clK S k with ats := updN (clK S k).ats k (S.ats k) } = clK S (k + 1) := by
  unfold clK
  dsimp only
  congr 1
  funext i
  unfold updN
  by_cases e : i = k
  · rw [if_pos e, if_pos (by omega), e]
  · rw [if_neg e]
    dsimp only
    by_cases c : i < k
    · rw [if_pos c, if_pos (by omega)]
    · rw [if_neg c, if_neg (by omega)]
theorem clone_all {S : SnT} (hS : wfS S) : (pairs S).foldl takeS (clK S 8) = S := by
  rw [hear_pairs hS]
  unfold joinR clK
  dsimp only
  have e1 : (fun u v => joinO keyF (none : Option Fr) (S.rel u v)) = S.rel := by
    funext u v
    cases S.rel u v <;> rfl
  have e2 : (fun i => if i < 8 then S.ats i else at0) = S.ats := by
    funext i
    by_cases c : i < 8
    · rw [if_pos c]
    · rw [if_neg c, hS.2.2 i (by omega)]
  rw [e1, e2]
set_option maxHeartbeats 8000000 in
theorem fClone_m (b : Nat) (c : CoT) (S : SnT) (hS : wfS S) : CallM Tryz.prog 32 [pR b] (fun _ _ => True) [stO b c S allT] (fun q : Nat × CoT => pR q.1) (fun q => [stO b c S allT, stO q.1 q.2 S allT]) := by
  have k2 := relations_m b c S allT
  have hfin := clone_all hS
  have hao := fun t ht => addOk_pair hS (L := pairs S) rfl (t := t) ht
  have hl := pairsN_len S 64
  have e1 : pairsN S 64 = pairs S := rfl
  rw [e1] at hl
  clear e1
  generalize pairs S = L at *
  refine CallM.of (m := 1) Tryz.func32 rfl tabOk rfl rfl rfl rfl (by simp [SV.wfs, SV.wf]) fun w M π _ => ?_
  (conv => whnf); repeat' (first | ((with_reducible refine isV ?_); first | (refine ValX_stMe 0 _ tabOk rfl rfl rfl rfl rfl ?_; conv => whnf) | (refine ValX_stPts 0 tabOk rfl rfl rfl rfl rfl ?_; conv => whnf)) | ((with_reducible refine isW ?_); first | ((with_reducible refine xwr_ok (by omega) (by omega) ?_); conv => whnf) | ((with_reducible refine xwr_raw ?_); conv => whnf)) | ((refine DrawX_s tabOk folOk ?_); conv => whnf) | ((refine DrawS_i (by kernel_rfl) ?_); conv => whnf) | ((with_reducible refine andX_i ?_ ?_) <;> (conv => whnf)) | (with_reducible exact rfl) | ((with_reducible refine xif_kt (by with_reducible assumption) ?_); conv => whnf) | ((with_reducible refine xif_kf (by with_reducible assumption) ?_); conv => whnf) | (((with_reducible refine xif_s ?_ ?_) <;> (intro hb; (try simp (disch := omega) only [hbS] at hb))) <;> (conv => whnf)))
  refine LoopX_conv 1 _ (fun b => stO b co0 (sn0 S.me) noneT) rfl (fun σ fp w hm => st_new hm rfl rfl) ?_
  intro b2
  conv => whnf
  refine LoopX_inv tabOk (α := (k : Nat) × CoT × {q : SnT × (Nat → Bool) // q.1 = clK S k ∧ q.2 = fun i => decide (i < k)}) (fun s => s.1 ≤ 8) (fun s => [(0, pR b), (3, pR b2), (19, .a ((ptsL c).map .v)), (20, I s.1)]) (fun s => [stO b c S allT, stO b2 s.2.1 s.2.2.1.1 s.2.2.1.2]) (fun s => 8 - s.1) ⟨0, co0, ⟨(sn0 S.me, noneT), rfl, rfl⟩⟩ [0, 1] (Nat.zero_le _) ?_ ?_
  · ((refine ⟨?_, ?_, ?_, ?_⟩) <;> (repeat' ((conv => whnf); apply And.intro)) <;> (try (first | exact trivial | decide)))
    all_goals first | rfl | exact fun _ _ h => h | (simp [SV.wf, SV.wfs]; done) | trace_state
  · rintro ⟨k, c2, ⟨⟨S2, H⟩, hS2, hH⟩⟩ hk
    dsimp only at hk hS2 hH ⊢
    by_cases hlt : k < 8
    · have hnx : { S2 with ats := updN S2.ats k (S.ats k) } = clK S (k + 1) := by
        rw [hS2]
        exact clK_succ S k
      have hHn : onF H k = fun i => decide (i < k + 1) := by
        rw [hH]
        funext i
        show (if i = k then true else decide (i < k)) = decide (i < k + 1)
        by_cases e : i = k
        · rw [if_pos e, e]
          exact (decide_eq_true (by omega)).symm
        · rw [if_neg e]
          exact decide_eq_decide.2 (by omega)
      (conv => whnf); repeat' (first | ((with_reducible refine isV ?_); first | (refine ValX_idxA (sz := 1) (vs := ptsL c) (.v (.pointer (ptP c k))) tabOk rfl Tryz.underlying94 rfl rfl (by omega) (by omega) rfl (by (try dsimp only); rw [Int.toNat_natCast, pts_at c hlt]; rfl) ?_; conv => whnf) | ((refine ValX_arr (n := 8) (sz := 1) tabOk rfl Tryz.underlying94 rfl rfl ?_ ?_ ?_) <;> first | omega | (conv => whnf)) | ((refine ValX_arr (n := 8) (sz := 8) tabOk rfl Tryz.underlying97 rfl rfl ?_ ?_ ?_) <;> first | omega | (conv => whnf)) | ((refine ValX_arr (n := 8) (sz := 1) tabOk rfl Tryz.underlying96 rfl rfl ?_ ?_ ?_) <;> first | omega | (conv => whnf))) | ((with_reducible refine isW ?_); first | ((with_reducible refine xwr_ok (by omega) (by omega) ?_); conv => whnf) | ((with_reducible refine xwr_raw ?_); conv => whnf)) | ((refine DrawX_s tabOk folOk ?_); conv => whnf) | ((refine DrawS_i (by kernel_rfl) ?_); conv => whnf) | ((with_reducible refine andX_i ?_ ?_) <;> (conv => whnf)) | (with_reducible exact rfl) | ((with_reducible refine xif_kt (by with_reducible assumption) ?_); conv => whnf) | ((with_reducible refine xif_kf (by with_reducible assumption) ?_); conv => whnf) | (((with_reducible refine xif_s ?_ ?_) <;> (intro hb; (try simp (disch := omega) only [hbS] at hb))) <;> (conv => whnf)))
      all_goals try (exfalso; omega)
      (refine CallX_open (b := b) (c := c) (S := S) [.p 2 0] 0 k 2 ?_ ?_ ?_ hlt (allT_at hlt) ?_ ?_ ?_); (focus (exact Entr.of Tryz.func75 rfl rfl)); (focus rfl); (focus rfl); (focus (simp [SV.wf, SV.wfs])); (focus (intro σ h; simp [SV.vals, SV.val, ptP, h]))
      intro x1 x2 m1 q1 ok1 ab1 hg1
      conv => whnf
      refine CallX_m (AClone_m x1 x2 m1 q1 ok1 (by rw [ab1]; exact hg1)) [2, 3, 4] rfl ⟨⟨rfl, rfl, by simp [SV.wf, SV.wfs]⟩, fun _ _ h => h, fun _ _ h => h, trivial⟩ (by decide) (fun _ _ _ _ => trivial) ?_
      rintro ⟨⟨y1, y2⟩, ⟨m2, q2⟩, ok2, ab2⟩
      dsimp only at ok2 ⊢
      have ab2 : absM (m2, q2) = S.ats k := ab2.trans ab1
      conv => whnf
      refine ⟨x1, x2, m1, q1, rfl, rfl, rfl, rfl, ok1, by rw [ab1]; exact hg1, ?_⟩
      rw [ab1, updN_self]
      (conv => whnf); repeat' (first | ((with_reducible refine isV ?_); first | ((refine ValX_arr (n := 8) (sz := 1) tabOk rfl Tryz.underlying94 rfl rfl ?_ ?_ ?_) <;> first | omega | (conv => whnf)) | ((refine ValX_arr (n := 8) (sz := 8) tabOk rfl Tryz.underlying97 rfl rfl ?_ ?_ ?_) <;> first | omega | (conv => whnf)) | ((refine ValX_arr (n := 8) (sz := 1) tabOk rfl Tryz.underlying96 rfl rfl ?_ ?_ ?_) <;> first | omega | (conv => whnf))) | ((with_reducible refine isO ?_); first | (refine OpX_stPt 1 5 6 7 k (by decide) (by decide) (by decide) (by decide) (by decide) (by decide) tabOk rfl rfl rfl rfl rfl rfl rfl ok2 (by rw [ab2]; exact hg1) hlt (by rw [hH]; exact decide_eq_false (by omega)) ?_; intro p; rw [ab2]; conv => whnf)) | ((with_reducible refine isW ?_); first | ((with_reducible refine xwr_ok (by omega) (by omega) ?_); conv => whnf) | ((with_reducible refine xwr_raw ?_); conv => whnf)) | ((refine DrawX_s tabOk folOk ?_); conv => whnf) | ((refine DrawS_i (by kernel_rfl) ?_); conv => whnf) | ((with_reducible refine andX_i ?_ ?_) <;> (conv => whnf)) | (with_reducible exact rfl) | ((with_reducible refine xif_kt (by with_reducible assumption) ?_); conv => whnf) | ((with_reducible refine xif_kf (by with_reducible assumption) ?_); conv => whnf) | (((with_reducible refine xif_s ?_ ?_) <;> (intro hb; (try simp (disch := omega) only [hbS] at hb))) <;> (conv => whnf)))
      all_goals try (exfalso; omega)
      refine ⟨⟨k + 1, { c2 with pt := updN c2.pt k (some p) }, ⟨({ S2 with ats := updN S2.ats k (S.ats k) }, onF H k), hnx, hHn⟩⟩, [0, 1], by (try dsimp only); omega, ?_, by (try dsimp only); omega⟩
      ((refine ⟨?_, ?_, ?_, ?_⟩) <;> (repeat' ((conv => whnf); apply And.intro)) <;> (try (first | exact trivial | decide)))
      all_goals first | rfl | exact fun _ _ h => h | (simp [SV.wf, SV.wfs]; done) | trace_state
    · obtain rfl : k = 8 := by omega
      obtain rfl : H = allT := hH
      (conv => whnf); repeat' (first | ((with_reducible refine isC ?_); first | ((with_reducible refine isF 35 ?_); ((refine CallX_m k2 [0] rfl ⟨fun _ _ h => h, trivial⟩ (by decide) (fun _ _ _ _ => trivial) ?_; intro q2; obtain ⟨A2, d2⟩ := q2)); conv => whnf)) | ((with_reducible refine isW ?_); first | ((with_reducible refine xwr_ok (by omega) (by omega) ?_); conv => whnf) | ((with_reducible refine xwr_raw ?_); conv => whnf)) | ((refine DrawX_s tabOk folOk ?_); conv => whnf) | ((refine DrawS_i (by kernel_rfl) ?_); conv => whnf) | ((with_reducible refine andX_i ?_ ?_) <;> (conv => whnf)) | (with_reducible exact rfl) | ((with_reducible refine xif_kt (by with_reducible assumption) ?_); conv => whnf) | ((with_reducible refine xif_kf (by with_reducible assumption) ?_); conv => whnf) | (((with_reducible refine xif_s ?_ ?_) <;> (intro hb; (try simp (disch := omega) only [hbS] at hb))) <;> (conv => whnf)))
      all_goals try (exfalso; omega)
      refine LoopX_inv tabOk (α := (t : Nat) × (Nat → Nat → Nat) × {S3 : SnT // S3 = (L.take t).foldl takeS S2}) (fun s => s.1 ≤ L.length) (fun s => [(3, pR b2), (33, .v (.slice A2 L.length d2)), (34, I L.length), (35, I s.1)])
        (fun s => [stO b c S allT, stO b2 { c2 with rp := s.2.1 } s.2.2.1 allT, .row 39 5 A2 L.length d2 (L.map encR)]) (fun s => L.length - s.1) ⟨0, c2.rp, S2, rfl⟩ [0, 1, 2] (Nat.zero_le _) ?_ ?_
      · ((refine ⟨?_, ?_, ?_, ?_⟩) <;> (repeat' ((conv => whnf); apply And.intro)) <;> (try (first | exact trivial | decide)))
        all_goals first | rfl | exact fun _ _ h => h | (simp [SV.wf, SV.wfs]; done) | trace_state
      · rintro ⟨t, rp, S3, hS3⟩ ht
        dsimp only at ht hS3 ⊢
        by_cases hlt : t < L.length
        · have hnx : takeS S3 (L.getD t r0) = (L.take (t + 1)).foldl takeS S2 := by
            rw [take_getR hlt, List.foldl_append, hS3]
            rfl
          have kt := takeUp_m b2 { c2 with rp := rp } S3 (L.getD t r0) (hao t hlt)
          (conv => whnf); repeat' (first | ((with_reducible refine isC ?_); first | ((with_reducible refine isF 76 ?_); ((refine CallX_m kt [1] rfl ⟨fun _ _ h => h, trivial⟩ (by decide) (fun _ _ _ _ => trivial) ?_; intro rp2)); conv => whnf)) | ((with_reducible refine isV ?_); first | ((refine ValX_index tabOk rfl (ArgSl.row 2 rfl) rfl ?_ ?_ ?_) <;> first | omega | (with_reducible show (_ : Int) ≤ _) | (with_reducible show (_ : Int) < _) | (with_reducible show (_ : Nat) ≤ _) | (with_reducible show (_ : Nat) < _) | (conv => whnf)) | ((with_reducible refine nat_idx ?_); (refine ValX_loadEn _ _ (r0) tabOk rfl rfl rfl rfl (ArgSl.row 2 rfl) ?_ ?_ ?_) <;> first | rfl | omega | (with_reducible show (_ : Int) ≤ _) | (with_reducible show (_ : Int) < _) | (with_reducible show (_ : Nat) ≤ _) | (with_reducible show (_ : Nat) < _) | (conv => whnf)) | ((refine ValX_loadE _ _ (r0) tabOk rfl rfl rfl rfl (ArgSl.row 2 rfl) ?_ ?_ ?_) <;> first | rfl | omega | (with_reducible show (_ : Int) ≤ _) | (with_reducible show (_ : Int) < _) | (with_reducible show (_ : Nat) ≤ _) | (with_reducible show (_ : Nat) < _) | (conv => whnf))) | ((with_reducible refine isW ?_); first | ((with_reducible refine xwr_ok (by omega) (by omega) ?_); conv => whnf) | ((with_reducible refine xwr_raw ?_); conv => whnf)) | ((refine DrawX_s tabOk folOk ?_); conv => whnf) | ((refine DrawS_i (by kernel_rfl) ?_); conv => whnf) | ((with_reducible refine andX_i ?_ ?_) <;> (conv => whnf)) | (with_reducible exact rfl) | ((with_reducible refine xif_kt (by with_reducible assumption) ?_); conv => whnf) | ((with_reducible refine xif_kf (by with_reducible assumption) ?_); conv => whnf) | (((with_reducible refine xif_s ?_ ?_) <;> (intro hb; (try simp (disch := omega) only [hbS] at hb))) <;> (conv => whnf)))
          all_goals try (exfalso; omega)
          refine ⟨⟨t + 1, rp2, _, hnx⟩, [0, 1, 2], by (try dsimp only); omega, ?_, by (try dsimp only); omega⟩
          ((refine ⟨?_, ?_, ?_, ?_⟩) <;> (repeat' ((conv => whnf); apply And.intro)) <;> (try (first | exact trivial | decide)))
          all_goals first | rfl | exact fun _ _ h => h | (simp [SV.wf, SV.wfs]; done) | trace_state
        · obtain rfl : t = L.length := by omega
          have hS4 : S3 = S := by rw [hS3, List.take_length, hS2, hfin]
          (conv => whnf); repeat' (first | ((with_reducible refine isW ?_); first | ((with_reducible refine xwr_ok (by omega) (by omega) ?_); conv => whnf) | ((with_reducible refine xwr_raw ?_); conv => whnf)) | ((refine DrawX_s tabOk folOk ?_); conv => whnf) | ((refine DrawS_i (by kernel_rfl) ?_); conv => whnf) | ((with_reducible refine andX_i ?_ ?_) <;> (conv => whnf)) | (with_reducible exact rfl) | ((with_reducible refine xif_kt (by with_reducible assumption) ?_); conv => whnf) | ((with_reducible refine xif_kf (by with_reducible assumption) ?_); conv => whnf) | (((with_reducible refine xif_s ?_ ?_) <;> (intro hb; (try simp (disch := omega) only [hbS] at hb))) <;> (conv => whnf)))
          all_goals try (exfalso; omega)
          exact Fin_m (b2, { c2 with rp := rp }) [0, 1] ⟨rfl, by simp [SV.wf, SV.wfs]⟩ ⟨fun _ _ h => h, fun _ _ h => stO_cast hS4 rfl h, trivial⟩ (by decide) rfl
end Go.Proofs.YtlnplelandimeaaGreat.En
end
