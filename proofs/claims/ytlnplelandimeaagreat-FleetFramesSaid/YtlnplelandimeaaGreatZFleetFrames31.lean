import Derived.Test.YtlnplelandimeaaGreatZFleetFrames30
import Derived.Test.YtlnplelandimeaaGreatZFleetFrames14
import Derived.Test.YtlnplelandimeaaGreatZFleetFrames23
set_option linter.all false
section
namespace Go.Proofs.YtlnplelandimeaaGreat.En
open Go.RowKit
set_option maxRecDepth 100000
def wfS (S : SnT) : Prop := (∀ x y, ¬ (x < y ∧ y < 8) → S.rel x y = none) ∧ (∀ x y f, S.rel x y = some f → (0 ≤ f.1 ∧ f.1 < 4) ∧ (-1024 ≤ f.2.1 ∧ f.2.1 ≤ 1024) ∧ -1024 ≤ f.2.2 ∧ f.2.2 ≤ 1024) ∧ ∀ i, 8 ≤ i → S.ats i = at0
theorem prs_ok {S : SnT} (h : wfS S) {t : Nat} {x : RelT} (hx : prs S t = some x) : ∃ f, S.rel (t / 8) (t % 8) = some f ∧ x = (((t / 8 : Nat) : Int), ((t % 8 : Nat) : Int), f) ∧ t / 8 < t % 8 ∧ t % 8 < 8 := by
  unfold prs at hx
  rcases opt_em (S.rel (t / 8) (t % 8)) with hn | ⟨f, hs⟩
  · rw [hn] at hx; cases hx
  · rw [hs] at hx
    refine ⟨f, hs, (Option.some.inj hx).symm, ?_⟩
    by_cases hc : t / 8 < t % 8 ∧ t % 8 < 8
    · exact hc
    · rw [h.1 _ _ hc] at hs; cases hs
theorem take_norm {S O : SnT} (h : wfS O) {u v : Nat} {f : Fr} (hf : O.rel u v = some f) : takeS S ((u : Int), (v : Int), f) = setR S u v f ∧ addOk ((u : Int), (v : Int), f) = true := by
  have hlt : u < v ∧ v < 8 := by
    by_cases hc : u < v ∧ v < 8
    · exact hc
    · rw [h.1 _ _ hc] at hf; cases hf
  obtain ⟨h1, h2, h3⟩ := h.2.1 u v f hf
  constructor
  · unfold takeS normR
    dsimp only
    rw [if_neg (by omega)]
    simp only [Int.toNat_natCast]
    congr 1
    exact Prod.ext (by simp; omega) rfl
  · unfold addOk rbB szB
    simp
    omega
theorem hear_fold {O : SnT} (h : wfS O) (S : SnT) : ∀ n, n ≤ 64 → (pairsN O n).foldl takeS S = { S with rel := fun u v => if v < 8 ∧ 8 * u + v < n then joinO keyF (S.rel u v) (O.rel u v) else S.rel u v }
  | 0, _ => by
    show S = _
    have : (fun u v => if v < 8 ∧ 8 * u + v < 0 then joinO keyF (S.rel u v) (O.rel u v) else S.rel u v) = S.rel := by
      funext u v
      rw [if_neg (by omega)]
    rw [this]
  | n + 1, hn => by
    have ih := hear_fold h S n (by omega)
    rcases opt_em (prs O n) with hp | ⟨x, hp⟩
    · rw [pairsN_none hp, ih]
      congr 1
      funext u v
      by_cases c1 : v < 8 ∧ 8 * u + v < n
      · rw [if_pos c1, if_pos (by omega)]
      · rw [if_neg c1]
        by_cases c2 : v < 8 ∧ 8 * u + v < n + 1
        · rw [if_pos c2]
          have : O.rel u v = none := by
            unfold prs at hp
            rw [show n / 8 = u by omega, show n % 8 = v by omega] at hp
            simpa using hp
          rw [this]
          rfl
        · rw [if_neg c2]
    · obtain ⟨f, hf, rfl, hlt⟩ := prs_ok h hp
      rw [pairsN_some hp, List.foldl_append, ih]
      simp only [List.foldl_cons, List.foldl_nil]
      rw [(take_norm h hf).1]
      unfold setR
      congr 1
      funext u v
      unfold upd2
      dsimp only
      by_cases e : u = n / 8 ∧ v = n % 8
      · rw [if_pos e, if_neg (by omega), if_pos (by omega), e.1, e.2, hf]
        rfl
      · rw [if_neg e]
        by_cases c1 : v < 8 ∧ 8 * u + v < n
        · rw [if_pos c1, if_pos (by omega)]
        · rw [if_neg c1, if_neg (by omega)]
def joinR (S O : SnT) : SnT := { S with rel := fun u v => joinO keyF (S.rel u v) (O.rel u v) }
theorem hear_pairs {O : SnT} (h : wfS O) (S : SnT) : (pairs O).foldl takeS S = joinR S O := by
  unfold pairs
  rw [hear_fold h S 64 (Nat.le_refl _)]
  unfold joinR
  congr 1
  funext u v
  by_cases c : v < 8 ∧ 8 * u + v < 64
  · rw [if_pos c]
  · rw [if_neg c, h.1 u v (by omega)]
    rfl
def hearS (S O : SnT) : SnT := ⟨S.me, fun u v => joinO keyF (S.rel u v) (O.rel u v), fun i => joinA (S.ats i) (O.ats i)⟩
def r0 : RelT := (0, 0, 0, 0, 0)
end Go.Proofs.YtlnplelandimeaaGreat.En
end
section
namespace Go.Proofs.YtlnplelandimeaaGreat.En
open Go.RowKit
set_option maxRecDepth 100000
theorem addOk_pair {O : SnT} (h : wfS O) {L : List RelT} (hL : L = pairs O) {t : Nat} (ht : t < L.length) : addOk (L.getD t r0) = true := by
  subst hL
  have hm : (pairs O).getD t r0 ∈ pairs O := by simp [ht]
  unfold pairs pairsN at hm
  obtain ⟨n, _, hn⟩ := List.mem_filterMap.1 hm
  obtain ⟨f, hf, he, _⟩ := prs_ok h hn
  unfold pairs pairsN
  rw [he]
  exact (take_norm (S := O) h hf).2
theorem take_getR {L : List RelT} {t : Nat} (ht : t < L.length) : L.take (t + 1) = L.take t ++ [L.getD t r0] := by
  rw [List.take_succ]
  simp [ht]
def joinAk (S O : SnT) (k : Nat) : SnT := { S with ats := fun i => if i < k then joinA (S.ats i) (O.ats i) else S.ats i }
theorem joinAk_succ (S O : SnT) (k : Nat) : { joinAk S O k with ats := updN (joinAk S O k).ats k (joinA (S.ats k) (O.ats k)) } = joinAk S O (k + 1) := by
  unfold joinAk
  dsimp only
  congr 1
  funext i
  unfold updN
  by_cases e : i = k
  · rw [if_pos e, if_pos (by omega), e]
  · rw [if_neg e]
    dsimp only
    by_cases c : i < k
    · rw [if_pos c, if_pos (by omega)]
    · rw [if_neg c, if_neg (by omega)]
theorem joinAk_at (S O : SnT) (k : Nat) : (joinAk S O k).ats k = S.ats k := by
  unfold joinAk
  dsimp only
  rw [if_neg (by omega)]
theorem hear_all {S O : SnT} (hO : wfS O) : (pairs O).foldl takeS (joinAk S O 8) = hearS S O := by
  rw [hear_pairs hO]
  unfold joinR joinAk hearS
  dsimp only
  congr 1
  funext i
  by_cases c : i < 8
  · rw [if_pos c]
  · rw [if_neg c, hO.2.2 i (by omega)]
    rfl
set_option maxHeartbeats 8000000 in
theorem hear_m (b1 b2 : Nat) (c1 c2 : CoT) (S O : SnT) (hO : wfS O) : CallM Tryz.prog 33 [pR b1, pR b2] (fun _ _ => True) [stO b1 c1 S allT, stO b2 c2 O allT]
    (fun _ : Nat → Nat → Nat => I 0) (fun rp => [stO b1 { c1 with rp := rp } (hearS S O) allT, stO b2 c2 O allT]) := by
  have k2 := relations_m b2 c2 O allT
  have hfin := hear_all (S := S) hO
  have hao := fun t ht => addOk_pair hO (L := pairs O) rfl (t := t) ht
  have hl := pairsN_len O 64
  have e1 : pairsN O 64 = pairs O := rfl
  rw [e1] at hl
  clear e1
  generalize pairs O = L at *
  refine CallM.of (m := 2) Tryz.func33 rfl tabOk rfl rfl rfl rfl (by simp [SV.wfs, SV.wf]) fun w M π _ => ?_
  (conv=>whnf);repeat' (first|((with_reducible refine isV ?_);first|(refine ValX_stPts 0 tabOk rfl rfl rfl rfl rfl ?_; conv => whnf))|((with_reducible refine isW ?_;first|refine xwr_ok (by omega) (by omega) ?_|refine xwr_raw ?_);conv=>whnf)|with_reducible exact rfl|((with_reducible first|refine xif_kt (by assumption) ?_|refine xif_kf (by assumption) ?_);conv=>whnf)|((with_reducible refine xif_s ?_ ?_)<;>(intro hb;(try simp (disch:=omega) only [hbS] at hb)<;>conv=>whnf)))
  have hj0 : joinAk S O 0 = S := by
    unfold joinAk
    have : (fun i => if i < 0 then joinA (S.ats i) (O.ats i) else S.ats i) = S.ats := by
      funext i
      rw [if_neg (by omega)]
    rw [this]
  refine LoopX_inv tabOk (α := (k : Nat) × {S' : SnT // S' = joinAk S O k}) (fun s => s.1 ≤ 8) (fun s => [(0, pR b1), (1, pR b2), (18, .a ((ptsL c1).map .v)), (19, I s.1)]) (fun s => [stO b1 c1 s.2.1 allT, stO b2 c2 O allT]) (fun s => 8 - s.1) ⟨0, S, hj0.symm⟩ [0, 1] (Nat.zero_le _) ?_ ?_
  · ((refine ⟨?_, ?_, ?_, ?_⟩) <;> (repeat' ((conv => whnf); apply And.intro)) <;> (try (first | exact trivial | decide)))
    all_goals first | rfl | exact fun _ _ h => h | (simp [SV.wf, SV.wfs]; done) | trace_state
  · rintro ⟨k, S', hS'⟩ hk
    dsimp only at hk hS' ⊢
    by_cases hlt : k < 8
    · have hat : S'.ats k = S.ats k := by rw [hS', joinAk_at]
      have hnx : { S' with ats := updN S'.ats k (joinA (S'.ats k) (O.ats k)) } = joinAk S O (k + 1) := by
        rw [hat, hS']
        exact joinAk_succ S O k
      (conv=>whnf);repeat' (first|((with_reducible refine isV ?_);first|(refine ValX_idxA (sz := 1) (vs := ptsL c1) (.v (.pointer (ptP c1 k))) tabOk rfl Tryz.underlying94 rfl rfl (by omega) (by omega) rfl (by (try dsimp only); rw [Int.toNat_natCast, pts_at c1 hlt]; rfl) ?_; conv => whnf)|((refine ValX_arr (n := 8) (sz := 1) tabOk rfl Tryz.underlying94 rfl rfl ?_ ?_ ?_) <;> first | omega | (conv => whnf))|((refine ValX_arr (n := 8) (sz := 8) tabOk rfl Tryz.underlying97 rfl rfl ?_ ?_ ?_) <;> first | omega | (conv => whnf))|((refine ValX_arr (n := 8) (sz := 1) tabOk rfl Tryz.underlying96 rfl rfl ?_ ?_ ?_) <;> first | omega | (conv => whnf))|(refine ValX_stPt 1 k _ tabOk rfl rfl rfl rfl hlt rfl ?_; conv => whnf))|((with_reducible refine isW ?_;first|refine xwr_ok (by omega) (by omega) ?_|refine xwr_raw ?_);conv=>whnf)|with_reducible exact rfl|((with_reducible first|refine xif_kt (by assumption) ?_|refine xif_kf (by assumption) ?_);conv=>whnf)|((with_reducible refine xif_s ?_ ?_)<;>(intro hb;(try simp (disch:=omega) only [hbS] at hb)<;>conv=>whnf)))
      all_goals try (exfalso; omega)
      (refine CallX_open (b := b1) (c := c1) (S := S') [.p 2 0, .v (.pointer (ptP c2 k))] 0 k 2 ?_ ?_ ?_ hlt (allT_at hlt) ?_ ?_ ?_); (focus (exact Entr.of Tryz.func77 rfl rfl)); (focus rfl); (focus rfl); (focus (simp [SV.wf, SV.wfs])); (focus (intro σ h; simp [SV.vals, SV.val, ptP, h]))
      intro x1 x2 m1 q1 ok1 ab1 hg1
      conv => whnf
      (refine CallX_open (b := b2) (c := c2) (S := O) [.p 2 0, .p 5 0] 1 k 5 ?_ ?_ ?_ hlt (allT_at hlt) ?_ ?_ ?_); (focus (exact Entr.of Tryz.func77 rfl rfl)); (focus rfl); (focus rfl); (focus (simp [SV.wf, SV.wfs])); (focus (intro σ h; simp [SV.vals, SV.val, ptP, h]))
      intro y1 y2 m2 q2 ok2 ab2 hg2
      conv => whnf
      refine CallX_m (Join_m x1 x2 y1 y2 m1 m2 q1 q2 ok1 ok2 (by rw [ab2]; exact hg2)) [2, 3, 4, 5, 6, 7] rfl ⟨⟨rfl, rfl, by simp [SV.wf, SV.wfs]⟩, fun _ _ h => h, fun _ _ h => h, ⟨rfl, rfl, by simp [SV.wf, SV.wfs]⟩, fun _ _ h => h, fun _ _ h => h, trivial⟩ (by decide) (fun _ _ _ _ => trivial) ?_
      rintro ⟨⟨m3, q3⟩, ok3, ab3⟩
      dsimp only at ok3 ⊢
      have ab3 : absM (m3, q3) = joinA (S'.ats k) (O.ats k) := ab3.trans (by rw [ab1, ab2])
      conv => whnf
      refine ⟨y1, y2, m2, q2, rfl, rfl, rfl, rfl, ok2, by rw [ab2]; exact hg2, ?_⟩
      rw [ab2, updN_self]
      conv => whnf
      refine ⟨x1, x2, m3, q3, rfl, rfl, rfl, rfl, ok3, by rw [ab3]; exact goodA_joinA hg1 hg2, ?_⟩
      rw [ab3]
      (conv=>whnf);repeat' (first|((with_reducible refine isW ?_;first|refine xwr_ok (by omega) (by omega) ?_|refine xwr_raw ?_);conv=>whnf)|with_reducible exact rfl|((with_reducible first|refine xif_kt (by assumption) ?_|refine xif_kf (by assumption) ?_);conv=>whnf)|((with_reducible refine xif_s ?_ ?_)<;>(intro hb;(try simp (disch:=omega) only [hbS] at hb)<;>conv=>whnf)))
      all_goals try (exfalso; omega)
      refine ⟨⟨k + 1, _, hnx⟩, [0, 1], by (try dsimp only); omega, ?_, by (try dsimp only); omega⟩
      ((refine ⟨?_, ?_, ?_, ?_⟩) <;> (repeat' ((conv => whnf); apply And.intro)) <;> (try (first | exact trivial | decide)))
      all_goals first | rfl | exact fun _ _ h => h | (simp [SV.wf, SV.wfs]; done) | trace_state
    · obtain rfl : k = 8 := by omega
      (conv=>whnf);repeat' (first|((with_reducible refine isC ?_);first|(((with_reducible refine isF 35 ?_);((refine CallX_m k2 [1] rfl ⟨fun _ _ h => h, trivial⟩ (by decide) (fun _ _ _ _ => trivial) ?_; intro q2; obtain ⟨A2, d2⟩ := q2)));conv=>whnf))|((with_reducible refine isW ?_;first|refine xwr_ok (by omega) (by omega) ?_|refine xwr_raw ?_);conv=>whnf)|with_reducible exact rfl|((with_reducible first|refine xif_kt (by assumption) ?_|refine xif_kf (by assumption) ?_);conv=>whnf)|((with_reducible refine xif_s ?_ ?_)<;>(intro hb;(try simp (disch:=omega) only [hbS] at hb)<;>conv=>whnf)))
      all_goals try (exfalso; omega)
      refine LoopX_inv tabOk (α := (t : Nat) × (Nat → Nat → Nat) × {S2 : SnT // S2 = (L.take t).foldl takeS S'}) (fun s => s.1 ≤ L.length) (fun s => [(0, pR b1), (33, .v (.slice A2 L.length d2)), (34, I L.length), (35, I s.1)])
        (fun s => [stO b1 { c1 with rp := s.2.1 } s.2.2.1 allT, stO b2 c2 O allT, .row 39 5 A2 L.length d2 (L.map encR)]) (fun s => L.length - s.1) ⟨0, c1.rp, S', rfl⟩ [0, 1, 2] (Nat.zero_le _) ?_ ?_
      · ((refine ⟨?_, ?_, ?_, ?_⟩) <;> (repeat' ((conv => whnf); apply And.intro)) <;> (try (first | exact trivial | decide)))
        all_goals first | rfl | exact fun _ _ h => h | (simp [SV.wf, SV.wfs]; done) | trace_state
      · rintro ⟨t, rp, S2, hS2⟩ ht
        dsimp only at ht hS2 ⊢
        by_cases hlt : t < L.length
        · have hnx : takeS S2 (L.getD t r0) = (L.take (t + 1)).foldl takeS S' := by
            rw [take_getR hlt, List.foldl_append, hS2]
            rfl
          have kt := takeUp_m b1 { c1 with rp := rp } S2 (L.getD t r0) (hao t hlt)
          (conv=>whnf);repeat' (first|((with_reducible refine isC ?_);first|(((with_reducible refine isF 76 ?_);((refine CallX_m kt [0] rfl ⟨fun _ _ h => h, trivial⟩ (by decide) (fun _ _ _ _ => trivial) ?_; intro rp2)));conv=>whnf))|((with_reducible refine isV ?_);first|((first|refine ValX_index tabOk rfl (ArgSl.row 2 rfl) rfl ?_ ?_ ?_|(with_reducible refine nat_idx ?_);refine ValX_loadEn _ _ (r0) tabOk rfl rfl rfl rfl (ArgSl.row 2 rfl) ?_ ?_ ?_|refine ValX_loadE _ _ (r0) tabOk rfl rfl rfl rfl (ArgSl.row 2 rfl) ?_ ?_ ?_)<;>first|rfl|omega|with_reducible refine isP ?_|conv=>whnf))|((with_reducible refine isW ?_;first|refine xwr_ok (by omega) (by omega) ?_|refine xwr_raw ?_);conv=>whnf)|with_reducible exact rfl|((with_reducible first|refine xif_kt (by assumption) ?_|refine xif_kf (by assumption) ?_);conv=>whnf)|((with_reducible refine xif_s ?_ ?_)<;>(intro hb;(try simp (disch:=omega) only [hbS] at hb)<;>conv=>whnf)))
          all_goals try (exfalso; omega)
          refine ⟨⟨t + 1, rp2, _, hnx⟩, [0, 1, 2], by (try dsimp only); omega, ?_, by (try dsimp only); omega⟩
          ((refine ⟨?_, ?_, ?_, ?_⟩) <;> (repeat' ((conv => whnf); apply And.intro)) <;> (try (first | exact trivial | decide)))
          all_goals first | rfl | exact fun _ _ h => h | (simp [SV.wf, SV.wfs]; done) | trace_state
        · obtain rfl : t = L.length := by omega
          have hS3 : S2 = hearS S O := by rw [hS2, List.take_length, hS', hfin]
          (conv=>whnf);repeat' (first|((with_reducible refine isW ?_;first|refine xwr_ok (by omega) (by omega) ?_|refine xwr_raw ?_);conv=>whnf)|with_reducible exact rfl|((with_reducible first|refine xif_kt (by assumption) ?_|refine xif_kf (by assumption) ?_);conv=>whnf)|((with_reducible refine xif_s ?_ ?_)<;>(intro hb;(try simp (disch:=omega) only [hbS] at hb)<;>conv=>whnf)))
          all_goals try (exfalso; omega)
          exact Fin_m rp [0, 1] ⟨rfl, by simp [SV.wf, SV.wfs]⟩ ⟨fun _ _ h => stO_cast hS3 rfl h, fun _ _ h => h, trivial⟩ (by decide) rfl
theorem mxO_self {α : Type} (key : α → List Int) (v : α) : mxO key (some v) v = some v := by
  unfold mxO
  dsimp only
  rw [lexC_self, if_neg (by omega)]
theorem take_own {S : SnT} (h : wfS S) {L : List RelT} (hL : L = pairs S) {t : Nat} (ht : t < L.length) : takeS S (L.getD t r0) = S := by
  subst hL
  have hm : (pairs S).getD t r0 ∈ pairs S := by simp [ht]
  unfold pairs pairsN at hm
  obtain ⟨n, _, hn⟩ := List.mem_filterMap.1 hm
  obtain ⟨f, hf, he, _⟩ := prs_ok h hn
  unfold pairs pairsN
  rw [he, (take_norm h hf).1]
  unfold setR
  rw [hf, mxO_self, ← hf, upd2_self]
set_option maxHeartbeats 8000000 in
theorem hearSelf_m (b1 : Nat) (c1 : CoT) (S : SnT) (hS : wfS S) : CallM Tryz.prog 33 [pR b1, pR b1] (fun _ _ => True) [stO b1 c1 S allT] (fun _ : Nat → Nat → Nat => I 0) (fun rp => [stO b1 { c1 with rp := rp } S allT]) := by
  have k2 := relations_m b1 c1 S allT
  have hao := fun t ht => addOk_pair hS (L := pairs S) rfl (t := t) ht
  have hown := fun t ht => take_own hS (L := pairs S) rfl (t := t) ht
  have hl := pairsN_len S 64
  have e1 : pairsN S 64 = pairs S := rfl
  rw [e1] at hl
  clear e1
  generalize pairs S = L at *
  refine CallM.of (m := 1) Tryz.func33 rfl tabOk rfl rfl rfl rfl (by simp [SV.wfs, SV.wf]) fun w M π _ => ?_
  (conv=>whnf);repeat' (first|((with_reducible refine isV ?_);first|(refine ValX_stPts 0 tabOk rfl rfl rfl rfl rfl ?_; conv => whnf))|((with_reducible refine isW ?_;first|refine xwr_ok (by omega) (by omega) ?_|refine xwr_raw ?_);conv=>whnf)|with_reducible exact rfl|((with_reducible first|refine xif_kt (by assumption) ?_|refine xif_kf (by assumption) ?_);conv=>whnf)|((with_reducible refine xif_s ?_ ?_)<;>(intro hb;(try simp (disch:=omega) only [hbS] at hb)<;>conv=>whnf)))
  refine LoopX_inv tabOk (α := Nat) (fun s => s ≤ 8) (fun s => [(0, pR b1), (1, pR b1), (18, .a ((ptsL c1).map .v)), (19, I s)]) (fun s => [stO b1 c1 S allT]) (fun s => 8 - s) 0 [0] (Nat.zero_le _) ?_ ?_
  · ((refine ⟨?_, ?_, ?_, ?_⟩) <;> (repeat' ((conv => whnf); apply And.intro)) <;> (try (first | exact trivial | decide)))
    all_goals first | rfl | exact fun _ _ h => h | (simp [SV.wf, SV.wfs]; done) | trace_state
  · intro k hk
    by_cases hlt : k < 8
    · (conv=>whnf);repeat' (first|((with_reducible refine isV ?_);first|(refine ValX_idxA (sz := 1) (vs := ptsL c1) (.v (.pointer (ptP c1 k))) tabOk rfl Tryz.underlying94 rfl rfl (by omega) (by omega) rfl (by (try dsimp only); rw [Int.toNat_natCast, pts_at c1 hlt]; rfl) ?_; conv => whnf)|((refine ValX_arr (n := 8) (sz := 1) tabOk rfl Tryz.underlying94 rfl rfl ?_ ?_ ?_) <;> first | omega | (conv => whnf))|((refine ValX_arr (n := 8) (sz := 8) tabOk rfl Tryz.underlying97 rfl rfl ?_ ?_ ?_) <;> first | omega | (conv => whnf))|((refine ValX_arr (n := 8) (sz := 1) tabOk rfl Tryz.underlying96 rfl rfl ?_ ?_ ?_) <;> first | omega | (conv => whnf))|(refine ValX_stPt 0 k _ tabOk rfl rfl rfl rfl hlt rfl ?_; conv => whnf))|((with_reducible refine isW ?_;first|refine xwr_ok (by omega) (by omega) ?_|refine xwr_raw ?_);conv=>whnf)|with_reducible exact rfl|((with_reducible first|refine xif_kt (by assumption) ?_|refine xif_kf (by assumption) ?_);conv=>whnf)|((with_reducible refine xif_s ?_ ?_)<;>(intro hb;(try simp (disch:=omega) only [hbS] at hb)<;>conv=>whnf)))
      all_goals try (exfalso; omega)
      (refine CallX_open (b := b1) (c := c1) (S := S) [.p 1 0, .p 1 0] 0 k 1 ?_ ?_ ?_ hlt (allT_at hlt) ?_ ?_ ?_); (focus (exact Entr.of Tryz.func77 rfl rfl)); (focus rfl); (focus rfl); (focus (simp [SV.wf, SV.wfs])); (focus (intro σ h; simp [SV.vals, SV.val, ptP, h]))
      intro x1 x2 m1 q1 ok1 ab1 hg1
      conv => whnf
      refine CallX_m (JoinSelf_m x1 x2 m1 q1 ok1 (by rw [ab1]; exact hg1)) [1, 2, 3] rfl ⟨⟨rfl, rfl, by simp [SV.wf, SV.wfs]⟩, fun _ _ h => h, fun _ _ h => h, trivial⟩ (by decide) (fun _ _ _ _ => trivial) ?_
      rintro ⟨q3, hq3⟩
      have ab3 : absM (m1, q3) = S.ats k := by
        rw [← ab1]
        unfold absM
        dsimp only
        rw [hq3]
      conv => whnf
      refine ⟨x1, x2, m1, q3, rfl, rfl, rfl, rfl, ok1, by rw [ab3]; exact hg1, ?_⟩
      rw [ab3, updN_self]
      (conv=>whnf);repeat' (first|((with_reducible refine isW ?_;first|refine xwr_ok (by omega) (by omega) ?_|refine xwr_raw ?_);conv=>whnf)|with_reducible exact rfl|((with_reducible first|refine xif_kt (by assumption) ?_|refine xif_kf (by assumption) ?_);conv=>whnf)|((with_reducible refine xif_s ?_ ?_)<;>(intro hb;(try simp (disch:=omega) only [hbS] at hb)<;>conv=>whnf)))
      all_goals try (exfalso; omega)
      refine ⟨k + 1, [0], by (try dsimp only); omega, ?_, by (try dsimp only); omega⟩
      ((refine ⟨?_, ?_, ?_, ?_⟩) <;> (repeat' ((conv => whnf); apply And.intro)) <;> (try (first | exact trivial | decide)))
      all_goals first | rfl | exact fun _ _ h => h | (simp [SV.wf, SV.wfs]; done) | trace_state
    · obtain rfl : k = 8 := by omega
      (conv=>whnf);repeat' (first|((with_reducible refine isC ?_);first|(((with_reducible refine isF 35 ?_);((refine CallX_m k2 [0] rfl ⟨fun _ _ h => h, trivial⟩ (by decide) (fun _ _ _ _ => trivial) ?_; intro q2; obtain ⟨A2, d2⟩ := q2)));conv=>whnf))|((with_reducible refine isW ?_;first|refine xwr_ok (by omega) (by omega) ?_|refine xwr_raw ?_);conv=>whnf)|with_reducible exact rfl|((with_reducible first|refine xif_kt (by assumption) ?_|refine xif_kf (by assumption) ?_);conv=>whnf)|((with_reducible refine xif_s ?_ ?_)<;>(intro hb;(try simp (disch:=omega) only [hbS] at hb)<;>conv=>whnf)))
      all_goals try (exfalso; omega)
      refine LoopX_inv tabOk (α := Nat × (Nat → Nat → Nat)) (fun s => s.1 ≤ L.length) (fun s => [(0, pR b1), (33, .v (.slice A2 L.length d2)), (34, I L.length), (35, I s.1)])
        (fun s => [stO b1 { c1 with rp := s.2 } S allT, .row 39 5 A2 L.length d2 (L.map encR)]) (fun s => L.length - s.1) (0, c1.rp) [0, 1] (Nat.zero_le _) ?_ ?_
      · ((refine ⟨?_, ?_, ?_, ?_⟩) <;> (repeat' ((conv => whnf); apply And.intro)) <;> (try (first | exact trivial | decide)))
        all_goals first | rfl | exact fun _ _ h => h | (simp [SV.wf, SV.wfs]; done) | trace_state
      · rintro ⟨t, rp⟩ ht
        dsimp only at ht ⊢
        by_cases hlt : t < L.length
        · have kt := takeUp_m b1 { c1 with rp := rp } S (L.getD t r0) (hao t hlt)
          rw [hown t hlt] at kt
          (conv=>whnf);repeat' (first|((with_reducible refine isC ?_);first|(((with_reducible refine isF 76 ?_);((refine CallX_m kt [0] rfl ⟨fun _ _ h => h, trivial⟩ (by decide) (fun _ _ _ _ => trivial) ?_; intro rp2)));conv=>whnf))|((with_reducible refine isV ?_);first|((first|refine ValX_index tabOk rfl (ArgSl.row 1 rfl) rfl ?_ ?_ ?_|(with_reducible refine nat_idx ?_);refine ValX_loadEn _ _ (r0) tabOk rfl rfl rfl rfl (ArgSl.row 1 rfl) ?_ ?_ ?_|refine ValX_loadE _ _ (r0) tabOk rfl rfl rfl rfl (ArgSl.row 1 rfl) ?_ ?_ ?_)<;>first|rfl|omega|with_reducible refine isP ?_|conv=>whnf))|((with_reducible refine isW ?_;first|refine xwr_ok (by omega) (by omega) ?_|refine xwr_raw ?_);conv=>whnf)|with_reducible exact rfl|((with_reducible first|refine xif_kt (by assumption) ?_|refine xif_kf (by assumption) ?_);conv=>whnf)|((with_reducible refine xif_s ?_ ?_)<;>(intro hb;(try simp (disch:=omega) only [hbS] at hb)<;>conv=>whnf)))
          all_goals try (exfalso; omega)
          refine ⟨(t + 1, rp2), [0, 1], by (try dsimp only); omega, ?_, by (try dsimp only); omega⟩
          ((refine ⟨?_, ?_, ?_, ?_⟩) <;> (repeat' ((conv => whnf); apply And.intro)) <;> (try (first | exact trivial | decide)))
          all_goals first | rfl | exact fun _ _ h => h | (simp [SV.wf, SV.wfs]; done) | trace_state
        · obtain rfl : t = L.length := by omega
          (conv=>whnf);repeat' (first|((with_reducible refine isW ?_;first|refine xwr_ok (by omega) (by omega) ?_|refine xwr_raw ?_);conv=>whnf)|with_reducible exact rfl|((with_reducible first|refine xif_kt (by assumption) ?_|refine xif_kf (by assumption) ?_);conv=>whnf)|((with_reducible refine xif_s ?_ ?_)<;>(intro hb;(try simp (disch:=omega) only [hbS] at hb)<;>conv=>whnf)))
          all_goals try (exfalso; omega)
          exact Fin_m rp [0] ⟨rfl, by simp [SV.wf, SV.wfs]⟩ ⟨fun _ _ h => h, trivial⟩ (by decide) rfl
end Go.Proofs.YtlnplelandimeaaGreat.En
end
section
namespace Go.Proofs.YtlnplelandimeaaGreat.En
open Go.RowKit
set_option maxRecDepth 100000
def framesL (L : List RelT) : List RelT := L.foldl (fun rs x => (Go.Proofs.YtlnplelandimeaaGreat.addF rs x).2) []
def framesS (S : SnT) : List RelT := framesL (pairs S)
theorem framesL_succ {L : List RelT} {t : Nat} (ht : t < L.length) : framesL (L.take (t + 1)) = (Go.Proofs.YtlnplelandimeaaGreat.addF (framesL (L.take t)) (L.getD t r0)).2 := by
  unfold framesL
  rw [take_getR ht, List.foldl_append]
  rfl
theorem addF_len (rs : List RelT) (x : RelT) : (Go.Proofs.YtlnplelandimeaaGreat.addF rs x).2.length ≤ rs.length + 1 := by
  unfold Go.Proofs.YtlnplelandimeaaGreat.addF
  split
  · split
    · simp
    · split <;> simp
  · simp
theorem framesL_len (L : List RelT) : ∀ t, t ≤ L.length → (framesL (L.take t)).length ≤ t
  | 0, _ => by simp [framesL]
  | t + 1, h => by
    rw [framesL_succ (by omega)]
    exact Nat.le_trans (addF_len _ _) (by have := framesL_len L t (by omega); omega)
set_option maxHeartbeats 4000000 in
theorem frames_m (b : Nat) (c : CoT) (S : SnT) : CallM Tryz.prog 21 [pR b] (fun _ _ => True) [stO b c S allT] (fun rb : Nat => pR rb) (fun rb => [stO b c S allT, relO rb (framesS S)]) := by
  have k2 := relations_m b c S allT
  have hl := pairsN_len S 64
  have e1 : pairsN S 64 = pairs S := rfl
  have e2 : framesS S = framesL (pairs S) := rfl
  rw [e1] at hl
  rw [e2]
  clear e1 e2
  generalize pairs S = L at *
  have hfl := framesL_len L
  refine CallM.of (m := 1) Tryz.func21 rfl tabOk rfl rfl rfl rfl (by simp [SV.wfs, SV.wf]) fun w M π _ => ?_
  (conv=>whnf);repeat' (first|((with_reducible refine isC ?_);first|((first|(with_reducible refine isF 57 ?_);(refine CallX_New rfl ?_; intro rb)|(with_reducible refine isF 35 ?_);((refine CallX_m k2 [0] rfl ⟨fun _ _ h => h, trivial⟩ (by decide) (fun _ _ _ _ => trivial) ?_; intro q2; obtain ⟨A2, d2⟩ := q2)));conv=>whnf))|((with_reducible refine isW ?_;first|refine xwr_ok (by omega) (by omega) ?_|refine xwr_raw ?_);conv=>whnf)|with_reducible exact rfl|((with_reducible first|refine xif_kt (by assumption) ?_|refine xif_kf (by assumption) ?_);conv=>whnf)|((with_reducible refine xif_s ?_ ?_)<;>(intro hb;(try simp (disch:=omega) only [hbS] at hb)<;>conv=>whnf)))
  refine LoopX_inv tabOk (α := (t : Nat) × {rs : List RelT // rs = framesL (L.take t)}) (fun s => s.1 ≤ L.length) (fun s => [(3, pR rb), (10, .v (.slice A2 L.length d2)), (11, I L.length), (12, I s.1)])
    (fun s => [stO b c S allT, relO rb s.2.1, .row 39 5 A2 L.length d2 (L.map encR)]) (fun s => L.length - s.1) ⟨0, [], rfl⟩ [0, 1, 2] (Nat.zero_le _) ?_ ?_
  · ((refine ⟨?_, ?_, ?_, ?_⟩) <;> (repeat' ((conv => whnf); apply And.intro)) <;> (try (first | exact trivial | decide)))
    all_goals first | rfl | exact fun _ _ h => h | (simp [SV.wf, SV.wfs]; done) | trace_state
  · rintro ⟨t, rs, hrs⟩ ht
    dsimp only at ht hrs ⊢
    by_cases hlt : t < L.length
    · have hnx : (Go.Proofs.YtlnplelandimeaaGreat.addF rs (L.getD t r0)).2 = framesL (L.take (t + 1)) := by rw [framesL_succ hlt, hrs]
      have hle : rs.length ≤ 99 := by
        have := hfl t (by omega)
        rw [hrs]
        omega
      generalize hx : L.getD t r0 = x at *
      obtain ⟨a, a2, q, xx, yy⟩ := x
      (conv=>whnf);repeat' (first|((with_reducible refine isC ?_);first|(((with_reducible refine isF 58 ?_);((rw [hx]; refine CallX_Add 1 rfl rfl hle ?_)));conv=>whnf))|((with_reducible refine isV ?_);first|((first|refine ValX_index tabOk rfl (ArgSl.row 2 rfl) rfl ?_ ?_ ?_|(with_reducible refine nat_idx ?_);refine ValX_loadEn _ _ (r0) tabOk rfl rfl rfl rfl (ArgSl.row 2 rfl) ?_ ?_ ?_|refine ValX_loadE _ _ (r0) tabOk rfl rfl rfl rfl (ArgSl.row 2 rfl) ?_ ?_ ?_)<;>first|rfl|omega|with_reducible refine isP ?_|conv=>whnf))|((with_reducible refine isW ?_;first|refine xwr_ok (by omega) (by omega) ?_|refine xwr_raw ?_);conv=>whnf)|with_reducible exact rfl|((with_reducible first|refine xif_kt (by assumption) ?_|refine xif_kf (by assumption) ?_);conv=>whnf)|((with_reducible refine xif_s ?_ ?_)<;>(intro hb;(try simp (disch:=omega) only [hbS] at hb)<;>conv=>whnf)))
      all_goals try (exfalso; omega)
      refine ⟨⟨t + 1, _, hnx⟩, [0, 1, 2], by (try dsimp only); omega, ?_, by (try dsimp only); omega⟩
      ((refine ⟨?_, ?_, ?_, ?_⟩) <;> (repeat' ((conv => whnf); apply And.intro)) <;> (try (first | exact trivial | decide)))
      all_goals first | rfl | exact fun _ _ h => h | (simp [SV.wf, SV.wfs]; done) | trace_state
    · obtain rfl : t = L.length := by omega
      rw [List.take_length] at hrs
      subst hrs
      (conv=>whnf);repeat' (first|((with_reducible refine isW ?_;first|refine xwr_ok (by omega) (by omega) ?_|refine xwr_raw ?_);conv=>whnf)|with_reducible exact rfl|((with_reducible first|refine xif_kt (by assumption) ?_|refine xif_kf (by assumption) ?_);conv=>whnf)|((with_reducible refine xif_s ?_ ?_)<;>(intro hb;(try simp (disch:=omega) only [hbS] at hb)<;>conv=>whnf)))
      all_goals try (exfalso; omega)
      exact Fin_m rb [0, 1] ⟨rfl, by simp [SV.wf, SV.wfs]⟩ ⟨fun _ _ h => h, fun _ _ h => h, trivial⟩ (by decide) rfl
noncomputable def outL (f : Fr) (l : List EntT) : List EntT := @Classical.epsilon (List EntT) ⟨[]⟩ (fun ys => IsOut f l ys)
theorem outL_eq {f : Fr} {l ys : List EntT} (h : IsOut f l ys) : outL f l = ys := by
  have : IsOut f l (outL f l) := @Classical.epsilon_spec (List EntT) (fun ys => IsOut f l ys) ⟨ys, h⟩
  exact this.unique h
theorem IsOut_len {f : Fr} {l ys : List EntT} (h : IsOut f l ys) : ys.length ≤ l.length := by
  unfold IsOut at h
  split at h
  · have := h.1.length_eq
    simp at this
    omega
  · rw [h]; simp
def mapA (a : AtT) : List EntT := mapF a (idsF (hasA a) 64)
noncomputable def viewK (S : SnT) (n : Int) : Nat → List EntT
  | 0 => []
  | k + 1 => match btF (framesS S) n k with
    | some f => (combE 1 (viewK S n k) (outL f (mapA (S.ats k)))).1
    | none => viewK S n k
noncomputable def viewS (S : SnT) (n : Int) : List EntT := viewK S n 8
theorem combE_le (a b : List EntT) : (combE 1 a b).1.length ≤ 1048576 := by
  unfold combE
  split
  · split
    · simp
    · split
      · simp
      · rename_i h
        simpa using h
  · simp
theorem viewK_le (S : SnT) (n : Int) : ∀ k, (viewK S n k).length ≤ 1048576
  | 0 => by simp [viewK]
  | k + 1 => by
    unfold viewK
    split
    · exact combE_le _ _
    · exact viewK_le S n k
theorem framesS_len (S : SnT) : (framesS S).length ≤ 64 := by
  have := framesL_len (pairs S) (pairs S).length (Nat.le_refl _)
  rw [List.take_length] at this
  exact Nat.le_trans this (pairsN_len S 64)
set_option maxHeartbeats 8000000 in
theorem view_m (b : Nat) (c : CoT) (S : SnT) (n : Int) (hn : rbB n = true) : CallM Tryz.prog 18 [pR b, I n] (fun _ _ => True) [stO b c S allT]
    (fun q : Option Addr × Nat => .v (.slice q.1 (viewS S n).length q.2)) (fun q => [stO b c S allT, .row 89 4 q.1 (viewS S n).length q.2 ((viewS S n).map encE)]) := by
  have kr := robot34_x n
  rw [hn] at kr
  have kf := frames_m b c S
  have hfl := framesS_len S
  have hvl := viewK_le S n
  have h0 : viewK S n 0 = [] := rfl
  have hv : viewS S n = viewK S n 8 := rfl
  have hnx : ∀ k, viewK S n (k + 1) = match btF (framesS S) n k with
    | some f => (combE 1 (viewK S n k) (outL f (mapA (S.ats k)))).1
    | none => viewK S n k := fun k => rfl
  rw [hv]
  clear hv
  generalize framesS S = fs at *
  generalize viewK S n = vk at *
  refine CallM.of (m := 1) Tryz.func18 rfl tabOk rfl rfl rfl rfl (by simp [SV.wfs, SV.wf]) fun w M π _ => ?_
  (conv=>whnf);repeat' (first|((with_reducible refine isC ?_);first|((with_reducible refine CallX_pure (kr) ?_)<;>first|omega|with_reducible refine isP ?_|conv=>whnf)|(((with_reducible refine isF 21 ?_);((refine CallX_m kf [0] rfl ⟨fun _ _ h => h, trivial⟩ (by decide) (fun _ _ _ _ => trivial) ?_; intro rb)));conv=>whnf))|((with_reducible refine isV ?_);first|(refine ValX_stPts 0 tabOk rfl rfl rfl rfl rfl ?_; conv => whnf))|((with_reducible refine isW ?_;first|refine xwr_ok (by omega) (by omega) ?_|refine xwr_raw ?_);conv=>whnf)|((first|refine DrawX_s tabOk folOk ?_|refine DrawS_i (by kernel_rfl) ?_|with_reducible refine andX_i ?_ ?_)<;>conv=>whnf)|with_reducible exact rfl|((with_reducible first|refine xif_kt (by assumption) ?_|refine xif_kf (by assumption) ?_);conv=>whnf)|((with_reducible refine xif_s ?_ ?_)<;>(intro hb;(try simp (disch:=omega) only [hbS] at hb)<;>conv=>whnf)))
  refine LoopX_addNil 89 4 ?_
  conv => whnf
  refine LoopX_inv tabOk (α := Nat × Option Addr × Nat) (fun s => s.1 ≤ 8) (fun s => [(1, I n), (5, .v (.slice s.2.1 (vk s.1).length s.2.2)), (6, pR rb), (25, .a ((ptsL c).map .v)), (26, I s.1)])
    (fun s => [stO b c S allT, relO rb fs, .row 89 4 s.2.1 (vk s.1).length s.2.2 ((vk s.1).map encE)]) (fun s => 8 - s.1) (0, none, 0) [0, 1, 2] (by decide) ?_ ?_
  · dsimp only
    rw [h0]
    ((refine ⟨?_, ?_, ?_, ?_⟩) <;> (repeat' ((conv => whnf); apply And.intro)) <;> (try (first | exact trivial | decide)))
    all_goals first | rfl | exact fun _ _ h => h | (simp [SV.wf, SV.wfs]; done) | trace_state
  · rintro ⟨k, A, cc⟩ hk
    dsimp only at hk ⊢
    by_cases hlt : k < 8
    · have hnk := hnx k
      have hvk := hvl k
      have hbt := @CallX_Between
      rcases opt_em (btF fs n k) with hb0 | ⟨f, hf⟩
      · rw [hb0] at hnk
        dsimp only at hnk
        generalize vk k = o at *
        (conv=>whnf);repeat' (first|((with_reducible refine isC ?_);first|(((with_reducible refine isF 22 ?_);((refine CallX_Between 1 rfl rfl (by omega) ?_; rw [hb0])));conv=>whnf))|((with_reducible refine isV ?_);first|(refine ValX_idxA (sz := 1) (vs := ptsL c) (.v (.pointer (ptP c k))) tabOk rfl Tryz.underlying94 rfl rfl (by omega) (by omega) rfl (by (try dsimp only); rw [Int.toNat_natCast, pts_at c hlt]; rfl) ?_; conv => whnf))|((with_reducible refine isW ?_;first|refine xwr_ok (by omega) (by omega) ?_|refine xwr_raw ?_);conv=>whnf)|((first|refine DrawX_s tabOk folOk ?_|refine DrawS_i (by kernel_rfl) ?_|with_reducible refine andX_i ?_ ?_)<;>conv=>whnf)|with_reducible exact rfl|((with_reducible first|refine xif_kt (by assumption) ?_|refine xif_kf (by assumption) ?_);conv=>whnf)|((with_reducible refine xif_s ?_ ?_)<;>(intro hb;(try simp (disch:=omega) only [hbS] at hb)<;>conv=>whnf)))
        all_goals try (exfalso; omega)
        refine ⟨(k + 1, A, cc), [0, 1, 2], by (try dsimp only); omega, ?_, by (try dsimp only); omega⟩
        dsimp only
        rw [hnk]
        ((refine ⟨?_, ?_, ?_, ?_⟩) <;> (repeat' ((conv => whnf); apply And.intro)) <;> (try (first | exact trivial | decide)))
        all_goals first | rfl | exact fun _ _ h => h | (simp [SV.wf, SV.wfs]; done) | trace_state
      · rw [hf] at hnk
        dsimp only at hnk
        generalize vk k = o at *
        (conv=>whnf);repeat' (first|((with_reducible refine isC ?_);first|(((with_reducible refine isF 22 ?_);((refine CallX_Between 1 rfl rfl (by omega) ?_; rw [hf])));conv=>whnf))|((with_reducible refine isV ?_);first|(refine ValX_idxA (sz := 1) (vs := ptsL c) (.v (.pointer (ptP c k))) tabOk rfl Tryz.underlying94 rfl rfl (by omega) (by omega) rfl (by (try dsimp only); rw [Int.toNat_natCast, pts_at c hlt]; rfl) ?_; conv => whnf))|((with_reducible refine isW ?_;first|refine xwr_ok (by omega) (by omega) ?_|refine xwr_raw ?_);conv=>whnf)|((first|refine DrawX_s tabOk folOk ?_|refine DrawS_i (by kernel_rfl) ?_|with_reducible refine andX_i ?_ ?_)<;>conv=>whnf)|with_reducible exact rfl|((with_reducible first|refine xif_kt (by assumption) ?_|refine xif_kf (by assumption) ?_);conv=>whnf)|((with_reducible refine xif_s ?_ ?_)<;>(intro hb;(try simp (disch:=omega) only [hbS] at hb)<;>conv=>whnf)))
        all_goals try (exfalso; omega)
        (refine CallX_open (b := b) (c := c) (S := S) [.p 4 0] 0 k 4 ?_ ?_ ?_ hlt (allT_at hlt) ?_ ?_ ?_); (focus (exact Entr.of Tryz.func53 rfl rfl)); (focus rfl); (focus rfl); (focus (simp [SV.wf, SV.wfs])); (focus (intro σ h; simp [SV.vals, SV.val, ptP, h]))
        intro x1 x2 m1 q1 ok1 ab1 hg1
        have kmap := Map_m x1 x2 m1 q1 ok1 (idsF (hasM m1 q1) 64) rfl
        have hma : mapF (absM (m1, q1)) (idsF (hasM m1 q1) 64) = mapA (S.ats k) := by
          rw [has_sem]
          show mapF (absM (m1, q1)) (idsF (hasA (absM (m1, q1))) 64) = _
          rw [ab1]
          rfl
        have hml := map_len (absM (m1, q1)) (idsF (hasM m1 q1) 64)
        rw [hma] at kmap hml
        generalize mapA (S.ats k) = l at *
        conv => whnf
        refine CallX_m kmap [4, 5, 6] rfl ⟨⟨rfl, rfl, by simp [SV.wf, SV.wfs]⟩, fun _ _ h => h, fun _ _ h => h, trivial⟩ (by decide) (fun _ _ _ _ => trivial) ?_
        rintro ⟨A3, c3⟩
        dsimp only
        conv => whnf
        refine ⟨x1, x2, m1, q1, rfl, rfl, rfl, rfl, ok1, by rw [ab1]; exact hg1, ?_⟩
        rw [ab1, updN_self]
        (conv=>whnf);repeat' (first|((with_reducible refine isC ?_);first|(((with_reducible refine isF 52 ?_);((refine CallX_m (Entries_m f A3 c3 l rfl (by omega)) [] rfl trivial (by decide) (ArgN.row 7 rfl (m := 0) (fun j hj => by omega)) ?_; rintro ⟨⟨A4, c4, ys⟩, hys⟩; dsimp only; dsimp only at hys)));conv=>whnf))|((with_reducible refine isW ?_;first|refine xwr_ok (by omega) (by omega) ?_|refine xwr_raw ?_);conv=>whnf)|((first|refine DrawX_s tabOk folOk ?_|refine DrawS_i (by kernel_rfl) ?_|with_reducible refine andX_i ?_ ?_)<;>conv=>whnf)|with_reducible exact rfl|((with_reducible first|refine xif_kt (by assumption) ?_|refine xif_kf (by assumption) ?_);conv=>whnf)|((with_reducible refine xif_s ?_ ?_)<;>(intro hb;(try simp (disch:=omega) only [hbS] at hb)<;>conv=>whnf)))
        all_goals try (exfalso; omega)
        have hyl := IsOut_len hys
        rw [outL_eq hys] at hnk
        (conv=>whnf);repeat' (first|((with_reducible refine isC ?_);first|(((with_reducible refine isF 54 ?_);((refine CallX_m (Add_m A A4 cc c4 o ys rfl rfl (by unfold maxLen; omega) (by unfold maxLen; omega)) [] rfl trivial (by decide) (fun σ fp w hm => ⟨ArgN.row 2 rfl (m := 0) (fun j hj => by omega) σ fp w hm, ArgN.row 8 rfl (m := 0) (fun j hj => by omega) σ fp w hm⟩) ?_; rintro ⟨A5, c5⟩; dsimp only)));conv=>whnf))|((with_reducible refine isW ?_;first|refine xwr_ok (by omega) (by omega) ?_|refine xwr_raw ?_);conv=>whnf)|((first|refine DrawX_s tabOk folOk ?_|refine DrawS_i (by kernel_rfl) ?_|with_reducible refine andX_i ?_ ?_)<;>conv=>whnf)|with_reducible exact rfl|((with_reducible first|refine xif_kt (by assumption) ?_|refine xif_kf (by assumption) ?_);conv=>whnf)|((with_reducible refine xif_s ?_ ?_)<;>(intro hb;(try simp (disch:=omega) only [hbS] at hb)<;>conv=>whnf)))
        all_goals try (exfalso; omega)
        refine ⟨(k + 1, A5, c5), [0, 1, 9], by (try dsimp only); omega, ?_, by (try dsimp only); omega⟩
        dsimp only
        rw [hnk]
        ((refine ⟨?_, ?_, ?_, ?_⟩) <;> (repeat' ((conv => whnf); apply And.intro)) <;> (try (first | exact trivial | decide)))
        all_goals first | rfl | exact fun _ _ h => h | (simp [SV.wf, SV.wfs]; done) | trace_state
    · obtain rfl : k = 8 := by omega
      (conv=>whnf);repeat' (first|((with_reducible refine isW ?_;first|refine xwr_ok (by omega) (by omega) ?_|refine xwr_raw ?_);conv=>whnf)|((first|refine DrawX_s tabOk folOk ?_|refine DrawS_i (by kernel_rfl) ?_|with_reducible refine andX_i ?_ ?_)<;>conv=>whnf)|with_reducible exact rfl|((with_reducible first|refine xif_kt (by assumption) ?_|refine xif_kf (by assumption) ?_);conv=>whnf)|((with_reducible refine xif_s ?_ ?_)<;>(intro hb;(try simp (disch:=omega) only [hbS] at hb)<;>conv=>whnf)))
      all_goals try (exfalso; omega)
      exact Fin_m (A, cc) [0, 2] ⟨rfl, by simp [SV.wf, SV.wfs]⟩ ⟨fun _ _ h => h, ⟨rfl, rfl, rfl, rfl, rfl, rfl⟩, trivial⟩ (by decide) rfl
theorem map34_m (b : Nat) (c : CoT) (S : SnT) (n : Int) (hme : S.me = n) (hn : rbB n = true) : CallM Tryz.prog 20 [pR b] (fun _ _ => True) [stO b c S allT]
    (fun q : Option Addr × Nat => .v (.slice q.1 (viewS S n).length q.2)) (fun q => [stO b c S allT, .row 89 4 q.1 (viewS S n).length q.2 ((viewS S n).map encE)]) := by
  have kv := view_m b c S n hn
  generalize viewS S n = V at *
  refine CallM.of (m := 1) Tryz.func20 rfl tabOk rfl rfl rfl rfl (by simp [SV.wfs, SV.wf]) fun w M π _ => ?_
  (conv=>whnf);repeat' (first|((with_reducible refine isC ?_);first|(((with_reducible refine isF 18 ?_);((refine CallX_m kv [0] rfl ⟨fun _ _ h => h, trivial⟩ (by decide) (fun _ _ _ _ => trivial) ?_; rintro ⟨A, cc⟩; dsimp only)));conv=>whnf))|((with_reducible refine isV ?_);first|(refine ValX_stMe 0 n tabOk rfl rfl rfl rfl hme ?_; conv => whnf))|with_reducible exact rfl|((with_reducible first|refine xif_kt (by assumption) ?_|refine xif_kf (by assumption) ?_);conv=>whnf)|((with_reducible refine xif_s ?_ ?_)<;>(intro hb;(try simp (disch:=omega) only [hbS] at hb)<;>conv=>whnf)))
  exact Fin_m (A, cc) [0, 1] ⟨rfl, by simp [SV.wf, SV.wfs]⟩ ⟨fun _ _ h => h, ⟨rfl, rfl, rfl, rfl, rfl, rfl⟩, trivial⟩ (by decide) rfl
end Go.Proofs.YtlnplelandimeaaGreat.En
end
