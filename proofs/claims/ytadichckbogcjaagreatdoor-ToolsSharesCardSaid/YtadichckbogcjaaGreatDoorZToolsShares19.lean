import Derived.Test.YtadichckbogcjaaGreatDoorZToolsShares17
import Derived.Test.YtadichckbogcjaaGreatDoorZToolsShares10
set_option linter.all false
section
namespace Go.Proofs.YtadichckbogcjaaGreatDoor.En
open Go.RowKit
set_option maxRecDepth 100000
theorem ContainsFuncE_w (g : Nat) (p : EntT → Bool) (hg : ∀ e : EntT, PureX Tryz.prog g [.a [I e.1, I e.2.1, I e.2.2.1, I e.2.2.2]] (B (p e))) (A : Option Addr) (c : Nat) (l : List EntT) {n : Nat} (hl : l.length = n) (hn : n ≤ 1000000000) :
    CallW Tryz.prog 123 [.v (.slice A n c), .v (.func (.func g) #[] #[])] (fun w => ArgSl w A n 4 (l.map encE)) (B (l.any p)) := by
  refine CallW.of Tryz.func123 rfl tabOk rfl rfl rfl (by simp [SV.wfs, SV.wf]) (by simp [SV.wfs, SV.wf]) fun w hpre => ?_
  (conv=>whnf);repeat' (first|((with_reducible refine isC ?_);first|(((with_reducible refine isF 141 ?_);(refine CallX_w (IndexFuncE_w g p hg A c l hl hn) (hpre.mem (by decide) rfl) ?_));conv=>whnf))|with_reducible exact rfl|((with_reducible first|refine xif_kt (by assumption) ?_|refine xif_kf (by assumption) ?_);conv=>whnf)|((with_reducible refine xif_s ?_ ?_)<;>(intro hb;(try simp (disch:=omega) only [hbS] at hb)<;>conv=>whnf)))
  refine Fin_pure rfl (B_eq ?_) trivial
  exact idxF_ge _ _
theorem comb1_x (e : EntT) : PureX Tryz.prog 124 [.a [I e.1, I e.2.1, I e.2.2.1, I e.2.2.2]] (B (!countB e)) := by
  refine PureX.of Tryz.func124 rfl tabOk rfl rfl rfl (by simp [SV.wfs, SV.wf]) (by simp [SV.wfs, SV.wf]) fun w => ?_
  (conv=>whnf);repeat' (first|((with_reducible refine isC ?_);first|((with_reducible refine CallX_pure (PureD.pure (counted_d e)) ?_)<;>first|omega|with_reducible refine isP ?_|conv=>whnf))|with_reducible exact rfl|((with_reducible first|refine xif_kt (by assumption) ?_|refine xif_kf (by assumption) ?_);conv=>whnf)|((with_reducible refine xif_s ?_ ?_)<;>(intro hb;(try simp (disch:=omega) only [hbS] at hb)<;>conv=>whnf)))
  exact Fin_pure rfl rfl trivial
def addE (L : List EntT) (e : EntT) : List EntT := addT L e.cell e.2.2.1 e.2.2.2
def adF (f : Int) (L : List EntT) (e : EntT) : List EntT := addT L e.cell (f * e.2.2.1) (f * e.2.2.2)
def combL (f : Int) (a b : List EntT) : List EntT := b.foldl (adF f) (a.foldl addE [])
def combE (f : Int) (a b : List EntT) : List EntT × Int :=
  if vE a && vE b then
    if (lstF (combL f a b)).any fun e => !countB e then ([], 2)
    else if (lstF (combL f a b)).length > 1048576 then ([], 6) else (lstF (combL f a b), 0)
  else ([], 1)
structure OkC (k : Nat) (L : List EntT) : Prop where
  ne : neT L
  bd : ∀ e ∈ L, -(k * 1099511627776 : Int) ≤ e.2.2.1 ∧ e.2.2.1 ≤ k * 1099511627776 ∧ -(k * 1099511627776 : Int) ≤ e.2.2.2 ∧ e.2.2.2 ≤ k * 1099511627776
  len : L.length ≤ k
theorem OkC.nil : OkC 0 [] := ⟨by simp [neT], by simp, by simp⟩
theorem OkC.get {k : Nat} {L : List EntT} (h : OkC k L) (c : CellT) : -(k * 1099511627776 : Int) ≤ (getT L c).2.2.1 ∧ (getT L c).2.2.1 ≤ k * 1099511627776 ∧ -(k * 1099511627776 : Int) ≤ (getT L c).2.2.2 ∧ (getT L c).2.2.2 ≤ k * 1099511627776 := by
  rcases getT_mem (L := L) (c := c) with ⟨h1, _⟩ | ⟨h1, _⟩
  · exact h.bd _ h1
  · rw [h1]
    simp only [e0]
    omega
theorem OkC.add {k : Nat} {L : List EntT} (h : OkC k L) (c : CellT) (a p : Int) (ha : -1099511627776 ≤ a ∧ a ≤ 1099511627776) (hp : -1099511627776 ≤ p ∧ p ≤ 1099511627776) : OkC (k + 1) (addT L c a p) := by
  refine ⟨addT_ne h.ne c a p, fun e he => ?_, Nat.le_trans (setT_len _ _) (by have := h.len; omega)⟩
  have h1 := h.get c
  rcases mem_setT he with h2 | rfl
  · have := h.bd e h2
    omega
  · dsimp only
    omega
theorem ent_bd {l : List EntT} (h : vE l = true) {i : Nat} (hi : i < l.length) : (-1099511627776 ≤ (l.getD i e0).2.2.1 ∧ (l.getD i e0).2.2.1 ≤ 1099511627776) ∧ (-1099511627776 ≤ (l.getD i e0).2.2.2 ∧ (l.getD i e0).2.2.2 ≤ 1099511627776) := by
  have h1 := vE_at h hi
  simp only [okAt, goodB, countB, szB, Bool.and_eq_true, decide_eq_true_eq] at h1
  omega
theorem vE_length {l : List EntT} (h : vE l = true) : l.length ≤ 1048576 := by
  by_cases h' : l.length ≤ 1048576
  · exact h'
  · rw [vE_long h'] at h
    cases h
theorem comb_ok1 {a : List EntT} (ha : vE a = true) : ∀ j, j ≤ a.length → OkC j ((a.take j).foldl addE [])
  | 0, _ => by simpa using OkC.nil
  | j + 1, hj => by
    rw [fold_take (d := e0) _ _ (by omega)]
    obtain ⟨h1, h2⟩ := ent_bd ha (i := j) (by omega)
    exact (comb_ok1 ha j (by omega)).add _ _ _ h1 h2
theorem mul_f {f x : Int} (hf : f = 1 ∨ f = -1) (hx : -1099511627776 ≤ x ∧ x ≤ 1099511627776) : -1099511627776 ≤ f * x ∧ f * x ≤ 1099511627776 := by
  rcases hf with rfl | rfl <;> omega
theorem comb_ok2 {f : Int} (hf : f = 1 ∨ f = -1) {b L : List EntT} {k : Nat} (hb : vE b = true) (hL : OkC k L) : ∀ j, j ≤ b.length → OkC (k + j) ((b.take j).foldl (adF f) L)
  | 0, _ => by simpa using hL
  | j + 1, hj => by
    rw [fold_take (d := e0) _ _ (by omega)]
    obtain ⟨h1, h2⟩ := ent_bd hb (i := j) (by omega)
    exact (comb_ok2 hf hb hL j (by omega)).add _ _ _ (mul_f hf h1) (mul_f hf h2)
theorem OkC.room {k : Nat} {L : List EntT} (h : OkC k L) (hk : k ≤ 2097152) (c : CellT) {a p : Int} (ha : -1099511627776 ≤ a ∧ a ≤ 1099511627776) (hp : -1099511627776 ≤ p ∧ p ≤ 1099511627776) :
    (-4611686018427387904 ≤ (getT L c).2.2.1 + a ∧ (getT L c).2.2.1 + a ≤ 4611686018427387904) ∧ (-4611686018427387904 ≤ (getT L c).2.2.2 + p ∧ (getT L c).2.2.2 + p ≤ 4611686018427387904) := by
  have := h.get c
  omega
set_option maxHeartbeats 4000000 in
theorem combine_m (f : Int) (hf : f = 1 ∨ f = -1) (A1 A2 : Option Addr) (c1 c2 : Nat) (a b : List EntT) {n m : Nat} (ha : a.length = n) (hb0 : b.length = m) (hn : n ≤ maxLen) (hm : m ≤ maxLen) :
    CallM Tryz.prog 87 [.v (.slice A1 n c1), .v (.slice A2 m c2), I f] (fun w M => ArgN w M A1 n 4 (a.map encE) ∧ ArgN w M A2 m 4 (b.map encE)) []
      (fun q : Option Addr × Nat => .t [.v (.slice q.1 (combE f a b).1.length q.2), I (combE f a b).2]) (fun q => [.row 34 4 q.1 (combE f a b).1.length q.2 ((combE f a b).1.map encE)]) := by
  have hn' := hn
  have hm' := hm
  unfold maxLen at hn' hm'
  refine CallM.of (m := 0) Tryz.func87 rfl tabOk rfl rfl rfl rfl (by simp [SV.wfs, SV.wf]) fun w M π hpre => ?_
  obtain ⟨hp1, hp2⟩ := hpre
  cases hva : vE a with
  | false =>
    have e : combE f a b = ([], 1) := by unfold combE; rw [hva]; rfl
    rw [e]
    (conv=>whnf);repeat' (first|((with_reducible refine isC ?_);first|(((with_reducible refine isF 46 ?_);(refine CallX_v (Valid_v A1 c1 a ha hn) (ArgN.mem hp1 (by decide)) ?_; rw [hva]));conv=>whnf))|((with_reducible refine isW ?_;first|refine xwr_ok (by omega) (by omega) ?_|refine xwr_raw ?_);conv=>whnf)|with_reducible exact rfl|((with_reducible first|refine xif_kt (by assumption) ?_|refine xif_kf (by assumption) ?_);conv=>whnf)|((with_reducible refine xif_s ?_ ?_)<;>(intro hb;(try simp (disch:=omega) only [hbS] at hb)<;>conv=>whnf)))
    refine Fin_addNil 34 4 ?_
    exact Fin_m (none, 0) [0] ⟨rfl, by simp [SV.wf, SV.wfs]⟩ ⟨⟨rfl, rfl, rfl, rfl, rfl, rfl⟩, trivial⟩ (by decide) rfl
  | true =>
  cases hvb : vE b with
  | false =>
    have e : combE f a b = ([], 1) := by unfold combE; rw [hva, hvb]; rfl
    rw [e]
    (conv=>whnf);repeat' (first|((with_reducible refine isC ?_);first|(((with_reducible refine isF 46 ?_);(first | ((with_reducible refine CallX_v (Valid_v A1 c1 a ha hn) ?_ ?_); (focus (exact ArgN.mem hp1 (by decide))); rw [hva]) | ((with_reducible refine CallX_v (Valid_v A2 c2 b hb0 hm) ?_ ?_); (focus (exact ArgN.mem hp2 (by decide))); rw [hvb])));conv=>whnf))|((with_reducible refine isW ?_;first|refine xwr_ok (by omega) (by omega) ?_|refine xwr_raw ?_);conv=>whnf)|with_reducible exact rfl|((with_reducible first|refine xif_kt (by assumption) ?_|refine xif_kf (by assumption) ?_);conv=>whnf)|((with_reducible refine xif_s ?_ ?_)<;>(intro hb;(try simp (disch:=omega) only [hbS] at hb)<;>conv=>whnf)))
    refine Fin_addNil 34 4 ?_
    exact Fin_m (none, 0) [0] ⟨rfl, by simp [SV.wf, SV.wfs]⟩ ⟨⟨rfl, rfl, rfl, rfl, rfl, rfl⟩, trivial⟩ (by decide) rfl
  | true =>
    have ok1 := comb_ok1 hva
    have ok2 := comb_ok2 hf hvb (ok1 a.length (Nat.le_refl _))
    have la := vE_length hva
    have lb := vE_length hvb
    rw [List.take_length] at ok2
    (conv=>whnf);repeat' (first|((with_reducible refine isC ?_);first|(((with_reducible refine isF 46 ?_);(first | ((with_reducible refine CallX_v (Valid_v A1 c1 a ha hn) ?_ ?_); (focus (exact ArgN.mem hp1 (by decide))); rw [hva]) | ((with_reducible refine CallX_v (Valid_v A2 c2 b hb0 hm) ?_ ?_); (focus (exact ArgN.mem hp2 (by decide))); rw [hvb])));conv=>whnf))|((with_reducible refine isO ?_);first|(refine OpX_makeT rfl ?_; intro bm; conv => whnf))|((with_reducible refine isW ?_;first|refine xwr_ok (by omega) (by omega) ?_|refine xwr_raw ?_);conv=>whnf)|with_reducible exact rfl|((with_reducible first|refine xif_kt (by assumption) ?_|refine xif_kf (by assumption) ?_);conv=>whnf)|((with_reducible refine xif_s ?_ ?_)<;>(intro hb;(try simp (disch:=omega) only [hbS] at hb)<;>conv=>whnf)))
    have hcomb : combE f a b = if (lstF (combL f a b)).any fun e => !countB e then ([], 2) else if (lstF (combL f a b)).length > 1048576 then ([], 6) else (lstF (combL f a b), 0) := by
      unfold combE
      rw [hva, hvb]
      rfl
    unfold combL at hcomb
    generalize hL0 : a.foldl addE [] = L0 at ok2 hcomb
    refine LoopX_inv tabOk (α := Nat) (fun k => k ≤ n) (fun k => [(0, .v (.slice A1 n c1)), (1, .v (.slice A2 m c2)), (2, I f), (8, .v (.map (some bm))), (23, .v (.slice A1 n c1)), (24, I n), (25, I k)])
      (fun k => [talO bm ((a.take k).foldl addE [])]) (fun k => n - k) 0 [0] (Nat.zero_le _) ?_ ?_
    · ((refine ⟨?_, ?_, ?_, ?_⟩) <;> (repeat' ((conv => whnf); apply And.intro)) <;> (try (first | exact trivial | decide)))
      all_goals first | rfl | exact fun _ _ h => h | (simp [SV.wf, SV.wfs]; done) | trace_state
    · intro k hk
      by_cases hlt : k < n
      · have hok := ok1 k (by omega)
        obtain ⟨b1, b2⟩ := ent_bd hva (i := k) (by omega)
        have hst := fold_take addE [] (d := e0) (l := a) (j := k) (by omega)
        have hr := hok.room (by omega) (a.getD k e0).cell b1 b2
        dsimp only
        generalize (a.take k).foldl addE [] = L at *
        have hadd := add_m bm L (a.getD k e0).cell (a.getD k e0).2.2.1 (a.getD k e0).2.2.2 hr.1 hr.2
        (conv=>whnf);repeat' (first|((with_reducible refine isC ?_);first|(((with_reducible refine isF 57 ?_);(refine CallX_m hadd [0] rfl ⟨fun _ _ h => h, trivial⟩ (by decide) (fun _ _ _ _ => trivial) ?_; intro u));conv=>whnf))|((with_reducible refine isV ?_);first|((first|refine ValX_index tabOk rfl (ArgN.mem hp1 (by decide)) rfl ?_ ?_ ?_|(with_reducible refine nat_idx ?_);refine ValX_loadEn _ _ (e0) tabOk rfl rfl rfl rfl (ArgN.mem hp1 (by decide)) ?_ ?_ ?_|refine ValX_loadE _ _ (e0) tabOk rfl rfl rfl rfl (ArgN.mem hp1 (by decide)) ?_ ?_ ?_)<;>first|rfl|omega|with_reducible refine isP ?_|conv=>whnf))|((with_reducible refine isW ?_;first|refine xwr_ok (by omega) (by omega) ?_|refine xwr_raw ?_);conv=>whnf)|with_reducible exact rfl|((with_reducible first|refine xif_kt (by assumption) ?_|refine xif_kf (by assumption) ?_);conv=>whnf)|((with_reducible refine xif_s ?_ ?_)<;>(intro hb;(try simp (disch:=omega) only [hbS] at hb)<;>conv=>whnf)))
        all_goals try (exfalso; omega)
        refine ⟨k + 1, [0], by omega, ?_, by (try dsimp only); omega⟩
        dsimp only
        rw [hst]
        ((refine ⟨?_, ?_, ?_, ?_⟩) <;> (repeat' ((conv => whnf); apply And.intro)) <;> (try (first | exact trivial | decide)))
        all_goals first | rfl | exact fun _ _ h => h | (simp [SV.wf, SV.wfs]; done) | trace_state
      · obtain rfl : k = n := by omega
        rw [← ha, List.take_length, hL0, ha]
        clear ok1 hL0
        (conv=>whnf);repeat' (first|((with_reducible refine isW ?_;first|refine xwr_ok (by omega) (by omega) ?_|refine xwr_raw ?_);conv=>whnf)|with_reducible exact rfl|((with_reducible first|refine xif_kt (by assumption) ?_|refine xif_kf (by assumption) ?_);conv=>whnf)|((with_reducible refine xif_s ?_ ?_)<;>(intro hb;(try simp (disch:=omega) only [hbS] at hb)<;>conv=>whnf)))
        all_goals try (exfalso; omega)
        refine LoopX_inv tabOk (α := Nat) (fun j => j ≤ m) (fun j => [(2, I f), (8, .v (.map (some bm))), (38, .v (.slice A2 m c2)), (39, I m), (40, I j)])
          (fun j => [talO bm ((b.take j).foldl (adF f) L0)]) (fun j => m - j) 0 [0] (Nat.zero_le _) ?_ ?_
        · ((refine ⟨?_, ?_, ?_, ?_⟩) <;> (repeat' ((conv => whnf); apply And.intro)) <;> (try (first | exact trivial | decide)))
          all_goals first | rfl | exact fun _ _ h => h | (simp [SV.wf, SV.wfs]; done) | trace_state
        · intro j hj
          by_cases hjl : j < m
          · have hok := ok2 j (by omega)
            obtain ⟨b1, b2⟩ := ent_bd hvb (i := j) (by omega)
            have b1' := mul_f hf b1
            have b2' := mul_f hf b2
            have hst := fold_take (adF f) L0 (d := e0) (l := b) (j := j) (by omega)
            have hr := hok.room (by omega) (b.getD j e0).cell b1' b2'
            dsimp only
            generalize (b.take j).foldl (adF f) L0 = L at *
            have hadd := add_m bm L (b.getD j e0).cell (f * (b.getD j e0).2.2.1) (f * (b.getD j e0).2.2.2) hr.1 hr.2
            (conv=>whnf);repeat' (first|((with_reducible refine isC ?_);first|(((with_reducible refine isF 57 ?_);(refine CallX_m hadd [0] rfl ⟨fun _ _ h => h, trivial⟩ (by decide) (fun _ _ _ _ => trivial) ?_; intro u));conv=>whnf))|((with_reducible refine isV ?_);first|((first|refine ValX_index tabOk rfl (ArgN.mem hp2 (by decide)) rfl ?_ ?_ ?_|(with_reducible refine nat_idx ?_);refine ValX_loadEn _ _ (e0) tabOk rfl rfl rfl rfl (ArgN.mem hp2 (by decide)) ?_ ?_ ?_|refine ValX_loadE _ _ (e0) tabOk rfl rfl rfl rfl (ArgN.mem hp2 (by decide)) ?_ ?_ ?_)<;>first|rfl|omega|with_reducible refine isP ?_|conv=>whnf))|((with_reducible refine isW ?_;first|refine xwr_ok (by omega) (by omega) ?_|refine xwr_raw ?_);conv=>whnf)|with_reducible exact rfl|((with_reducible first|refine xif_kt (by assumption) ?_|refine xif_kf (by assumption) ?_);conv=>whnf)|((with_reducible refine xif_s ?_ ?_)<;>(intro hb;(try simp (disch:=omega) only [hbS] at hb)<;>conv=>whnf)))
            all_goals try (exfalso; omega)
            refine ⟨j + 1, [0], by omega, ?_, by (try dsimp only); omega⟩
            dsimp only
            rw [hst]
            ((refine ⟨?_, ?_, ?_, ?_⟩) <;> (repeat' ((conv => whnf); apply And.intro)) <;> (try (first | exact trivial | decide)))
            all_goals first | rfl | exact fun _ _ h => h | (simp [SV.wf, SV.wfs]; done) | trace_state
          · obtain rfl : j = m := by omega
            have hok := ok2 b.length (Nat.le_refl _)
            rw [List.take_length] at hok
            rw [← hb0, List.take_length, hb0]
            rw [hcomb]
            clear ok2 hcomb
            generalize b.foldl (adF f) L0 = L at *
            have hll := hok.len
            have hlst := lstF_list hok.ne
            have hle : (lstF L).length ≤ 1000000000 := by
              have h1 := hlst.1.length_eq
              have h2 := List.length_filter_le (fun e => !zeroE e) L
              omega
            generalize hO : lstF L = O at *
            have hun : ∀ ys, IsList L ys → ys = O := fun ys h => h.unique hlst
            (conv=>whnf);repeat' (first|((with_reducible refine isC ?_);first|((first|(with_reducible refine isF 58 ?_);(refine CallX_m (list_m bm L hok.ne (by omega)) [0] rfl ⟨fun _ _ h => h, trivial⟩ (by decide) (fun _ _ _ _ => trivial) ?_; intro q; obtain ⟨⟨A3, c3, ys⟩, hy⟩ := q; dsimp only at hy ⊢; obtain rfl := hun ys hy)|(with_reducible refine isF 123 ?_);(refine CallX_w (ContainsFuncE_w 124 (fun e => !countB e) comb1_x A3 c3 ys rfl hle) (ArgSl.row 1 rfl) ?_));conv=>whnf))|((with_reducible refine isW ?_;first|refine xwr_ok (by omega) (by omega) ?_|refine xwr_raw ?_);conv=>whnf)|with_reducible exact rfl|((with_reducible first|refine xif_kt (by assumption) ?_|refine xif_kf (by assumption) ?_);conv=>whnf)|((with_reducible refine xif_s ?_ ?_)<;>(intro hb;(try simp (disch:=omega) only [hbS] at hb)<;>conv=>whnf)))
            all_goals try (exfalso; omega)
            · rw [if_pos hb]
              refine Fin_addNil 34 4 ?_
              exact Fin_m (none, 0) [2] ⟨rfl, by simp [SV.wf, SV.wfs]⟩ ⟨⟨rfl, rfl, rfl, rfl, rfl, rfl⟩, trivial⟩ (by decide) rfl
            · rename_i h1
              rw [if_neg (by rw [h1]; simp), if_pos (by omega)]
              refine Fin_addNil 34 4 ?_
              exact Fin_m (none, 0) [2] ⟨rfl, by simp [SV.wf, SV.wfs]⟩ ⟨⟨rfl, rfl, rfl, rfl, rfl, rfl⟩, trivial⟩ (by decide) rfl
            · rename_i h1
              rw [if_neg (by rw [h1]; simp), if_neg (by omega)]
              exact Fin_m (A3, c3) [1] ⟨rfl, by simp [SV.wf, SV.wfs]⟩ ⟨⟨rfl, rfl, rfl, rfl, rfl, rfl⟩, trivial⟩ (by decide) rfl
theorem Add_m (A1 A2 : Option Addr) (c1 c2 : Nat) (a b : List EntT) {n m : Nat} (ha : a.length = n) (hb0 : b.length = m) (hn : n ≤ maxLen) (hm : m ≤ maxLen) :
    CallM Tryz.prog 45 [.v (.slice A1 n c1), .v (.slice A2 m c2)] (fun w M => ArgN w M A1 n 4 (a.map encE) ∧ ArgN w M A2 m 4 (b.map encE)) []
      (fun q : Option Addr × Nat => .t [.v (.slice q.1 (combE 1 a b).1.length q.2), I (combE 1 a b).2]) (fun q => [.row 34 4 q.1 (combE 1 a b).1.length q.2 ((combE 1 a b).1.map encE)]) := by
  have hc := combine_m 1 (.inl rfl) A1 A2 c1 c2 a b ha hb0 hn hm
  generalize combE 1 a b = r at *
  refine CallM.of (m := 0) Tryz.func45 rfl tabOk rfl rfl rfl rfl (by simp [SV.wfs, SV.wf]) fun w M π hpre => ?_
  obtain ⟨hp1, hp2⟩ := hpre
  (conv=>whnf);repeat' (first|with_reducible exact rfl|((with_reducible first|refine xif_kt (by assumption) ?_|refine xif_kf (by assumption) ?_);conv=>whnf)|((with_reducible refine xif_s ?_ ?_)<;>(intro hb;(try simp (disch:=omega) only [hbS] at hb)<;>conv=>whnf)))
  refine CallX_m hc [] rfl trivial (by decide) (fun σ fp w hm => ⟨ArgN.on hp1 (by decide) (m := 0) (fun j hj => by omega) σ fp w hm, ArgN.on hp2 (by decide) (m := 0) (fun j hj => by omega) σ fp w hm⟩) ?_
  intro q
  (conv=>whnf);repeat' (first|with_reducible exact rfl|((with_reducible first|refine xif_kt (by assumption) ?_|refine xif_kf (by assumption) ?_);conv=>whnf)|((with_reducible refine xif_s ?_ ?_)<;>(intro hb;(try simp (disch:=omega) only [hbS] at hb)<;>conv=>whnf)))
  exact Fin_m q [0] ⟨rfl, by simp [SV.wf, SV.wfs]⟩ ⟨⟨rfl, rfl, rfl, rfl, rfl, rfl⟩, trivial⟩ (by decide) rfl
theorem valT_none {L : List EntT} {c : CellT} (h : ∀ e ∈ L, e.cell ≠ c) : valT L c = (0, 0) := by
  rcases getT_mem (L := L) (c := c) with ⟨h1, h2⟩ | ⟨h1, _⟩
  · exact (h _ h1 h2).elim
  · unfold valT
    rw [h1]
    rfl
theorem valT_cons {e : EntT} {l : List EntT} (h : neT (e :: l)) (c : CellT) : valT (e :: l) c = if e.cell = c then (e.2.2.1, e.2.2.2) else valT l c := by
  split
  · rename_i hc
    subst hc
    exact mem_val h (by simp)
  · rename_i hc
    unfold neT at h
    rw [List.pairwise_cons] at h
    rcases getT_mem (L := l) (c := c) with ⟨h1, h2⟩ | ⟨h1, h2⟩
    · have h3 := mem_val (L := e :: l) (by unfold neT; rw [List.pairwise_cons]; exact h) (List.mem_cons_of_mem e h1)
      rw [h2] at h3
      rw [h3]
      rfl
    · rw [valT_none (L := e :: l) (fun x hx => by
        rcases List.mem_cons.1 hx with rfl | hx
        · exact hc
        · exact h2 x hx)]
      unfold valT
      rw [h1]
      rfl
theorem neT_tail {e : EntT} {l : List EntT} (h : neT (e :: l)) : neT l ∧ ∀ x ∈ l, x.cell ≠ e.cell := by
  unfold neT at *
  rw [List.pairwise_cons] at h
  exact ⟨h.2, fun x hx e' => h.1 x hx e'.symm⟩
theorem val_addF (f : Int) (c : CellT) : ∀ (b : List EntT) (L : List EntT), neT b → neT L → neT (b.foldl (adF f) L) ∧ valT (b.foldl (adF f) L) c = ((valT L c).1 + f * (valT b c).1, (valT L c).2 + f * (valT b c).2)
  | [], L, _, hL => by
    refine ⟨hL, ?_⟩
    rw [valT_none (L := []) (by simp)]
    simp
  | e :: b, L, hb, hL => by
    obtain ⟨h1, h2⟩ := neT_tail hb
    have hL' : neT (adF f L e) := addT_ne hL _ _ _
    obtain ⟨h3, h4⟩ := val_addF f c b (adF f L e) h1 hL'
    refine ⟨h3, ?_⟩
    rw [List.foldl_cons, h4, valT_cons hb]
    unfold adF
    rw [valT_add hL]
    split
    · rename_i hc
      rw [valT_none (L := b) (fun x hx => by rw [← hc]; exact h2 x hx)]
      rw [hc]
      simp
    · rfl
theorem val_addE (c : CellT) (b : List EntT) (L : List EntT) (hb : neT b) (hL : neT L) : neT (b.foldl addE L) ∧ valT (b.foldl addE L) c = ((valT L c).1 + (valT b c).1, (valT L c).2 + (valT b c).2) := by
  have e : b.foldl addE L = b.foldl (adF 1) L := by
    congr 1
    funext L e
    simp [addE, adF]
  rw [e]
  obtain ⟨h1, h2⟩ := val_addF 1 c b L hb hL
  refine ⟨h1, h2.trans ?_⟩
  simp
def sumV (f : Int) (a b : List EntT) (c : CellT) : Int × Int := ((valT a c).1 + f * (valT b c).1, (valT a c).2 + f * (valT b c).2)
theorem val_comb (f : Int) {a b : List EntT} (ha : vE a = true) (hb : vE b = true) (c : CellT) : neT (combL f a b) ∧ valT (combL f a b) c = sumV f a b c := by
  have na := asc_ne (vE_pairwise ha)
  have nb := asc_ne (vE_pairwise hb)
  obtain ⟨h1, h2⟩ := val_addE c a [] na (by simp [neT])
  obtain ⟨h3, h4⟩ := val_addF f c b (a.foldl addE []) nb h1
  refine ⟨h3, ?_⟩
  unfold combL sumV
  rw [h4, h2, valT_none (L := []) (by simp)]
  simp
theorem rep_comb (f : Int) {a b : List EntT} (ha : vE a = true) (hb : vE b = true) : Rep (sumV f a b) (lstF (combL f a b)) :=
  (rep_lst (val_comb f ha hb (0, 0)).1).congr fun c => (val_comb f ha hb c).2
end Go.Proofs.YtadichckbogcjaaGreatDoor.En
namespace Go.Proofs.YtadichckbogcjaaGreatDoor.En
open Go.RowKit
theorem comb_def {f : Int} {a b : List EntT} (ha : vE a = true) (hb : vE b = true) :
    combE f a b = if (lstF (combL f a b)).any fun e => !countB e then ([], 2) else if (lstF (combL f a b)).length > 1048576 then ([], 6) else (lstF (combL f a b), 0) := by
  unfold combE
  rw [ha, hb]
  rfl
theorem comb_len (f : Int) (a b : List EntT) : (combE f a b).1.length ≤ 1048576 := by
  unfold combE
  split
  · split
    · simp
    · split
      · simp
      · dsimp only
        omega
  · simp
theorem comb_code {f : Int} {a b : List EntT} (h : (combE f a b).2 = 0) : vE a = true ∧ vE b = true ∧ (combE f a b).1 = lstF (combL f a b) ∧ (∀ e ∈ lstF (combL f a b), countB e = true) ∧ (lstF (combL f a b)).length ≤ 1048576 := by
  unfold combE at h ⊢
  split at h
  · rename_i h1
    rw [Bool.and_eq_true] at h1
    rw [if_pos (by rw [h1.1, h1.2]; rfl)]
    split at h
    · cases h
    · rename_i h2
      split at h
      · cases h
      · rename_i h3
        rw [if_neg h2, if_neg h3]
        refine ⟨h1.1, h1.2, rfl, fun e he => ?_, by omega⟩
        cases hc : countB e with
        | true => rfl
        | false => exact (h2 (List.any_eq_true.2 ⟨e, he, by simp [hc]⟩)).elim
  · cases h
theorem comb_rep {f : Int} {a b : List EntT} (h : (combE f a b).2 = 0) : Rep (sumV f a b) (combE f a b).1 := by
  obtain ⟨h1, h2, h3, _⟩ := comb_code h
  rw [h3]
  exact rep_comb f h1 h2
theorem cell_lim {l : List EntT} (h : vE l = true) {c : CellT} (hc : valT l c ≠ (0, 0)) : szB c.1 16384 = true ∧ szB c.2 16384 = true := by
  rcases getT_mem (L := l) (c := c) with ⟨h1, h2⟩ | ⟨h1, _⟩
  · have := vE_good h h1
    simp only [goodB, Bool.and_eq_true] at this
    rw [← h2]
    exact ⟨this.1.2, this.2⟩
  · exact (hc (by unfold valT; rw [h1]; rfl)).elim
theorem comb_vE {f : Int} {a b : List EntT} (h : (combE f a b).2 = 0) : vE (combE f a b).1 = true := by
  have hr := comb_rep h
  obtain ⟨h1, h2, h3, h4, h5⟩ := comb_code h
  refine asc_vE hr.1 (fun e he => ?_) (by rw [h3]; exact h5)
  have hcnt := h4 e (by rw [← h3]; exact he)
  obtain ⟨hz, hv⟩ := (hr.2 e).1 he
  have hlim : szB e.cell.1 16384 = true ∧ szB e.cell.2 16384 = true := by
    by_cases ha : valT a e.cell = (0, 0)
    · by_cases hb : valT b e.cell = (0, 0)
      · unfold sumV at hv
        rw [ha, hb] at hv
        simp at hv
        simp [zeroE, ← hv.1, ← hv.2] at hz
      · exact cell_lim h2 hb
    · exact cell_lim h1 ha
  have e1 : szB e.1 16384 = true := hlim.1
  have e2 : szB e.2.1 16384 = true := hlim.2
  simp only [zeroE] at hz
  simp only [goodB, hcnt, hz, e1, e2]
  rfl
theorem comb_val {f : Int} {a b : List EntT} (h : (combE f a b).2 = 0) (c : CellT) : valT (combE f a b).1 c = sumV f a b c := (comb_rep h).val c
theorem vE_nil : vE [] = true := by decide
end Go.Proofs.YtadichckbogcjaaGreatDoor.En
end
section
namespace Go.Proofs.YtadichckbogcjaaGreatDoor.En
open Go.RowKit
set_option maxRecDepth 100000
end Go.Proofs.YtadichckbogcjaaGreatDoor.En
end
section
namespace Go.Proofs.YtadichckbogcjaaGreatDoor.En
open Go.RowKit
theorem mem_rowK {p : CellT → Bool} {x0 y : Int} {j : Nat} {c : CellT} : c ∈ rowK p x0 y j ↔ p c = true ∧ c.2 = y ∧ x0 ≤ c.1 ∧ c.1 < x0 + j := by
  unfold rowK
  rw [List.mem_filter, List.mem_map]
  constructor
  · rintro ⟨⟨i, hi, rfl⟩, h2⟩
    have := List.mem_range.1 hi
    exact ⟨h2, rfl, by dsimp only; omega, by dsimp only; omega⟩
  · rintro ⟨h1, h2, h3, h4⟩
    exact ⟨⟨(c.1 - x0).toNat, List.mem_range.2 (by omega), Prod.ext (by dsimp only; omega) h2.symm⟩, h1⟩
theorem mem_outK {p : CellT → Bool} {x0 y0 : Int} {w k : Nat} {c : CellT} : c ∈ outK p x0 y0 w k ↔ p c = true ∧ (x0 ≤ c.1 ∧ c.1 < x0 + w) ∧ y0 ≤ c.2 ∧ c.2 < y0 + k := by
  unfold outK
  rw [List.mem_flatMap]
  constructor
  · rintro ⟨i, hi, h⟩
    have := List.mem_range.1 hi
    obtain ⟨h1, h2, h3, h4⟩ := mem_rowK.1 h
    exact ⟨h1, ⟨h3, h4⟩, by omega, by omega⟩
  · rintro ⟨h1, ⟨h2, h3⟩, h4, h5⟩
    exact ⟨(c.2 - y0).toNat, List.mem_range.2 (by omega), mem_rowK.2 ⟨h1, by omega, h2, h3⟩⟩
theorem rowK_nodup (p : CellT → Bool) (x0 y : Int) : ∀ j : Nat, (rowK p x0 y j).Nodup
  | 0 => by simp [rowK]
  | j + 1 => by
    rw [rowK_succ, List.nodup_append]
    refine ⟨rowK_nodup p x0 y j, by split <;> simp, ?_⟩
    intro a ha b hb hab
    subst hab
    have h1 := mem_rowK.1 ha
    split at hb
    · rw [List.mem_singleton] at hb
      subst hb
      dsimp only at h1
      omega
    · cases hb
theorem outK_nodup (p : CellT → Bool) (x0 y0 : Int) (w : Nat) : ∀ k : Nat, (outK p x0 y0 w k).Nodup
  | 0 => by simp [outK]
  | k + 1 => by
    rw [outK_succ, List.nodup_append]
    refine ⟨outK_nodup p x0 y0 w k, rowK_nodup _ _ _ _, ?_⟩
    intro a ha b hb hab
    subst hab
    have h1 := mem_outK.1 ha
    have h2 := mem_rowK.1 hb
    omega
theorem mem_sweep {r : RectT} {v : VecT} {lo hi : Int} {c : CellT} : c ∈ sweepL r v lo hi ↔ hitR r v lo hi c = true ∧ ((swX r v lo hi).1 ≤ c.1 ∧ c.1 ≤ (swX r v lo hi).2) ∧ (swY r v lo hi).1 ≤ c.2 ∧ c.2 ≤ (swY r v lo hi).2 := by
  unfold sweepL
  rw [mem_outK]
  constructor
  · rintro ⟨h1, h2, h3⟩
    refine ⟨h1, ?_, ?_⟩ <;> omega
  · rintro ⟨h1, h2, h3⟩
    refine ⟨h1, ?_, ?_⟩ <;> omega
theorem sweep_nodup (r : RectT) (v : VecT) (lo hi : Int) : (sweepL r v lo hi).Nodup := outK_nodup _ _ _ _ _
theorem met_near {at_ : PoseT} {b : BeamT} (h1 : szB at_.1 262144 = true) (h2 : szB at_.2.1 262144 = true) (h3 : -1 ≤ b.2 ∧ b.2 ≤ 1024) {c : CellT} (hc : c ∈ metL (at_.1, at_.2.1) (beamF at_.2.2 b.1) b) : (-5000 ≤ c.1 ∧ c.1 ≤ 5000) ∧ (-5000 ≤ c.2 ∧ c.2 ≤ 5000) := by
  have g1 := szB_bd h1
  have g2 := szB_bd h2
  have hr : 0 ≤ reachB b ∧ reachB b ≤ 1024 := by
    unfold reachB
    split <;> omega
  obtain ⟨_, hx, hy⟩ := mem_sweep.1 hc
  have hb := sw_bd (r := ptR (at_.1, at_.2.1)) (v := beamF at_.2.2 b.1) (lo := 0) (hi := reachB b) ⟨by dsimp only [ptR]; omega, Int.le_refl _, by dsimp only [ptR]; omega, by dsimp only [ptR]; omega, Int.le_refl _, by dsimp only [ptR]; omega, by simp [ptR], by simp [ptR], beam_vec _ _, Int.le_refl _, hr.1, by omega⟩
  dsimp only [ptR] at hb hx hy
  dsimp only [ptR] at *
  omega
def contE (ends l : List CellT) (c : CellT) : Int × Int := if c ∈ ends then ((l.count c : Int), 0) else (0, (l.count c : Int))
theorem any_in {ends : List CellT} {c : CellT} : ends.any (inB c) = true ↔ c ∈ ends := by
  rw [List.any_eq_true]
  constructor
  · rintro ⟨x, hx, h⟩
    rw [inB, decide_eq_true_eq] at h
    exact h ▸ hx
  · intro h
    exact ⟨c, h, by simp [inB]⟩
theorem step_val {L : List EntT} (h : neT L) (ends : List CellT) (d c : CellT) : neT (stepT ends L d) ∧ valT (stepT ends L d) c = if d = c then (if d ∈ ends then ((valT L c).1 + 1, (valT L c).2) else ((valT L c).1, (valT L c).2 + 1)) else valT L c := by
  unfold stepT
  by_cases hd : d ∈ ends
  · rw [if_pos (any_in.2 hd)]
    refine ⟨addT_ne h _ _ _, ?_⟩
    rw [valT_add h]
    split
    · rename_i hc
      subst hc
      try rw [if_pos hd]
      simp
    · rfl
  · rw [if_neg (fun h => hd (any_in.1 h))]
    refine ⟨addT_ne h _ _ _, ?_⟩
    rw [valT_add h]
    split
    · rename_i hc
      subst hc
      try rw [if_neg hd]
      simp
    · rfl
theorem steps_val (ends : List CellT) (c : CellT) : ∀ (l : List CellT) {L : List EntT}, neT L → neT (l.foldl (stepT ends) L) ∧ valT (l.foldl (stepT ends) L) c = ((valT L c).1 + (contE ends l c).1, (valT L c).2 + (contE ends l c).2)
  | [], L, h => by
    refine ⟨h, ?_⟩
    unfold contE
    split <;> simp
  | d :: l, L, h => by
    obtain ⟨h1, h2⟩ := step_val h ends d c
    obtain ⟨h3, h4⟩ := steps_val ends c l h1
    rw [List.foldl_cons]
    refine ⟨h3, ?_⟩
    rw [h4, h2]
    unfold contE
    rw [List.count_cons]
    by_cases hdc : d = c
    · subst hdc
      by_cases hd : d ∈ ends
      · simp [hd]
        omega
      · simp [hd]
        omega
    · have : (d == c) = false := by simpa using hdc
      simp [hdc]
def contB (at_ : PoseT) (b : BeamT) (c : CellT) : Int × Int := contE (endsL (at_.1, at_.2.1) (beamF at_.2.2 b.1) b) (metL (at_.1, at_.2.1) (beamF at_.2.2 b.1) b) c
def contS (at_ : PoseT) (s : List BeamT) (c : CellT) : Int × Int := ((s.map fun b => (contB at_ b c).1).sum, (s.map fun b => (contB at_ b c).2).sum)
theorem beams_val (at_ : PoseT) (c : CellT) : ∀ (s : List BeamT) {L : List EntT}, neT L → neT (s.foldl (beamT at_) L) ∧ valT (s.foldl (beamT at_) L) c = ((valT L c).1 + (contS at_ s c).1, (valT L c).2 + (contS at_ s c).2)
  | [], L, h => by
    refine ⟨h, ?_⟩
    simp [contS]
  | b :: s, L, h => by
    obtain ⟨h1, h2⟩ := steps_val (endsL (at_.1, at_.2.1) (beamF at_.2.2 b.1) b) c (metL (at_.1, at_.2.1) (beamF at_.2.2 b.1) b) h
    obtain ⟨h3, h4⟩ := beams_val at_ c s (L := beamT at_ L b) h1
    rw [List.foldl_cons]
    refine ⟨h3, ?_⟩
    rw [h4]
    have h2' : valT (beamT at_ L b) c = ((valT L c).1 + (contB at_ b c).1, (valT L c).2 + (contB at_ b c).2) := h2
    rw [h2']
    simp only [contS, List.map_cons, List.sum_cons]
    refine Prod.ext ?_ ?_ <;> (dsimp only; omega)
theorem of_ne (at_ : PoseT) (s : List BeamT) : neT (ofL at_ s) := (beams_val at_ (0, 0) s (L := []) (by simp [neT])).1
theorem of_val (at_ : PoseT) (s : List BeamT) (c : CellT) : valT (ofL at_ s) c = contS at_ s c := by
  have := (beams_val at_ c s (L := []) (by simp [neT])).2
  unfold ofL
  rw [this, valT_none (L := []) (by simp)]
  simp
theorem of_rep {at_ : PoseT} {s : List BeamT} {ys : List EntT} (hk : ofOk at_ s = true) (h : IsOf at_ s ys) : Rep (contS at_ s) ys := by
  unfold IsOf at h
  rw [if_pos hk] at h
  have e : ys = lstF (ofL at_ s) := h.unique (lstF_list (of_ne at_ s))
  rw [e]
  exact (rep_lst (of_ne at_ s)).congr fun c => of_val at_ s c
theorem ofOk_bd {at_ : PoseT} {s : List BeamT} (h : ofOk at_ s = true) : szB at_.1 262144 = true ∧ szB at_.2.1 262144 = true ∧ scanB s = true := by
  simp only [ofOk, Bool.and_eq_true] at h
  exact ⟨h.1.1.1.1, h.1.1.1.2, h.2⟩
theorem contB_met {at_ : PoseT} {b : BeamT} {c : CellT} (h : contB at_ b c ≠ (0, 0)) : c ∈ metL (at_.1, at_.2.1) (beamF at_.2.2 b.1) b := by
  apply Classical.byContradiction
  intro hn
  apply h
  unfold contB contE
  rw [List.count_eq_zero_of_not_mem hn]
  split <;> rfl
theorem contS_met {at_ : PoseT} {c : CellT} : ∀ {s : List BeamT}, contS at_ s c ≠ (0, 0) → ∃ b ∈ s, contB at_ b c ≠ (0, 0)
  | [], h => (h rfl).elim
  | b :: s, h => by
    by_cases hb : contB at_ b c = (0, 0)
    · have e : contS at_ (b :: s) c = contS at_ s c := by
        simp only [contS, List.map_cons, List.sum_cons, hb, Int.zero_add]
      rw [e] at h
      obtain ⟨x, hx, hc⟩ := contS_met h
      exact ⟨x, List.mem_cons_of_mem _ hx, hc⟩
    · exact ⟨b, by simp, hb⟩
theorem scan_mem {s : List BeamT} (h : scanB s = true) {b : BeamT} (hb : b ∈ s) : 0 ≤ b.1 ∧ b.1 < 256 ∧ -1 ≤ b.2 ∧ b.2 ≤ 1024 := by
  obtain ⟨k, hk, rfl⟩ := List.getElem_of_mem hb
  have := scan_ok h hk
  simp only [List.getD_eq_getElem?_getD, List.getElem?_eq_getElem hk, Option.getD_some] at this
  omega
theorem of_vE {at_ : PoseT} {s : List BeamT} {ys : List EntT} (hk : ofOk at_ s = true) (h : IsOf at_ s ys) : vE ys = true ∧ ∀ e ∈ ys, 0 ≤ e.2.2.1 ∧ 0 ≤ e.2.2.2 := by
  have hr := of_rep hk h
  obtain ⟨b1, b2, b3⟩ := ofOk_bd hk
  have hok := of_okT b1 b2 b3 s.length (Nat.le_refl _)
  rw [List.take_length] at hok
  have hs : s.length ≤ 32 := by
    simp only [scanB, Bool.and_eq_true, decide_eq_true_eq] at b3
    exact b3.1
  have hk' : OkT 320000 (ofL at_ s) := hok.mono (by omega)
  have hL : IsList (ofL at_ s) ys := by
    unfold IsOf at h
    rwa [if_pos hk] at h
  have hmem : ∀ e ∈ ys, e ∈ ofL at_ s ∧ zeroE e = false := fun e he => by
    have := hL.1.mem_iff.1 he
    rw [List.mem_filter] at this
    exact ⟨this.1, by simpa using this.2⟩
  refine ⟨asc_vE hr.1 (fun e he => ?_) ?_, fun e he => ?_⟩
  · obtain ⟨hz, hv⟩ := (hr.2 e).1 he
    have hb := hk'.bd e (hmem e he).1
    have hne : contS at_ s e.cell ≠ (0, 0) := by
      rw [hv]
      intro h0
      have e1 := (Prod.ext_iff.1 h0).1
      have e2 := (Prod.ext_iff.1 h0).2
      dsimp only at e1 e2
      unfold zeroE at hz
      rw [e1, e2] at hz
      cases hz
    obtain ⟨b, hbs, hc⟩ := contS_met hne
    have hm := scan_mem b3 hbs
    have hn := met_near b1 b2 ⟨hm.2.2.1, hm.2.2.2⟩ (contB_met hc)
    have n1 : -5000 ≤ e.1 ∧ e.1 ≤ 5000 := hn.1
    have n2 : -5000 ≤ e.2.1 ∧ e.2.1 ≤ 5000 := hn.2
    simp only [goodB, Bool.and_eq_true]
    refine ⟨⟨⟨?_, ?_⟩, ?_⟩, ?_⟩
    · simp only [countB, szB, Bool.and_eq_true, decide_eq_true_eq]
      omega
    · rw [Bool.not_eq_true']
      exact hz
    · simp only [szB, decide_eq_true_eq]
      omega
    · simp only [szB, decide_eq_true_eq]
      omega
  · have h1 := hL.1.length_eq
    have h2 := List.length_filter_le (fun e => !zeroE e) (ofL at_ s)
    have h3 := hk'.len
    omega
  · have hb := hk'.bd e (hmem e he).1
    omega
end Go.Proofs.YtadichckbogcjaaGreatDoor.En
namespace Go.Proofs.YtadichckbogcjaaGreatDoor.En
open Go.RowKit
set_option maxRecDepth 100000
theorem CallM.map {P : Program} {f : FuncId} {args : List SV} {pre : World → (Nat → Prop) → Prop} {os0 : List OB} {ι κ : Type} {x : ι → SV} {os1 : ι → List OB} {x' : κ → SV} {os1' : κ → List OB} (g : ι → κ) (hx : ∀ i, x i = x' (g i)) (ho : ∀ i, os1 i = os1' (g i)) (h : CallM P f args pre os0 x os1) : CallM P f args pre os0 x' os1' := by
  refine ⟨h.1, h.2.1, fun σ fp w hM hp => (h.2.2 σ fp w hM hp).mono ?_⟩
  rintro e w' ⟨i, σ', fp', h1, h2, h3⟩
  refine ⟨g i, σ', fp', ?_, ?_, ?_⟩
  · rw [h1, hx]
  · rw [← hx, ← ho]
    exact h2
  · rw [← ho]
    exact h3
def ofE (at_ : PoseT) (s : List BeamT) : List EntT × Int := if ofOk at_ s then (lstF (ofL at_ s), 0) else ([], 1)
theorem ofE_of {at_ : PoseT} {s : List BeamT} {ys : List EntT} (h : IsOf at_ s ys) : ys = (ofE at_ s).1 := by
  unfold ofE
  cases hk : ofOk at_ s with
  | true =>
    unfold IsOf at h
    rw [if_pos hk] at h
    rw [if_pos rfl]
    exact h.unique (lstF_list (of_ne at_ s))
  | false =>
    unfold IsOf at h
    rw [hk, if_neg (by simp)] at h
    rw [if_neg (by simp)]
    exact h
theorem ofE_is (at_ : PoseT) (s : List BeamT) : IsOf at_ s (ofE at_ s).1 := by
  unfold ofE IsOf
  cases hk : ofOk at_ s with
  | true =>
    rw [if_pos rfl, if_pos rfl]
    exact lstF_list (of_ne at_ s)
  | false => rfl
theorem ofE_code (at_ : PoseT) (s : List BeamT) : (ofE at_ s).2 = if ofOk at_ s then 0 else 1 := by
  unfold ofE
  split <;> rfl
theorem ofE_bad {at_ : PoseT} {s : List BeamT} (h : (ofE at_ s).2 ≠ 0) : (ofE at_ s).1 = [] ∧ (ofE at_ s).2 = 1 := by
  unfold ofE at h ⊢
  split
  · rename_i hk
    rw [if_pos hk] at h
    exact (h rfl).elim
  · exact ⟨rfl, rfl⟩
theorem ofE_ok {at_ : PoseT} {s : List BeamT} : (ofE at_ s).2 = 0 ↔ ofOk at_ s = true := by
  unfold ofE
  split
  · rename_i hk
    exact ⟨fun _ => hk, fun _ => rfl⟩
  · rename_i hk
    constructor
    · intro h
      cases h
    · intro h
      exact (hk h).elim
theorem ofE_len (at_ : PoseT) (s : List BeamT) : (ofE at_ s).1.length ≤ 1048576 := by
  cases hk : ofOk at_ s with
  | true => exact vE_length (of_vE hk (ofE_is at_ s)).1
  | false =>
    unfold ofE
    rw [hk]
    simp
theorem ofE_m (at_ : PoseT) (A : Option Addr) (c : Nat) (s : List BeamT) (els : List (List Value)) (he : s.map encB = els) {n : Nat} (hl : s.length = n) (hn : n ≤ maxLen) :
    CallM Tryz.prog 24 [.a [I at_.1, I at_.2.1, I at_.2.2], .v (.slice A n c)] (fun w M => ArgN w M A n 2 els) []
      (fun q : Option Addr × Nat => .t [.v (.slice q.1 (ofE at_ s).1.length q.2), I (ofE at_ s).2]) (fun q => [.row 34 4 q.1 (ofE at_ s).1.length q.2 ((ofE at_ s).1.map encE)]) := by
  subst he
  refine CallM.map (fun q : OfT at_ s => (q.1.1, q.1.2.1)) ?_ ?_ (of_m at_ A c s hl hn)
  · rintro ⟨⟨A1, c1, ys⟩, hy⟩
    dsimp only at hy ⊢
    rw [ofE_code, ofE_of hy]
  · rintro ⟨⟨A1, c1, ys⟩, hy⟩
    dsimp only at hy ⊢
    rw [ofE_of hy]
theorem ofE_rep {at_ : PoseT} {s : List BeamT} (h : ofOk at_ s = true) : Rep (contS at_ s) (ofE at_ s).1 ∧ vE (ofE at_ s).1 = true := ⟨of_rep h (ofE_is at_ s), (of_vE h (ofE_is at_ s)).1⟩
end Go.Proofs.YtadichckbogcjaaGreatDoor.En
namespace Go.Proofs.YtadichckbogcjaaGreatDoor.En
open Go.RowKit
theorem traced_nodup (p : PtT) (v : VecT) (lo hi : Int) : (tracedL p v lo hi).Nodup := sweep_nodup _ _ _ _
theorem count_of {l : List CellT} (h : l.Nodup) (c : CellT) : l.count c = if c ∈ l then 1 else 0 := h.count
theorem met_nodup (p : PtT) (v : VecT) (b : BeamT) : (metL p v b).Nodup := traced_nodup _ _ _ _
end Go.Proofs.YtadichckbogcjaaGreatDoor.En
end
