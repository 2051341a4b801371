/- evidence.combine, Add, Sub by the executor. -/
/- Plain: sums of lists. -/
import Derived.Test.YtodaijlclbngbaaGreatOg
set_option linter.all false
namespace Go.Proofs.YtodaijlclbngbaaGreat.En
open Go.RowKit
set_option maxRecDepth 100000

theorem ContainsFuncE_w (g : Nat) (p : EntT → Bool) (hg : ∀ e : EntT, PureX Tryz.prog g [.a [I e.1, I e.2.1, I e.2.2.1, I e.2.2.2]] (B (p e))) (A : Option Addr) (c : Nat) (l : List EntT) {n : Nat} (hl : l.length = n) (hn : n ≤ 1000000000) :
    CallW Tryz.prog 107 [.v (.slice A n c), .v (.func (.func g) #[] #[])] (fun w => ArgSl w A n 4 (l.map encE)) (B (l.any p)) := by
  refine CallW.of Tryz.func107 rfl tabOk rfl rfl rfl (by simp [SV.wfs, SV.wf]) (by simp [SV.wfs, SV.wf]) fun w hpre => ?_
  (conv => whnf); repeat' (first | ((with_reducible refine isC ?_); first | ((with_reducible refine isF 123 ?_); (refine CallX_w (IndexFuncE_w g p hg A c l hl hn) (hpre.mem (by decide) rfl) ?_); conv => whnf)) | (with_reducible exact rfl) | ((with_reducible refine xif_kt (by with_reducible assumption) ?_); conv => whnf) | ((with_reducible refine xif_kf (by with_reducible assumption) ?_); conv => whnf) | (((with_reducible refine xif_s ?_ ?_) <;> (intro hb; (try simp (disch := omega) only [hbS] at hb))) <;> (conv => whnf)))
  refine Fin_pure rfl (B_eq ?_) trivial
  exact idxF_ge _ _
theorem comb1_x (e : EntT) : PureX Tryz.prog 108 [.a [I e.1, I e.2.1, I e.2.2.1, I e.2.2.2]] (B (!countB e)) := by
  refine PureX.of Tryz.func108 rfl tabOk rfl rfl rfl (by simp [SV.wfs, SV.wf]) (by simp [SV.wfs, SV.wf]) fun w => ?_
  (conv => whnf); repeat' (first | ((with_reducible refine isC ?_); first | ((with_reducible refine CallX_pure (PureD.pure (counted_d e)) ?_) <;> first | omega | (with_reducible show (_ : Int) ≤ _) | (with_reducible show (_ : Int) < _) | (with_reducible show (_ : Nat) ≤ _) | (with_reducible show (_ : Nat) < _) | (conv => whnf))) | (with_reducible exact rfl) | ((with_reducible refine xif_kt (by with_reducible assumption) ?_); conv => whnf) | ((with_reducible refine xif_kf (by with_reducible assumption) ?_); conv => whnf) | (((with_reducible refine xif_s ?_ ?_) <;> (intro hb; (try simp (disch := omega) only [hbS] at hb))) <;> (conv => whnf)))
  exact Fin_pure rfl rfl trivial

def addE (L : List EntT) (e : EntT) : List EntT := addT L e.cell e.2.2.1 e.2.2.2
def addF (f : Int) (L : List EntT) (e : EntT) : List EntT := addT L e.cell (f * e.2.2.1) (f * e.2.2.2)
def combL (f : Int) (a b : List EntT) : List EntT := b.foldl (addF f) (a.foldl addE [])
def combE (f : Int) (a b : List EntT) : List EntT × Int :=
  if vE a && vE b then
    if (lstF (combL f a b)).any fun e => !countB e then ([], 2)
    else if (lstF (combL f a b)).length > 1048576 then ([], 6) else (lstF (combL f a b), 0)
  else ([], 1)
structure OkC (k : Nat) (L : List EntT) : Prop where
  ne : neT L
  bd : ∀ e ∈ L, -(k * 1099511627776 : Int) ≤ e.2.2.1 ∧ e.2.2.1 ≤ k * 1099511627776 ∧ -(k * 1099511627776 : Int) ≤ e.2.2.2 ∧ e.2.2.2 ≤ k * 1099511627776
  len : L.length ≤ k
theorem OkC.nil : OkC 0 [] := ⟨by simp [neT], by simp, by simp⟩
theorem OkC.get {k : Nat} {L : List EntT} (h : OkC k L) (c : CellT) : -(k * 1099511627776 : Int) ≤ (getT L c).2.2.1 ∧ (getT L c).2.2.1 ≤ k * 1099511627776 ∧ -(k * 1099511627776 : Int) ≤ (getT L c).2.2.2 ∧ (getT L c).2.2.2 ≤ k * 1099511627776 := by
  rcases getT_mem (L := L) (c := c) with ⟨h1, _⟩ | ⟨h1, _⟩
  · exact h.bd _ h1
  · rw [h1]
    simp only [e0]
    omega
theorem OkC.add {k : Nat} {L : List EntT} (h : OkC k L) (c : CellT) (a p : Int) (ha : -1099511627776 ≤ a ∧ a ≤ 1099511627776) (hp : -1099511627776 ≤ p ∧ p ≤ 1099511627776) : OkC (k + 1) (addT L c a p) := by
  refine ⟨addT_ne h.ne c a p, fun e he => ?_, Nat.le_trans (setT_len _ _) (by have := h.len; omega)⟩
  have h1 := h.get c
  rcases mem_setT he with h2 | rfl
  · have := h.bd e h2
    omega
  · dsimp only
    omega
theorem ent_bd {l : List EntT} (h : vE l = true) {i : Nat} (hi : i < l.length) : (-1099511627776 ≤ (l.getD i e0).2.2.1 ∧ (l.getD i e0).2.2.1 ≤ 1099511627776) ∧ (-1099511627776 ≤ (l.getD i e0).2.2.2 ∧ (l.getD i e0).2.2.2 ≤ 1099511627776) := by
  have h1 := vE_at h hi
  simp only [okAt, goodB, countB, szB, Bool.and_eq_true, decide_eq_true_eq] at h1
  omega
theorem vE_length {l : List EntT} (h : vE l = true) : l.length ≤ 1048576 := by
  by_cases h' : l.length ≤ 1048576
  · exact h'
  · rw [vE_long h'] at h
    cases h
theorem comb_ok1 {a : List EntT} (ha : vE a = true) : ∀ j, j ≤ a.length → OkC j ((a.take j).foldl addE [])
  | 0, _ => by simpa using OkC.nil
  | j + 1, hj => by
    rw [fold_take (d := e0) _ _ (by omega)]
    obtain ⟨h1, h2⟩ := ent_bd ha (i := j) (by omega)
    exact (comb_ok1 ha j (by omega)).add _ _ _ h1 h2
theorem mul_f {f x : Int} (hf : f = 1 ∨ f = -1) (hx : -1099511627776 ≤ x ∧ x ≤ 1099511627776) : -1099511627776 ≤ f * x ∧ f * x ≤ 1099511627776 := by
  rcases hf with rfl | rfl <;> omega
theorem comb_ok2 {f : Int} (hf : f = 1 ∨ f = -1) {b L : List EntT} {k : Nat} (hb : vE b = true) (hL : OkC k L) : ∀ j, j ≤ b.length → OkC (k + j) ((b.take j).foldl (addF f) L)
  | 0, _ => by simpa using hL
  | j + 1, hj => by
    rw [fold_take (d := e0) _ _ (by omega)]
    obtain ⟨h1, h2⟩ := ent_bd hb (i := j) (by omega)
    exact (comb_ok2 hf hb hL j (by omega)).add _ _ _ (mul_f hf h1) (mul_f hf h2)
theorem OkC.room {k : Nat} {L : List EntT} (h : OkC k L) (hk : k ≤ 2097152) (c : CellT) {a p : Int} (ha : -1099511627776 ≤ a ∧ a ≤ 1099511627776) (hp : -1099511627776 ≤ p ∧ p ≤ 1099511627776) :
    (-4611686018427387904 ≤ (getT L c).2.2.1 + a ∧ (getT L c).2.2.1 + a ≤ 4611686018427387904) ∧ (-4611686018427387904 ≤ (getT L c).2.2.2 + p ∧ (getT L c).2.2.2 + p ≤ 4611686018427387904) := by
  have := h.get c
  omega
set_option maxHeartbeats 4000000 in
theorem combine_m (f : Int) (hf : f = 1 ∨ f = -1) (A1 A2 : Option Addr) (c1 c2 : Nat) (a b : List EntT) {n m : Nat} (ha : a.length = n) (hb0 : b.length = m) (hn : n ≤ maxLen) (hm : m ≤ maxLen) :
    CallM Tryz.prog 75 [.v (.slice A1 n c1), .v (.slice A2 m c2), I f] (fun w M => ArgN w M A1 n 4 (a.map encE) ∧ ArgN w M A2 m 4 (b.map encE)) []
      (fun q : Option Addr × Nat => .t [.v (.slice q.1 (combE f a b).1.length q.2), I (combE f a b).2]) (fun q => [.row 81 4 q.1 (combE f a b).1.length q.2 ((combE f a b).1.map encE)]) := by
  have hn' := hn
  have hm' := hm
  unfold maxLen at hn' hm'
  refine CallM.of (m := 0) Tryz.func75 rfl tabOk rfl rfl rfl rfl (by simp [SV.wfs, SV.wf]) fun w M π hpre => ?_
  obtain ⟨hp1, hp2⟩ := hpre
  cases hva : vE a with
  | false =>
    have e : combE f a b = ([], 1) := by unfold combE; rw [hva]; rfl
    rw [e]
    (conv => whnf); repeat' (first | ((with_reducible refine isC ?_); first | ((with_reducible refine isF 106 ?_); (refine CallX_v (Valid_v A1 c1 a ha hn) (ArgN.mem hp1 (by decide)) ?_; rw [hva]); conv => whnf)) | ((with_reducible refine isW ?_); first | ((with_reducible refine xwr_ok (by omega) (by omega) ?_); conv => whnf) | ((with_reducible refine xwr_raw ?_); conv => whnf)) | (with_reducible exact rfl) | ((with_reducible refine xif_kt (by with_reducible assumption) ?_); conv => whnf) | ((with_reducible refine xif_kf (by with_reducible assumption) ?_); conv => whnf) | (((with_reducible refine xif_s ?_ ?_) <;> (intro hb; (try simp (disch := omega) only [hbS] at hb))) <;> (conv => whnf)))
    refine Fin_addNil 81 4 ?_
    exact Fin_m (none, 0) [0] ⟨rfl, by simp [SV.wf, SV.wfs]⟩ ⟨⟨rfl, rfl, rfl, rfl, rfl, rfl⟩, trivial⟩ (by decide) rfl
  | true =>
  cases hvb : vE b with
  | false =>
    have e : combE f a b = ([], 1) := by unfold combE; rw [hva, hvb]; rfl
    rw [e]
    (conv => whnf); repeat' (first | ((with_reducible refine isC ?_); first | ((with_reducible refine isF 106 ?_); (first | ((with_reducible refine CallX_v (Valid_v A1 c1 a ha hn) ?_ ?_); (focus (exact ArgN.mem hp1 (by decide))); rw [hva]) | ((with_reducible refine CallX_v (Valid_v A2 c2 b hb0 hm) ?_ ?_); (focus (exact ArgN.mem hp2 (by decide))); rw [hvb])); conv => whnf)) | ((with_reducible refine isW ?_); first | ((with_reducible refine xwr_ok (by omega) (by omega) ?_); conv => whnf) | ((with_reducible refine xwr_raw ?_); conv => whnf)) | (with_reducible exact rfl) | ((with_reducible refine xif_kt (by with_reducible assumption) ?_); conv => whnf) | ((with_reducible refine xif_kf (by with_reducible assumption) ?_); conv => whnf) | (((with_reducible refine xif_s ?_ ?_) <;> (intro hb; (try simp (disch := omega) only [hbS] at hb))) <;> (conv => whnf)))
    refine Fin_addNil 81 4 ?_
    exact Fin_m (none, 0) [0] ⟨rfl, by simp [SV.wf, SV.wfs]⟩ ⟨⟨rfl, rfl, rfl, rfl, rfl, rfl⟩, trivial⟩ (by decide) rfl
  | true =>
    have ok1 := comb_ok1 hva
    have ok2 := comb_ok2 hf hvb (ok1 a.length (Nat.le_refl _))
    have la := vE_length hva
    have lb := vE_length hvb
    rw [List.take_length] at ok2
    (conv => whnf); repeat' (first | ((with_reducible refine isC ?_); first | ((with_reducible refine isF 106 ?_); (first | ((with_reducible refine CallX_v (Valid_v A1 c1 a ha hn) ?_ ?_); (focus (exact ArgN.mem hp1 (by decide))); rw [hva]) | ((with_reducible refine CallX_v (Valid_v A2 c2 b hb0 hm) ?_ ?_); (focus (exact ArgN.mem hp2 (by decide))); rw [hvb])); conv => whnf)) | ((with_reducible refine isO ?_); first | (refine OpX_makeT rfl ?_; intro bm; conv => whnf)) | ((with_reducible refine isW ?_); first | ((with_reducible refine xwr_ok (by omega) (by omega) ?_); conv => whnf) | ((with_reducible refine xwr_raw ?_); conv => whnf)) | (with_reducible exact rfl) | ((with_reducible refine xif_kt (by with_reducible assumption) ?_); conv => whnf) | ((with_reducible refine xif_kf (by with_reducible assumption) ?_); conv => whnf) | (((with_reducible refine xif_s ?_ ?_) <;> (intro hb; (try simp (disch := omega) only [hbS] at hb))) <;> (conv => whnf)))
    have hcomb : combE f a b = if (lstF (combL f a b)).any fun e => !countB e then ([], 2) else if (lstF (combL f a b)).length > 1048576 then ([], 6) else (lstF (combL f a b), 0) := by
      unfold combE
      rw [hva, hvb]
      rfl
    unfold combL at hcomb
    generalize hL0 : a.foldl addE [] = L0 at ok2 hcomb
    refine LoopX_inv tabOk (α := Nat) (fun k => k ≤ n) (fun k => [(0, .v (.slice A1 n c1)), (1, .v (.slice A2 m c2)), (2, I f), (8, .v (.map (some bm))), (23, .v (.slice A1 n c1)), (24, I n), (25, I k)])
      (fun k => [talO bm ((a.take k).foldl addE [])]) (fun k => n - k) 0 [0] (Nat.zero_le _) ?_ ?_
    · ((refine ⟨?_, ?_, ?_, ?_⟩) <;> (repeat' ((conv => whnf); apply And.intro)) <;> (try (first | exact trivial | decide)))
      all_goals first | rfl | exact fun _ _ h => h | (simp [SV.wf, SV.wfs]; done) | trace_state
    · intro k hk
      by_cases hlt : k < n
      · have hok := ok1 k (by omega)
        obtain ⟨b1, b2⟩ := ent_bd hva (i := k) (by omega)
        have hst := fold_take addE [] (d := e0) (l := a) (j := k) (by omega)
        have hr := hok.room (by omega) (a.getD k e0).cell b1 b2
        dsimp only
        generalize (a.take k).foldl addE [] = L at *
        have hadd := add_m bm L (a.getD k e0).cell (a.getD k e0).2.2.1 (a.getD k e0).2.2.2 hr.1 hr.2
        (conv => whnf); repeat' (first | ((with_reducible refine isC ?_); first | ((with_reducible refine isF 68 ?_); (refine CallX_m hadd [0] rfl ⟨fun _ _ h => h, trivial⟩ (by decide) (fun _ _ _ _ => trivial) ?_; intro u); conv => whnf)) | ((with_reducible refine isV ?_); first | ((refine ValX_index tabOk rfl (ArgN.mem hp1 (by decide)) rfl ?_ ?_ ?_) <;> first | omega | (with_reducible show (_ : Int) ≤ _) | (with_reducible show (_ : Int) < _) | (with_reducible show (_ : Nat) ≤ _) | (with_reducible show (_ : Nat) < _) | (conv => whnf)) | ((with_reducible refine nat_idx ?_); (refine ValX_loadEn _ _ (e0) tabOk rfl rfl rfl rfl (ArgN.mem hp1 (by decide)) ?_ ?_ ?_) <;> first | rfl | omega | (with_reducible show (_ : Int) ≤ _) | (with_reducible show (_ : Int) < _) | (with_reducible show (_ : Nat) ≤ _) | (with_reducible show (_ : Nat) < _) | (conv => whnf)) | ((refine ValX_loadE _ _ (e0) tabOk rfl rfl rfl rfl (ArgN.mem hp1 (by decide)) ?_ ?_ ?_) <;> first | rfl | omega | (with_reducible show (_ : Int) ≤ _) | (with_reducible show (_ : Int) < _) | (with_reducible show (_ : Nat) ≤ _) | (with_reducible show (_ : Nat) < _) | (conv => whnf))) | ((with_reducible refine isW ?_); first | ((with_reducible refine xwr_ok (by omega) (by omega) ?_); conv => whnf) | ((with_reducible refine xwr_raw ?_); conv => whnf)) | (with_reducible exact rfl) | ((with_reducible refine xif_kt (by with_reducible assumption) ?_); conv => whnf) | ((with_reducible refine xif_kf (by with_reducible assumption) ?_); conv => whnf) | (((with_reducible refine xif_s ?_ ?_) <;> (intro hb; (try simp (disch := omega) only [hbS] at hb))) <;> (conv => whnf)))
        all_goals try (exfalso; omega)
        refine ⟨k + 1, [0], by omega, ?_, by (try dsimp only); omega⟩
        dsimp only
        rw [hst]
        ((refine ⟨?_, ?_, ?_, ?_⟩) <;> (repeat' ((conv => whnf); apply And.intro)) <;> (try (first | exact trivial | decide)))
        all_goals first | rfl | exact fun _ _ h => h | (simp [SV.wf, SV.wfs]; done) | trace_state
      · obtain rfl : k = n := by omega
        rw [← ha, List.take_length, hL0, ha]
        clear ok1 hL0
        (conv => whnf); repeat' (first | ((with_reducible refine isW ?_); first | ((with_reducible refine xwr_ok (by omega) (by omega) ?_); conv => whnf) | ((with_reducible refine xwr_raw ?_); conv => whnf)) | (with_reducible exact rfl) | ((with_reducible refine xif_kt (by with_reducible assumption) ?_); conv => whnf) | ((with_reducible refine xif_kf (by with_reducible assumption) ?_); conv => whnf) | (((with_reducible refine xif_s ?_ ?_) <;> (intro hb; (try simp (disch := omega) only [hbS] at hb))) <;> (conv => whnf)))
        all_goals try (exfalso; omega)
        refine LoopX_inv tabOk (α := Nat) (fun j => j ≤ m) (fun j => [(2, I f), (8, .v (.map (some bm))), (38, .v (.slice A2 m c2)), (39, I m), (40, I j)])
          (fun j => [talO bm ((b.take j).foldl (addF f) L0)]) (fun j => m - j) 0 [0] (Nat.zero_le _) ?_ ?_
        · ((refine ⟨?_, ?_, ?_, ?_⟩) <;> (repeat' ((conv => whnf); apply And.intro)) <;> (try (first | exact trivial | decide)))
          all_goals first | rfl | exact fun _ _ h => h | (simp [SV.wf, SV.wfs]; done) | trace_state
        · intro j hj
          by_cases hjl : j < m
          · have hok := ok2 j (by omega)
            obtain ⟨b1, b2⟩ := ent_bd hvb (i := j) (by omega)
            have b1' := mul_f hf b1
            have b2' := mul_f hf b2
            have hst := fold_take (addF f) L0 (d := e0) (l := b) (j := j) (by omega)
            have hr := hok.room (by omega) (b.getD j e0).cell b1' b2'
            dsimp only
            generalize (b.take j).foldl (addF f) L0 = L at *
            have hadd := add_m bm L (b.getD j e0).cell (f * (b.getD j e0).2.2.1) (f * (b.getD j e0).2.2.2) hr.1 hr.2
            (conv => whnf); repeat' (first | ((with_reducible refine isC ?_); first | ((with_reducible refine isF 68 ?_); (refine CallX_m hadd [0] rfl ⟨fun _ _ h => h, trivial⟩ (by decide) (fun _ _ _ _ => trivial) ?_; intro u); conv => whnf)) | ((with_reducible refine isV ?_); first | ((refine ValX_index tabOk rfl (ArgN.mem hp2 (by decide)) rfl ?_ ?_ ?_) <;> first | omega | (with_reducible show (_ : Int) ≤ _) | (with_reducible show (_ : Int) < _) | (with_reducible show (_ : Nat) ≤ _) | (with_reducible show (_ : Nat) < _) | (conv => whnf)) | ((with_reducible refine nat_idx ?_); (refine ValX_loadEn _ _ (e0) tabOk rfl rfl rfl rfl (ArgN.mem hp2 (by decide)) ?_ ?_ ?_) <;> first | rfl | omega | (with_reducible show (_ : Int) ≤ _) | (with_reducible show (_ : Int) < _) | (with_reducible show (_ : Nat) ≤ _) | (with_reducible show (_ : Nat) < _) | (conv => whnf)) | ((refine ValX_loadE _ _ (e0) tabOk rfl rfl rfl rfl (ArgN.mem hp2 (by decide)) ?_ ?_ ?_) <;> first | rfl | omega | (with_reducible show (_ : Int) ≤ _) | (with_reducible show (_ : Int) < _) | (with_reducible show (_ : Nat) ≤ _) | (with_reducible show (_ : Nat) < _) | (conv => whnf))) | ((with_reducible refine isW ?_); first | ((with_reducible refine xwr_ok (by omega) (by omega) ?_); conv => whnf) | ((with_reducible refine xwr_raw ?_); conv => whnf)) | (with_reducible exact rfl) | ((with_reducible refine xif_kt (by with_reducible assumption) ?_); conv => whnf) | ((with_reducible refine xif_kf (by with_reducible assumption) ?_); conv => whnf) | (((with_reducible refine xif_s ?_ ?_) <;> (intro hb; (try simp (disch := omega) only [hbS] at hb))) <;> (conv => whnf)))
            all_goals try (exfalso; omega)
            refine ⟨j + 1, [0], by omega, ?_, by (try dsimp only); omega⟩
            dsimp only
            rw [hst]
            ((refine ⟨?_, ?_, ?_, ?_⟩) <;> (repeat' ((conv => whnf); apply And.intro)) <;> (try (first | exact trivial | decide)))
            all_goals first | rfl | exact fun _ _ h => h | (simp [SV.wf, SV.wfs]; done) | trace_state
          · obtain rfl : j = m := by omega
            have hok := ok2 b.length (Nat.le_refl _)
            rw [List.take_length] at hok
            rw [← hb0, List.take_length, hb0]
            rw [hcomb]
            clear ok2 hcomb
            generalize b.foldl (addF f) L0 = L at *
            have hll := hok.len
            have hlst := lstF_list hok.ne
            have hle : (lstF L).length ≤ 1000000000 := by
              have h1 := hlst.1.length_eq
              have h2 := List.length_filter_le (fun e => !zeroE e) L
              omega
            generalize hO : lstF L = O at *
            have hun : ∀ ys, IsList L ys → ys = O := fun ys h => h.unique hlst
            (conv => whnf); repeat' (first | ((with_reducible refine isC ?_); first | ((with_reducible refine isF 69 ?_); (refine CallX_m (list_m bm L hok.ne (by omega)) [0] rfl ⟨fun _ _ h => h, trivial⟩ (by decide) (fun _ _ _ _ => trivial) ?_; intro q; obtain ⟨⟨A3, c3, ys⟩, hy⟩ := q; dsimp only at hy ⊢; obtain rfl := hun ys hy); conv => whnf) | ((with_reducible refine isF 107 ?_); (refine CallX_w (ContainsFuncE_w 108 (fun e => !countB e) comb1_x A3 c3 ys rfl hle) (ArgSl.row 1 rfl) ?_); conv => whnf)) | ((with_reducible refine isW ?_); first | ((with_reducible refine xwr_ok (by omega) (by omega) ?_); conv => whnf) | ((with_reducible refine xwr_raw ?_); conv => whnf)) | (with_reducible exact rfl) | ((with_reducible refine xif_kt (by with_reducible assumption) ?_); conv => whnf) | ((with_reducible refine xif_kf (by with_reducible assumption) ?_); conv => whnf) | (((with_reducible refine xif_s ?_ ?_) <;> (intro hb; (try simp (disch := omega) only [hbS] at hb))) <;> (conv => whnf)))
            all_goals try (exfalso; omega)
            · rw [if_pos hb]
              refine Fin_addNil 81 4 ?_
              exact Fin_m (none, 0) [2] ⟨rfl, by simp [SV.wf, SV.wfs]⟩ ⟨⟨rfl, rfl, rfl, rfl, rfl, rfl⟩, trivial⟩ (by decide) rfl
            · rename_i h1
              rw [if_neg (by rw [h1]; simp), if_pos (by omega)]
              refine Fin_addNil 81 4 ?_
              exact Fin_m (none, 0) [2] ⟨rfl, by simp [SV.wf, SV.wfs]⟩ ⟨⟨rfl, rfl, rfl, rfl, rfl, rfl⟩, trivial⟩ (by decide) rfl
            · rename_i h1
              rw [if_neg (by rw [h1]; simp), if_neg (by omega)]
              exact Fin_m (A3, c3) [1] ⟨rfl, by simp [SV.wf, SV.wfs]⟩ ⟨⟨rfl, rfl, rfl, rfl, rfl, rfl⟩, trivial⟩ (by decide) rfl
theorem Add_m (A1 A2 : Option Addr) (c1 c2 : Nat) (a b : List EntT) {n m : Nat} (ha : a.length = n) (hb0 : b.length = m) (hn : n ≤ maxLen) (hm : m ≤ maxLen) :
    CallM Tryz.prog 45 [.v (.slice A1 n c1), .v (.slice A2 m c2)] (fun w M => ArgN w M A1 n 4 (a.map encE) ∧ ArgN w M A2 m 4 (b.map encE)) []
      (fun q : Option Addr × Nat => .t [.v (.slice q.1 (combE 1 a b).1.length q.2), I (combE 1 a b).2]) (fun q => [.row 81 4 q.1 (combE 1 a b).1.length q.2 ((combE 1 a b).1.map encE)]) := by
  have hc := combine_m 1 (.inl rfl) A1 A2 c1 c2 a b ha hb0 hn hm
  generalize combE 1 a b = r at *
  refine CallM.of (m := 0) Tryz.func45 rfl tabOk rfl rfl rfl rfl (by simp [SV.wfs, SV.wf]) fun w M π hpre => ?_
  obtain ⟨hp1, hp2⟩ := hpre
  (conv => whnf); repeat' (first | (with_reducible exact rfl) | ((with_reducible refine xif_kt (by with_reducible assumption) ?_); conv => whnf) | ((with_reducible refine xif_kf (by with_reducible assumption) ?_); conv => whnf) | (((with_reducible refine xif_s ?_ ?_) <;> (intro hb; (try simp (disch := omega) only [hbS] at hb))) <;> (conv => whnf)))
  refine CallX_m hc [] rfl trivial (by decide) (fun σ fp w hm => ⟨ArgN.on hp1 (by decide) (m := 0) (fun j hj => by omega) σ fp w hm, ArgN.on hp2 (by decide) (m := 0) (fun j hj => by omega) σ fp w hm⟩) ?_
  intro q
  (conv => whnf); repeat' (first | (with_reducible exact rfl) | ((with_reducible refine xif_kt (by with_reducible assumption) ?_); conv => whnf) | ((with_reducible refine xif_kf (by with_reducible assumption) ?_); conv => whnf) | (((with_reducible refine xif_s ?_ ?_) <;> (intro hb; (try simp (disch := omega) only [hbS] at hb))) <;> (conv => whnf)))
  exact Fin_m q [0] ⟨rfl, by simp [SV.wf, SV.wfs]⟩ ⟨⟨rfl, rfl, rfl, rfl, rfl, rfl⟩, trivial⟩ (by decide) rfl

/-! ### plain -/
theorem valT_none {L : List EntT} {c : CellT} (h : ∀ e ∈ L, e.cell ≠ c) : valT L c = (0, 0) := by
  rcases getT_mem (L := L) (c := c) with ⟨h1, h2⟩ | ⟨h1, _⟩
  · exact (h _ h1 h2).elim
  · unfold valT
    rw [h1]
    rfl
theorem valT_cons {e : EntT} {l : List EntT} (h : neT (e :: l)) (c : CellT) : valT (e :: l) c = if e.cell = c then (e.2.2.1, e.2.2.2) else valT l c := by
  split
  · rename_i hc
    subst hc
    exact mem_val h (by simp)
  · rename_i hc
    unfold neT at h
    rw [List.pairwise_cons] at h
    rcases getT_mem (L := l) (c := c) with ⟨h1, h2⟩ | ⟨h1, h2⟩
    · have h3 := mem_val (L := e :: l) (by unfold neT; rw [List.pairwise_cons]; exact h) (List.mem_cons_of_mem e h1)
      rw [h2] at h3
      rw [h3]
      rfl
    · rw [valT_none (L := e :: l) (fun x hx => by
        rcases List.mem_cons.1 hx with rfl | hx
        · exact hc
        · exact h2 x hx)]
      unfold valT
      rw [h1]
      rfl
theorem neT_tail {e : EntT} {l : List EntT} (h : neT (e :: l)) : neT l ∧ ∀ x ∈ l, x.cell ≠ e.cell := by
  unfold neT at *
  rw [List.pairwise_cons] at h
  exact ⟨h.2, fun x hx e' => h.1 x hx e'.symm⟩
theorem val_addF (f : Int) (c : CellT) : ∀ (b : List EntT) (L : List EntT), neT b → neT L → neT (b.foldl (addF f) L) ∧ valT (b.foldl (addF f) L) c = ((valT L c).1 + f * (valT b c).1, (valT L c).2 + f * (valT b c).2)
  | [], L, _, hL => by
    refine ⟨hL, ?_⟩
    rw [valT_none (L := []) (by simp)]
    simp
  | e :: b, L, hb, hL => by
    obtain ⟨h1, h2⟩ := neT_tail hb
    have hL' : neT (addF f L e) := addT_ne hL _ _ _
    obtain ⟨h3, h4⟩ := val_addF f c b (addF f L e) h1 hL'
    refine ⟨h3, ?_⟩
    rw [List.foldl_cons, h4, valT_cons hb]
    unfold addF
    rw [valT_add hL]
    split
    · rename_i hc
      rw [valT_none (L := b) (fun x hx => by rw [← hc]; exact h2 x hx)]
      rw [hc]
      simp
    · rfl
theorem val_addE (c : CellT) (b : List EntT) (L : List EntT) (hb : neT b) (hL : neT L) : neT (b.foldl addE L) ∧ valT (b.foldl addE L) c = ((valT L c).1 + (valT b c).1, (valT L c).2 + (valT b c).2) := by
  have e : b.foldl addE L = b.foldl (addF 1) L := by
    congr 1
    funext L e
    simp [addE, addF]
  rw [e]
  obtain ⟨h1, h2⟩ := val_addF 1 c b L hb hL
  refine ⟨h1, h2.trans ?_⟩
  simp
/-- the sum of two lists at a cell -/
def sumV (f : Int) (a b : List EntT) (c : CellT) : Int × Int := ((valT a c).1 + f * (valT b c).1, (valT a c).2 + f * (valT b c).2)
theorem val_comb (f : Int) {a b : List EntT} (ha : vE a = true) (hb : vE b = true) (c : CellT) : neT (combL f a b) ∧ valT (combL f a b) c = sumV f a b c := by
  have na := asc_ne (vE_pairwise ha)
  have nb := asc_ne (vE_pairwise hb)
  obtain ⟨h1, h2⟩ := val_addE c a [] na (by simp [neT])
  obtain ⟨h3, h4⟩ := val_addF f c b (a.foldl addE []) nb h1
  refine ⟨h3, ?_⟩
  unfold combL sumV
  rw [h4, h2, valT_none (L := []) (by simp)]
  simp
theorem rep_comb (f : Int) {a b : List EntT} (ha : vE a = true) (hb : vE b = true) : Rep (sumV f a b) (lstF (combL f a b)) :=
  (rep_lst (val_comb f ha hb (0, 0)).1).congr fun c => (val_comb f ha hb c).2
end Go.Proofs.YtodaijlclbngbaaGreat.En

namespace Go.Proofs.YtodaijlclbngbaaGreat.En
open Go.RowKit

theorem comb_def {f : Int} {a b : List EntT} (ha : vE a = true) (hb : vE b = true) :
    combE f a b = if (lstF (combL f a b)).any fun e => !countB e then ([], 2) else if (lstF (combL f a b)).length > 1048576 then ([], 6) else (lstF (combL f a b), 0) := by
  unfold combE
  rw [ha, hb]
  rfl
theorem comb_len (f : Int) (a b : List EntT) : (combE f a b).1.length ≤ 1048576 := by
  unfold combE
  split
  · split
    · simp
    · split
      · simp
      · dsimp only
        omega
  · simp
theorem comb_code {f : Int} {a b : List EntT} (h : (combE f a b).2 = 0) : vE a = true ∧ vE b = true ∧ (combE f a b).1 = lstF (combL f a b) ∧ (∀ e ∈ lstF (combL f a b), countB e = true) ∧ (lstF (combL f a b)).length ≤ 1048576 := by
  unfold combE at h ⊢
  split at h
  · rename_i h1
    rw [Bool.and_eq_true] at h1
    rw [if_pos (by rw [h1.1, h1.2]; rfl)]
    split at h
    · cases h
    · rename_i h2
      split at h
      · cases h
      · rename_i h3
        rw [if_neg h2, if_neg h3]
        refine ⟨h1.1, h1.2, rfl, fun e he => ?_, by omega⟩
        cases hc : countB e with
        | true => rfl
        | false => exact (h2 (List.any_eq_true.2 ⟨e, he, by simp [hc]⟩)).elim
  · cases h
theorem comb_bad {f : Int} {a b : List EntT} (h : (combE f a b).2 ≠ 0) : (combE f a b).1 = [] := by
  unfold combE at h ⊢
  split
  · rename_i h1
    rw [if_pos h1] at h
    split
    · rfl
    · rename_i h2
      rw [if_neg h2] at h
      split
      · rfl
      · rename_i h3
        rw [if_neg h3] at h
        exact (h rfl).elim
  · rfl
theorem comb_rep {f : Int} {a b : List EntT} (h : (combE f a b).2 = 0) : Rep (sumV f a b) (combE f a b).1 := by
  obtain ⟨h1, h2, h3, _⟩ := comb_code h
  rw [h3]
  exact rep_comb f h1 h2
theorem cell_lim {l : List EntT} (h : vE l = true) {c : CellT} (hc : valT l c ≠ (0, 0)) : szB c.1 16384 = true ∧ szB c.2 16384 = true := by
  rcases getT_mem (L := l) (c := c) with ⟨h1, h2⟩ | ⟨h1, _⟩
  · have := vE_good h h1
    simp only [goodB, Bool.and_eq_true] at this
    rw [← h2]
    exact ⟨this.1.2, this.2⟩
  · exact (hc (by unfold valT; rw [h1]; rfl)).elim
/-- what comes out is valid -/
theorem comb_vE {f : Int} {a b : List EntT} (h : (combE f a b).2 = 0) : vE (combE f a b).1 = true := by
  have hr := comb_rep h
  obtain ⟨h1, h2, h3, h4, h5⟩ := comb_code h
  refine asc_vE hr.1 (fun e he => ?_) (by rw [h3]; exact h5)
  have hcnt := h4 e (by rw [← h3]; exact he)
  obtain ⟨hz, hv⟩ := (hr.2 e).1 he
  have hlim : szB e.cell.1 16384 = true ∧ szB e.cell.2 16384 = true := by
    by_cases ha : valT a e.cell = (0, 0)
    · by_cases hb : valT b e.cell = (0, 0)
      · unfold sumV at hv
        rw [ha, hb] at hv
        simp at hv
        simp [zeroE, ← hv.1, ← hv.2] at hz
      · exact cell_lim h2 hb
    · exact cell_lim h1 ha
  have e1 : szB e.1 16384 = true := hlim.1
  have e2 : szB e.2.1 16384 = true := hlim.2
  simp only [zeroE] at hz
  simp only [goodB, hcnt, hz, e1, e2]
  rfl
theorem comb_val {f : Int} {a b : List EntT} (h : (combE f a b).2 = 0) (c : CellT) : valT (combE f a b).1 c = sumV f a b c := (comb_rep h).val c
theorem comb_sym (a b : List EntT) : combE 1 a b = combE 1 b a := by
  cases ha : vE a with
  | false => unfold combE; rw [ha]; simp
  | true =>
    cases hb : vE b with
    | false => unfold combE; rw [hb]; simp
    | true =>
      have e : lstF (combL 1 a b) = lstF (combL 1 b a) := (rep_comb 1 ha hb).unique (rep_comb 1 hb ha) fun c => by
        unfold sumV
        simp only [Int.one_mul]
        rw [Int.add_comm (valT a c).1, Int.add_comm (valT a c).2]
      rw [comb_def ha hb, comb_def hb ha, e]
theorem comb_assoc {a b c : List EntT} (h1 : (combE 1 a b).2 = 0) (h2 : (combE 1 b c).2 = 0) (h3 : (combE 1 (combE 1 a b).1 c).2 = 0) (h4 : (combE 1 a (combE 1 b c).1).2 = 0) :
    (combE 1 (combE 1 a b).1 c).1 = (combE 1 a (combE 1 b c).1).1 := by
  refine (comb_rep h3).unique (comb_rep h4) fun x => ?_
  unfold sumV
  rw [comb_val h1, comb_val h2]
  unfold sumV
  simp only [Int.one_mul]
  refine Prod.ext ?_ ?_ <;> (dsimp only; omega)
theorem vE_nil : vE [] = true := by decide
theorem comb_of_rep {f : Int} {a b l : List EntT} (ha : vE a = true) (hb : vE b = true) (hl : vE l = true) (h : ∀ c, sumV f a b c = valT l c) : combE f a b = (l, 0) := by
  have e : lstF (combL f a b) = l := (rep_comb f ha hb).unique (rep_vE hl) h
  rw [comb_def ha hb, e]
  have h1 : (l.any fun e => !countB e) = false := by
    rw [List.any_eq_false]
    intro x hx
    have := vE_good hl hx
    simp only [goodB, Bool.and_eq_true] at this
    simp [this.1.1.1]
  rw [h1, if_neg (by simp), if_neg (by have := vE_length hl; omega)]
theorem comb_nil {a : List EntT} (ha : vE a = true) : combE 1 a [] = (a, 0) := by
  refine comb_of_rep ha vE_nil ha fun c => ?_
  unfold sumV
  rw [valT_none (L := []) (by simp)]
  simp
theorem comb_inv {f : Int} {a b : List EntT} (h : vE a = false) : combE f a b = ([], 1) := by
  unfold combE
  rw [h]
  rfl
/-- subtracting what was added -/
theorem comb_back {a b : List EntT} (h : (combE 1 a b).2 = 0) : combE (-1) (combE 1 a b).1 b = (a, 0) := by
  obtain ⟨ha, hb, _⟩ := comb_code h
  refine comb_of_rep (comb_vE h) hb ha fun c => ?_
  unfold sumV
  rw [comb_val h]
  unfold sumV
  refine Prod.ext ?_ ?_ <;> (dsimp only; omega)
theorem comb_self {a : List EntT} (ha : vE a = true) : combE (-1) a a = ([], 0) := by
  refine comb_of_rep ha ha vE_nil fun c => ?_
  unfold sumV
  rw [valT_none (L := []) (by simp)]
  refine Prod.ext ?_ ?_ <;> (dsimp only; omega)
/-- the negative of a list -/
def negL (a : List EntT) : List EntT := a.map fun e => (e.1, e.2.1, -e.2.2.1, -e.2.2.2)
theorem neg_vE {a : List EntT} (ha : vE a = true) : vE (negL a) = true ∧ ∀ c, valT (negL a) c = (-(valT a c).1, -(valT a c).2) := by
  have hasc := vE_pairwise ha
  have hasc' : asc (negL a) := by
    unfold asc negL
    rw [List.pairwise_map]
    exact hasc
  have hv : vE (negL a) = true := by
    refine asc_vE hasc' (fun e he => ?_) (by unfold negL; rw [List.length_map]; exact vE_length ha)
    obtain ⟨x, hx, rfl⟩ := List.mem_map.1 he
    have := vE_good ha hx
    simp only [goodB, countB, szB, Bool.and_eq_true, decide_eq_true_eq, Bool.not_eq_true', Bool.and_eq_false_iff, decide_eq_false_iff_not] at this ⊢
    omega
  refine ⟨hv, fun c => ?_⟩
  rcases getT_mem (L := a) (c := c) with ⟨h1, h2⟩ | ⟨h1, h2⟩
  · have h3 : ((getT a c).1, (getT a c).2.1, -(getT a c).2.2.1, -(getT a c).2.2.2) ∈ negL a := List.mem_map_of_mem (f := fun e : EntT => (e.1, e.2.1, -e.2.2.1, -e.2.2.2)) h1
    have h4 := mem_val (asc_ne hasc') h3
    have h5 : EntT.cell ((getT a c).1, (getT a c).2.1, -(getT a c).2.2.1, -(getT a c).2.2.2) = c := h2
    rw [h5] at h4
    exact h4
  · rw [valT_none h2, valT_none (L := negL a) (fun x hx => by
      obtain ⟨y, hy, rfl⟩ := List.mem_map.1 hx
      exact h2 y hy)]
    rfl
/-- b less a + b is the negative of a -/
theorem comb_less {a b : List EntT} (h : (combE 1 a b).2 = 0) : combE (-1) b (combE 1 a b).1 = (negL a, 0) := by
  obtain ⟨ha, hb, _⟩ := comb_code h
  obtain ⟨n1, n2⟩ := neg_vE ha
  refine comb_of_rep hb (comb_vE h) n1 fun c => ?_
  rw [n2]
  unfold sumV
  rw [comb_val h]
  unfold sumV
  refine Prod.ext ?_ ?_ <;> (dsimp only; omega)
theorem comb_neg {a : List EntT} (ha : vE a = true) : combE 1 (negL a) a = ([], 0) := by
  obtain ⟨n1, n2⟩ := neg_vE ha
  refine comb_of_rep n1 ha vE_nil fun c => ?_
  unfold sumV
  rw [n2, valT_none (L := []) (by simp)]
  refine Prod.ext ?_ ?_ <;> (dsimp only; omega)
theorem negL_len (a : List EntT) : (negL a).length = a.length := by simp [negL]
end Go.Proofs.YtodaijlclbngbaaGreat.En
