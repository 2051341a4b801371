/- The walk of AtlasWithdraws. -/
import Derived.Test.YtodaijlclbngbaaAj
import Derived.Test.YtodaijlclbngbaaAm
import Derived.Test.YtodaijlclbngbaaLwAo
set_option linter.all false
namespace Go.Proofs.Ytodaijlclbngbaa.En
open Go.RowKit
set_option maxRecDepth 100000

def pG : PlT := (1073741824, true, 0, 0, 0)
theorem top_gone {a : AtT} (h : goodA a) (k : Int) : mxO keyP (a.2 k) pG = some pG := by
  cases hp : a.2 k with
  | none => rfl
  | some p =>
    have hv := ((h k).2 p hp).1
    obtain ⟨v, g, x, y, hh⟩ := p
    have hkey : 0 < lexC (keyP pG) (keyP (v, g, x, y, hh)) ∨ (v, g, x, y, hh) = pG := by
      cases g with
      | true =>
        simp only [vPl, if_true, Bool.and_eq_true, decide_eq_true_eq] at hv
        obtain ⟨⟨h1, h2⟩, ⟨rfl, rfl⟩, rfl⟩ := hv
        by_cases he : v = 1073741824
        · subst he
          exact .inr rfl
        · left
          unfold pG keyP
          simp only [lexC]
          rw [if_neg (by rw [cmpI_zero]; omega)]
          exact cmpI_pos.2 (by omega)
      | false =>
        simp only [vPl, Bool.and_eq_true, decide_eq_true_eq] at hv
        left
        unfold pG keyP
        simp only [lexC]
        by_cases he : v = 1073741824
        · subst he
          rw [if_pos (cmpI_zero.2 rfl), if_neg (by simp [cmpI])]
          simp [cmpI]
        · rw [if_neg (by rw [cmpI_zero]; omega)]
          exact cmpI_pos.2 (by omega)
    unfold mxO
    dsimp only
    rcases hkey with h1 | h1
    · rw [if_pos h1]
    · rw [h1, lexC_self, if_neg (by omega)]
theorem good_upd {m : List (Int × SlT)} {q q' : List (Int × PlT)} {k : Int} (h : goodA (absM (m, q))) (hk : vId k = true) (h2 : lkI q' = updF (lkI q) k (some pG)) : goodA (absM (m, q')) := by
  intro i
  refine ⟨(h i).1, fun p hp => ?_⟩
  have hp' : lkI q' i = some p := hp
  rw [h2] at hp'
  unfold updF at hp'
  by_cases hi : i = k
  · rw [if_pos hi] at hp'
    cases hp'
    rw [hi]
    exact ⟨by decide, hk⟩
  · rw [if_neg hi] at hp'
    exact (h i).2 p hp'
theorem part_gone {m : List (Int × SlT)} {q : List (Int × PlT)} {k : Int} (h : lkI q k = some pG) : partA (absM (m, q)) k = [] := by
  unfold partA absM
  dsimp only
  rw [h]
  cases semS m k <;> rfl
theorem comb_nn : combE 1 [] [] = ([], 0) := by decide +kernel
theorem map_gone {a : AtT} : ∀ ids : List Int, (∀ k ∈ ids, partA a k = []) → mapF a ids = []
  | [], _ => rfl
  | k :: ids, h => by
    have h1 : mapF a (k :: ids) = ids.foldl (fun o k => (combE 1 o (partA a k)).1) (combE 1 [] (partA a k)).1 := rfl
    rw [h1, h k (List.mem_cons_self ..), comb_nn]
    exact map_gone ids fun x hx => h x (List.mem_cons_of_mem _ hx)
theorem ids_full {s : Int → Bool} : ∀ n : Nat, (∀ k : Nat, k < n → s k = true) → (idsF s n).length = n
  | 0, _ => rfl
  | n + 1, h => by
    rw [idsF_succ, List.length_append, ids_full n fun k hk => h k (by omega), h n (by omega)]
    rfl
set_option maxHeartbeats 4000000 in
theorem withdraws_x (A : Option Addr) (c : Nat) (l : List AOp) {n : Nat} (hl : l.length = n) (hn : n ≤ maxLen) :
    CallW Try.prog 5 [.v (.slice A n c)] (fun w => opsW w A n l) (B true) := by
  have hn' := hn
  unfold maxLen at hn'
  have kf := few_w A c l hl hn
  have km := made_m A c l hl hn
  cases hf : fewB l with
  | false =>
    rw [hf] at kf
    refine CallW.of Try.func5 rfl tabOk rfl rfl rfl (by simp [SV.wfs, SV.wf]) (by simp [SV.wfs, SV.wf]) fun w hpre => ?_
    (conv => whnf); repeat' (first | ((with_reducible refine isC ?_); first | ((with_reducible refine CallX_pure (awake17_x) ?_) <;> first | omega | (with_reducible show (_ : Int) ≤ _) | (with_reducible show (_ : Int) < _) | (with_reducible show (_ : Nat) ≤ _) | (with_reducible show (_ : Nat) < _) | (conv => whnf)) | ((with_reducible refine isF 7 ?_); (with_reducible refine CallX_w (kf) ?_ ?_); (focus (exact hpre.few rfl)); conv => whnf)) | ((with_reducible refine isO ?_); first | ((refine OpX_build0 tabOk rfl rfl rfl ?_); intro bN; conv => whnf) | ((refine OpX_build tabOk rfl rfl rfl rfl rfl ?_); intro bN; conv => whnf)) | ((with_reducible refine isW ?_); first | ((with_reducible refine xwr_ok (by omega) (by omega) ?_); conv => whnf) | ((with_reducible refine xwr_raw ?_); conv => whnf)) | ((with_reducible refine isQ ?_); first | ((with_reducible refine xquo_nn (by omega) (by omega) (by omega) ?_); conv => whnf) | ((with_reducible refine xquo_ok (by omega) (by omega) (by omega) ?_); conv => whnf) | ((with_reducible refine xquo_raw (by omega) ?_); conv => whnf)) | ((with_reducible refine isR ?_); first | ((with_reducible refine xrem_nn (by omega) (by omega) ?_); conv => whnf) | ((with_reducible refine xrem_raw (by omega) ?_); conv => whnf)) | ((with_reducible refine isS ?_); first | ((with_reducible refine xshr_1 ?_); conv => whnf)) | ((with_reducible refine isK ?_); first | ((with_reducible refine xcv_i64 (by omega) (by omega) ?_); conv => whnf) | ((with_reducible refine xcv_u64 (by omega) (by omega) ?_); conv => whnf) | ((with_reducible refine xcv_u8 (by omega) (by omega) ?_); conv => whnf) | ((with_reducible refine xcv_raw ?_); conv => whnf)) | ((with_reducible refine need_i ?_ ?_) <;> first | omega | (conv => whnf)) | ((refine DrawX_s tabOk folOk ?_); conv => whnf) | ((refine DrawS_i (by kernel_rfl) ?_); conv => whnf) | ((with_reducible refine andX_i ?_ ?_) <;> (conv => whnf)) | (with_reducible exact rfl) | ((with_reducible refine xif_kt (by with_reducible assumption) ?_); conv => whnf) | ((with_reducible refine xif_kf (by with_reducible assumption) ?_); conv => whnf) | (((with_reducible refine xif_s ?_ ?_) <;> (intro hb; (try simp (disch := omega) only [wr, ge_dec, gt_dec, decide_eq_true_eq, decide_eq_false_iff_not, beq_iff_eq, bne_iff_ne, beq_eq_false_iff_ne, bne_eq_false_iff_eq, Bool.not_eq_true', Bool.not_eq_false', Bool.and_eq_true, Bool.or_eq_true, Bool.not_not, ne_eq, Decidable.not_not, Int.not_le, Int.not_lt, Int.toNat_natCast, not_true_eq_false, eq_self, Bool.not_true, Bool.not_false, Bool.true_eq_false, Bool.false_eq_true] at hb))) <;> (conv => whnf)))
    exact Fin_pure rfl rfl trivial
  | true =>
    rw [hf] at kf
    refine CallW.of Try.func5 rfl tabOk rfl rfl rfl (by simp [SV.wfs, SV.wf]) (by simp [SV.wfs, SV.wf]) fun w hpre => ?_
    (conv => whnf); repeat' (first | ((with_reducible refine isC ?_); first | ((with_reducible refine CallX_pure (awake17_x) ?_) <;> first | omega | (with_reducible show (_ : Int) ≤ _) | (with_reducible show (_ : Int) < _) | (with_reducible show (_ : Nat) ≤ _) | (with_reducible show (_ : Nat) < _) | (conv => whnf)) | ((with_reducible refine isF 7 ?_); (with_reducible refine CallX_w (kf) ?_ ?_); (focus (exact hpre.few rfl)); conv => whnf) | ((with_reducible refine isF 8 ?_); (refine CallX_m km [] rfl trivial (by decide) (hpre.of0 rfl) ?_; intro ra; obtain ⟨⟨a1, a2⟩, ⟨m, q0⟩, hok, hab⟩ := ra; dsimp only); conv => whnf) | ((with_reducible refine isF 13 ?_); (refine CallX_m (Ids_m a1 a2 m q0) [0, 1, 2] rfl ⟨⟨rfl, rfl, by simp [SV.wf, SV.wfs]⟩, fun _ _ h => h, fun _ _ h => h, trivial⟩ (by decide) (fun _ _ _ _ => trivial) ?_; intro r5; obtain ⟨A5, c5⟩ := r5; dsimp only); conv => whnf)) | ((with_reducible refine isO ?_); first | ((refine OpX_build0 tabOk rfl rfl rfl ?_); intro bN; conv => whnf) | ((refine OpX_build tabOk rfl rfl rfl rfl rfl ?_); intro bN; conv => whnf)) | ((with_reducible refine isW ?_); first | ((with_reducible refine xwr_ok (by omega) (by omega) ?_); conv => whnf) | ((with_reducible refine xwr_raw ?_); conv => whnf)) | ((with_reducible refine isQ ?_); first | ((with_reducible refine xquo_nn (by omega) (by omega) (by omega) ?_); conv => whnf) | ((with_reducible refine xquo_ok (by omega) (by omega) (by omega) ?_); conv => whnf) | ((with_reducible refine xquo_raw (by omega) ?_); conv => whnf)) | ((with_reducible refine isR ?_); first | ((with_reducible refine xrem_nn (by omega) (by omega) ?_); conv => whnf) | ((with_reducible refine xrem_raw (by omega) ?_); conv => whnf)) | ((with_reducible refine isS ?_); first | ((with_reducible refine xshr_1 ?_); conv => whnf)) | ((with_reducible refine isK ?_); first | ((with_reducible refine xcv_i64 (by omega) (by omega) ?_); conv => whnf) | ((with_reducible refine xcv_u64 (by omega) (by omega) ?_); conv => whnf) | ((with_reducible refine xcv_u8 (by omega) (by omega) ?_); conv => whnf) | ((with_reducible refine xcv_raw ?_); conv => whnf)) | ((with_reducible refine need_i ?_ ?_) <;> first | omega | (conv => whnf)) | ((refine DrawX_s tabOk folOk ?_); conv => whnf) | ((refine DrawS_i (by kernel_rfl) ?_); conv => whnf) | ((with_reducible refine andX_i ?_ ?_) <;> (conv => whnf)) | (with_reducible exact rfl) | ((with_reducible refine xif_kt (by with_reducible assumption) ?_); conv => whnf) | ((with_reducible refine xif_kf (by with_reducible assumption) ?_); conv => whnf) | (((with_reducible refine xif_s ?_ ?_) <;> (intro hb; (try simp (disch := omega) only [wr, ge_dec, gt_dec, decide_eq_true_eq, decide_eq_false_iff_not, beq_iff_eq, bne_iff_ne, beq_eq_false_iff_ne, bne_eq_false_iff_eq, Bool.not_eq_true', Bool.not_eq_false', Bool.and_eq_true, Bool.or_eq_true, Bool.not_not, ne_eq, Decidable.not_not, Int.not_le, Int.not_lt, Int.toNat_natCast, not_true_eq_false, eq_self, Bool.not_true, Bool.not_false, Bool.true_eq_false, Bool.false_eq_true] at hb))) <;> (conv => whnf)))
    have hgood : goodA (absM (m, q0)) := by
      rw [hab]
      exact (top_made _).good
    have hil := idsF_len (hasM m q0) 64
    generalize idsF (hasM m q0) 64 = ids at *
    refine LoopX_inv tabOk (α := (k : Nat) × {q : List (Int × PlT) // goodA (absM (m, q)) ∧ ∀ i : Nat, i < k → lkI q i = some pG}) (fun s => s.1 ≤ 64) (fun s => [(3, .p 0 0), (4, .v (.slice A5 ids.length c5)), (5, I s.1)])
      (fun s => [atB a1 a2, scO a1 m, plO a2 s.2.1, .row 3 1 A5 ids.length c5 (ids.map fun x => [encI x])]) (fun s => 64 - s.1) ⟨0, q0, hgood, fun i hi => by omega⟩ [0, 1, 2, 3] (Nat.zero_le _) ?_ ?_
    · ((refine ⟨?_, ?_, ?_, ?_⟩) <;> (repeat' ((conv => whnf); apply And.intro)) <;> (try (first | exact trivial | decide)))
      all_goals first | rfl | exact fun _ _ h => h | (simp [SV.wf, SV.wfs]; done) | trace_state
    · rintro ⟨k, q, hg, hall⟩ hk
      dsimp only at hk ⊢
      by_cases hlt : k < 64
      · have hvk : vId (k : Int) = true := by unfold vId; simp; omega
        have hcode : plcC (k : Int) pG = 0 := by
          unfold plcC
          rw [hvk, show vPl pG = true by decide]
          rfl
        have hres : ∀ r : PlcI q (k : Int) pG, lkI r.1 = updF (lkI q) k (some pG) := by
          intro r
          rw [r.2, hvk, show vPl pG = true by decide]
          have := top_gone hg (k : Int)
          have h2 : mxO keyP (lkI q k) pG = some pG := this
          rw [h2]
          rfl
        have ks := Scan_m a1 a2 m q (k : Int) hok
        have ho := hok.of (k : Int)
        have kpl := Place_m a1 a2 m q (k : Int) pG
        have ks2 := fun r : PlcI q (k : Int) pG => Scan_m a1 a2 m r.1 (k : Int) hok
        have kpt := fun r : PlcI q (k : Int) pG => Part_m a1 a2 m r.1 (k : Int) hok
        have hpart : ∀ r : PlcI q (k : Int) pG, partA (absM (m, r.1)) (k : Int) = [] := fun r => part_gone (by rw [hres r]; unfold updF; rw [if_pos rfl])
        have hpart2 : ∀ r : PlcI q (k : Int) pG, (partA (absM (m, r.1)) (k : Int)).length = 0 := fun r => by rw [hpart r]; rfl
        rw [hcode] at kpl
        generalize (slOf m (k : Int)).2.2 = bs at *
        generalize (lkI m (k : Int)).isSome = has at *
        (conv => whnf); repeat' (first | ((with_reducible refine isC ?_); first | ((with_reducible refine isF 15 ?_); (first | (refine CallX_m ks [0, 1, 2] rfl ⟨⟨rfl, rfl, by simp [SV.wf, SV.wfs]⟩, fun _ _ h => h, fun _ _ h => h, trivial⟩ (by decide) (fun _ _ _ _ => trivial) ?_; intro r1; obtain ⟨B1, d1⟩ := r1; dsimp only) | (refine CallX_m (ks2 r2) [0, 1, 2] rfl ⟨⟨rfl, rfl, by simp [SV.wf, SV.wfs]⟩, fun _ _ h => h, fun _ _ h => h, trivial⟩ (by decide) (fun _ _ _ _ => trivial) ?_; intro r3; obtain ⟨B3, d3⟩ := r3; dsimp only)); conv => whnf) | ((with_reducible refine isF 16 ?_); ((refine CallX_m kpl [0, 1, 2] rfl ⟨⟨rfl, rfl, by simp [SV.wf, SV.wfs]⟩, fun _ _ h => h, fun _ _ h => h, trivial⟩ (by decide) (fun _ _ _ _ => trivial) ?_; intro r2)); conv => whnf) | ((with_reducible refine isF 18 ?_); ((refine CallX_m (kpt r2) [0, 1, 2] rfl ⟨⟨rfl, rfl, by simp [SV.wf, SV.wfs]⟩, fun _ _ h => h, fun _ _ h => h, trivial⟩ (by decide) (fun _ _ _ _ => trivial) ?_; intro r4; obtain ⟨B4, d4⟩ := r4; rw [hpart2 r2]; dsimp only)); conv => whnf)) | ((with_reducible refine isO ?_); first | ((refine OpX_build0 tabOk rfl rfl rfl ?_); intro bN; conv => whnf) | ((refine OpX_build tabOk rfl rfl rfl rfl rfl ?_); intro bN; conv => whnf)) | ((with_reducible refine isW ?_); first | ((with_reducible refine xwr_ok (by omega) (by omega) ?_); conv => whnf) | ((with_reducible refine xwr_raw ?_); conv => whnf)) | ((with_reducible refine isQ ?_); first | ((with_reducible refine xquo_nn (by omega) (by omega) (by omega) ?_); conv => whnf) | ((with_reducible refine xquo_ok (by omega) (by omega) (by omega) ?_); conv => whnf) | ((with_reducible refine xquo_raw (by omega) ?_); conv => whnf)) | ((with_reducible refine isR ?_); first | ((with_reducible refine xrem_nn (by omega) (by omega) ?_); conv => whnf) | ((with_reducible refine xrem_raw (by omega) ?_); conv => whnf)) | ((with_reducible refine isS ?_); first | ((with_reducible refine xshr_1 ?_); conv => whnf)) | ((with_reducible refine isK ?_); first | ((with_reducible refine xcv_i64 (by omega) (by omega) ?_); conv => whnf) | ((with_reducible refine xcv_u64 (by omega) (by omega) ?_); conv => whnf) | ((with_reducible refine xcv_u8 (by omega) (by omega) ?_); conv => whnf) | ((with_reducible refine xcv_raw ?_); conv => whnf)) | ((with_reducible refine need_i ?_ ?_) <;> first | omega | (conv => whnf)) | ((refine DrawX_s tabOk folOk ?_); conv => whnf) | ((refine DrawS_i (by kernel_rfl) ?_); conv => whnf) | ((with_reducible refine andX_i ?_ ?_) <;> (conv => whnf)) | (with_reducible exact rfl) | ((with_reducible refine xif_kt (by with_reducible assumption) ?_); conv => whnf) | ((with_reducible refine xif_kf (by with_reducible assumption) ?_); conv => whnf) | (((with_reducible refine xif_s ?_ ?_) <;> (intro hb; (try simp (disch := omega) only [wr, ge_dec, gt_dec, decide_eq_true_eq, decide_eq_false_iff_not, beq_iff_eq, bne_iff_ne, beq_eq_false_iff_ne, bne_eq_false_iff_eq, Bool.not_eq_true', Bool.not_eq_false', Bool.and_eq_true, Bool.or_eq_true, Bool.not_not, ne_eq, Decidable.not_not, Int.not_le, Int.not_lt, Int.toNat_natCast, not_true_eq_false, eq_self, Bool.not_true, Bool.not_false, Bool.true_eq_false, Bool.false_eq_true] at hb))) <;> (conv => whnf)))
        all_goals try (exfalso; omega)
        all_goals try (exfalso; simp at hb; done)
        refine CallX_w (Beams_w B1 B3 d1 d3 bs rfl (by omega)) (fun σ fp w hm => ⟨ArgSl.bm (s := (B1, d1, bs)) 4 rfl σ fp w hm, ArgSl.bm (s := (B3, d3, bs)) 5 rfl σ fp w hm⟩) ?_
        (conv => whnf); repeat' (first | ((with_reducible refine isC ?_); first | ((with_reducible refine isF 18 ?_); ((refine CallX_m (kpt r2) [0, 1, 2] rfl ⟨⟨rfl, rfl, by simp [SV.wf, SV.wfs]⟩, fun _ _ h => h, fun _ _ h => h, trivial⟩ (by decide) (fun _ _ _ _ => trivial) ?_; intro r4; obtain ⟨B4, d4⟩ := r4; rw [hpart2 r2]; dsimp only)); conv => whnf)) | ((with_reducible refine isO ?_); first | ((refine OpX_build0 tabOk rfl rfl rfl ?_); intro bN; conv => whnf) | ((refine OpX_build tabOk rfl rfl rfl rfl rfl ?_); intro bN; conv => whnf)) | ((with_reducible refine isW ?_); first | ((with_reducible refine xwr_ok (by omega) (by omega) ?_); conv => whnf) | ((with_reducible refine xwr_raw ?_); conv => whnf)) | ((with_reducible refine isQ ?_); first | ((with_reducible refine xquo_nn (by omega) (by omega) (by omega) ?_); conv => whnf) | ((with_reducible refine xquo_ok (by omega) (by omega) (by omega) ?_); conv => whnf) | ((with_reducible refine xquo_raw (by omega) ?_); conv => whnf)) | ((with_reducible refine isR ?_); first | ((with_reducible refine xrem_nn (by omega) (by omega) ?_); conv => whnf) | ((with_reducible refine xrem_raw (by omega) ?_); conv => whnf)) | ((with_reducible refine isS ?_); first | ((with_reducible refine xshr_1 ?_); conv => whnf)) | ((with_reducible refine isK ?_); first | ((with_reducible refine xcv_i64 (by omega) (by omega) ?_); conv => whnf) | ((with_reducible refine xcv_u64 (by omega) (by omega) ?_); conv => whnf) | ((with_reducible refine xcv_u8 (by omega) (by omega) ?_); conv => whnf) | ((with_reducible refine xcv_raw ?_); conv => whnf)) | ((with_reducible refine need_i ?_ ?_) <;> first | omega | (conv => whnf)) | ((refine DrawX_s tabOk folOk ?_); conv => whnf) | ((refine DrawS_i (by kernel_rfl) ?_); conv => whnf) | ((with_reducible refine andX_i ?_ ?_) <;> (conv => whnf)) | (with_reducible exact rfl) | ((with_reducible refine xif_kt (by with_reducible assumption) ?_); conv => whnf) | ((with_reducible refine xif_kf (by with_reducible assumption) ?_); conv => whnf) | (((with_reducible refine xif_s ?_ ?_) <;> (intro hb; (try simp (disch := omega) only [wr, ge_dec, gt_dec, decide_eq_true_eq, decide_eq_false_iff_not, beq_iff_eq, bne_iff_ne, beq_eq_false_iff_ne, bne_eq_false_iff_eq, Bool.not_eq_true', Bool.not_eq_false', Bool.and_eq_true, Bool.or_eq_true, Bool.not_not, ne_eq, Decidable.not_not, Int.not_le, Int.not_lt, Int.toNat_natCast, not_true_eq_false, eq_self, Bool.not_true, Bool.not_false, Bool.true_eq_false, Bool.false_eq_true] at hb))) <;> (conv => whnf)))
        all_goals try (exfalso; omega)
        refine ⟨⟨k + 1, r2.1, good_upd hg hvk (hres r2), fun i hi => ?_⟩, [0, 1, 2, 3], by (try dsimp only); omega, ?_, by (try dsimp only); omega⟩
        · rw [hres r2]
          unfold updF
          by_cases hik : (i : Int) = (k : Int)
          · rw [if_pos hik]
          · rw [if_neg hik]
            exact hall i (by omega)
        · ((refine ⟨?_, ?_, ?_, ?_⟩) <;> (repeat' ((conv => whnf); apply And.intro)) <;> (try (first | exact trivial | decide)))
          all_goals first | rfl | exact fun _ _ h => h | (simp [SV.wf, SV.wfs]; done) | trace_state
      · obtain rfl : k = 64 := by omega
        have hfull : ∀ i : Int, vId i = true → lkI q i = some pG := by
          intro i hi
          unfold vId at hi
          simp only [Bool.and_eq_true, decide_eq_true_eq] at hi
          have := hall i.toNat (by omega)
          rwa [Int.toNat_of_nonneg hi.1] at this
        have hids : (idsF (hasM m q) 64).length = 64 := ids_full 64 fun i hi => by
          unfold hasM
          rw [hall i hi]
          simp
        have hmap : mapF (absM (m, q)) (idsF (hasM m q) 64) = [] := map_gone _ fun i hi => part_gone (hfull i ((idsF_mem _ i).1 hi).1)
        have kmp := Map_m a1 a2 m q hok _ rfl
        have kid := Ids_m a1 a2 m q
        rw [hmap] at kmp
        generalize idsF (hasM m q) 64 = L at *
        (conv => whnf); repeat' (first | ((with_reducible refine isC ?_); first | ((with_reducible refine isF 19 ?_); ((refine CallX_m kmp [0, 1, 2] rfl ⟨⟨rfl, rfl, by simp [SV.wf, SV.wfs]⟩, fun _ _ h => h, fun _ _ h => h, trivial⟩ (by decide) (fun _ _ _ _ => trivial) ?_; intro r6; obtain ⟨B6, d6⟩ := r6; dsimp only)); conv => whnf) | ((with_reducible refine isF 13 ?_); ((refine CallX_m kid [0, 1, 2] rfl ⟨⟨rfl, rfl, by simp [SV.wf, SV.wfs]⟩, fun _ _ h => h, fun _ _ h => h, trivial⟩ (by decide) (fun _ _ _ _ => trivial) ?_; intro r7; obtain ⟨B7, d7⟩ := r7; dsimp only)); conv => whnf)) | ((with_reducible refine isO ?_); first | ((refine OpX_build0 tabOk rfl rfl rfl ?_); intro bN; conv => whnf) | ((refine OpX_build tabOk rfl rfl rfl rfl rfl ?_); intro bN; conv => whnf)) | ((with_reducible refine isW ?_); first | ((with_reducible refine xwr_ok (by omega) (by omega) ?_); conv => whnf) | ((with_reducible refine xwr_raw ?_); conv => whnf)) | ((with_reducible refine isQ ?_); first | ((with_reducible refine xquo_nn (by omega) (by omega) (by omega) ?_); conv => whnf) | ((with_reducible refine xquo_ok (by omega) (by omega) (by omega) ?_); conv => whnf) | ((with_reducible refine xquo_raw (by omega) ?_); conv => whnf)) | ((with_reducible refine isR ?_); first | ((with_reducible refine xrem_nn (by omega) (by omega) ?_); conv => whnf) | ((with_reducible refine xrem_raw (by omega) ?_); conv => whnf)) | ((with_reducible refine isS ?_); first | ((with_reducible refine xshr_1 ?_); conv => whnf)) | ((with_reducible refine isK ?_); first | ((with_reducible refine xcv_i64 (by omega) (by omega) ?_); conv => whnf) | ((with_reducible refine xcv_u64 (by omega) (by omega) ?_); conv => whnf) | ((with_reducible refine xcv_u8 (by omega) (by omega) ?_); conv => whnf) | ((with_reducible refine xcv_raw ?_); conv => whnf)) | ((with_reducible refine need_i ?_ ?_) <;> first | omega | (conv => whnf)) | ((refine DrawX_s tabOk folOk ?_); conv => whnf) | ((refine DrawS_i (by kernel_rfl) ?_); conv => whnf) | ((with_reducible refine andX_i ?_ ?_) <;> (conv => whnf)) | (with_reducible exact rfl) | ((with_reducible refine xif_kt (by with_reducible assumption) ?_); conv => whnf) | ((with_reducible refine xif_kf (by with_reducible assumption) ?_); conv => whnf) | (((with_reducible refine xif_s ?_ ?_) <;> (intro hb; (try simp (disch := omega) only [wr, ge_dec, gt_dec, decide_eq_true_eq, decide_eq_false_iff_not, beq_iff_eq, bne_iff_ne, beq_eq_false_iff_ne, bne_eq_false_iff_eq, Bool.not_eq_true', Bool.not_eq_false', Bool.and_eq_true, Bool.or_eq_true, Bool.not_not, ne_eq, Decidable.not_not, Int.not_le, Int.not_lt, Int.toNat_natCast, not_true_eq_false, eq_self, Bool.not_true, Bool.not_false, Bool.true_eq_false, Bool.false_eq_true] at hb))) <;> (conv => whnf)))
        all_goals try (exfalso; omega)
        all_goals exact Fin_pure rfl (B_eq (decide_eq_true (by omega))) trivial
/-- the same, over a slice as it is opened -/
theorem withdraws_walk (A0 : Option Addr) (n0 c0 : Nat) (l0 : List AOp) (w : World) (h0 : l0.length = n0) (o0 : opsW w A0 n0 l0) (g0 : n0 ≤ c0) (k0 : c0 ≤ maxLen) :
    Calls Try.prog 5 #[.slice A0 n0 c0] w fun e w' => e = .returned (.bool true) ∧ Below w.heap.size w w' :=
  (withdraws_x A0 c0 l0 h0 (by omega)).2.2 (fun _ => 0) w o0
end Go.Proofs.Ytodaijlclbngbaa.En
