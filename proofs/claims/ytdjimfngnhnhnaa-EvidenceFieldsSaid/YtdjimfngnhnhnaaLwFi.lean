/- The walk of EvidenceFields. -/
import Derived.Test.YtdjimfngnhnhnaaYd
import Derived.Test.YtdjimfngnhnhnaaBr
set_option linter.all false
namespace Go.Proofs.Ytdjimfngnhnhnaa.En
open Go.RowKit
set_option maxRecDepth 100000

theorem fld_valid {l : List EntT} {r : FldT} (hr : fldE l = r) : vfB r.1.1 r.1.2.1 r.1.2.2.1 r.1.2.2.2 (r.2.1.length : Nat) = true := by
  rw [← hr]
  unfold fldE
  cases hv : vE l with
  | false => rfl
  | true =>
    rw [if_pos rfl]
    by_cases hS : seenL l = []
    · rw [if_pos hS]
      rfl
    · rw [if_neg hS]
      by_cases hb : 64 < fW (bbF (seenL l)) ∨ 64 < fH (bbF (seenL l))
      · rw [if_pos hb]
        rfl
      · rw [if_neg hb]
        have hpos : 0 < (seenL l).length := List.length_pos_iff.2 hS
        have hin := bbF_in (l := seenL l) (e := (seenL l).getD 0 e0) (by simp [hpos])
        have hgood : ∀ x ∈ seenL l, (-16384 ≤ x.1 ∧ x.1 ≤ 16384) ∧ -16384 ≤ x.2.1 ∧ x.2.1 ≤ 16384 := by
          intro x hx
          have := vE_good hv (List.mem_filter.1 hx).1
          simp only [goodB, szB, Bool.and_eq_true, decide_eq_true_eq] at this
          exact ⟨this.1.2, this.2⟩
        have hbd : (-16384 ≤ (bbF (seenL l)).1 ∧ (bbF (seenL l)).1 ≤ 16384) ∧ (-16384 ≤ (bbF (seenL l)).2.1 ∧ (bbF (seenL l)).2.1 ≤ 16384) ∧ (-16384 ≤ (bbF (seenL l)).2.2.1 ∧ (bbF (seenL l)).2.2.1 ≤ 16384) ∧ -16384 ≤ (bbF (seenL l)).2.2.2 ∧ (bbF (seenL l)).2.2.2 ≤ 16384 := by
          cases hq : seenL l with
          | nil => exact (hS hq).elim
          | cons x s =>
            refine bbfold_bd (m := 16384) (x :: s) (bb1 x) ?_ fun e he => hgood e (by rw [hq]; exact he)
            have := hgood x (by rw [hq]; exact List.mem_cons_self ..)
            unfold bb1
            dsimp only
            omega
        simp only [List.length_map, List.length_range]
        unfold fW fH at *
        have hm : 0 ≤ ((bbF (seenL l)).2.1 - (bbF (seenL l)).1 + 1) * ((bbF (seenL l)).2.2.2 - (bbF (seenL l)).2.2.1 + 1) := Int.mul_nonneg (by omega) (by omega)
        unfold vfB
        rw [Int.toNat_of_nonneg hm]
        simp only [szB, Bool.and_eq_true, Bool.or_eq_true, decide_eq_true_eq]
        refine ⟨⟨⟨⟨⟨⟨⟨⟨?_, ?_⟩, ?_⟩, ?_⟩, ?_⟩, trivial⟩, ?_⟩, ?_⟩, ?_⟩ <;> omega
set_option maxHeartbeats 4000000 in
theorem fields_x (A : Option Addr) (c : Nat) (l : List EntT) {n : Nat} (hl : l.length = n) (hn : n ≤ maxLen) (x y ww hh : Int) (Af : Option Addr) (nf cf : Nat) (hf : nf ≤ maxLen) :
    CallW Try.prog 11 [.v (.slice A n c), .a [I x, I y, I ww, I hh, .v (.slice Af nf cf)]] (fun w => ArgSl w A n 4 (l.map encE)) (B true) := by
  have hn' := hn
  have hf' := hf
  unfold maxLen at hn' hf'
  obtain ⟨r, hr⟩ : ∃ r, fldE l = r := ⟨_, rfl⟩
  have k1 := FieldOf_m A c l r hr hl hn
  have k2 := rFieldOf_m A c l r hr hl hn
  have hvf := fld_valid hr
  have v1 := eValidField_x x y ww hh Af nf cf hf
  have v2 := rValidField_x x y ww hh Af nf cf hf
  have hrl : r.2.1.length ≤ maxLen := by
    have : r.2.1.length ≤ 1048576 := by
      rw [← hr]
      unfold fldE
      split
      · split
        · simp
        · split
          · simp
          · rename_i hb
            have := mul_bd (a := min (max (fW (bbF (seenL l))) (-64)) 64) (b := min (max (fH (bbF (seenL l))) (-64)) 64) (A := 64) (B := 64) (by omega) (by omega)
            simp only [List.length_map, List.length_range]
            by_cases h1 : fW (bbF (seenL l)) < 1 ∨ fH (bbF (seenL l)) < 1
            · have hin := @bbF_in (seenL l) ((seenL l).getD 0 e0)
              have hpos : 0 < (seenL l).length := List.length_pos_iff.2 (by assumption)
              have := hin (by simp [hpos])
              unfold fW fH at h1
              omega
            · rw [show min (max (fW (bbF (seenL l))) (-64)) 64 = fW (bbF (seenL l)) by omega, show min (max (fH (bbF (seenL l))) (-64)) 64 = fH (bbF (seenL l)) by omega] at this
              omega
      · simp
    unfold maxLen
    omega
  clear hr
  obtain ⟨⟨X, Y, W, H⟩, L, e⟩ := r
  dsimp only at k1 k2 hvf hrl
  refine CallW.of Try.func11 rfl tabOk rfl rfl rfl (by simp [SV.wfs, SV.wf]) (by simp [SV.wfs, SV.wf]) fun w hpre => ?_
  (conv => whnf); repeat' (first | ((with_reducible refine isC ?_); first | ((with_reducible refine CallX_pure (awake15_x) ?_) <;> first | omega | (with_reducible show (_ : Int) ≤ _) | (with_reducible show (_ : Int) < _) | (with_reducible show (_ : Nat) ≤ _) | (with_reducible show (_ : Nat) < _) | (conv => whnf)) | ((with_reducible refine isF 36 ?_); (refine CallX_m k1 [] rfl trivial (by decide) (fun σ fp w hm => ArgN.of0 (hpre.mem (by decide) rfl σ fp w hm) _) ?_; intro q1; obtain ⟨⟨A1, c1⟩, h1⟩ := q1; dsimp only); conv => whnf) | ((with_reducible refine isF 37 ?_); (refine CallX_m k2 [] rfl trivial (by decide) (fun σ fp w hm => ArgN.of0 (hpre.mem (by decide) rfl σ fp w hm) _) ?_; intro q2; obtain ⟨⟨A2, c2⟩, h2⟩ := q2; dsimp only); conv => whnf) | ((with_reducible refine isF 38 ?_); (refine CallX_w (Bytes_w A1 A2 c1 c2 L rfl h1 h2) (fun σ fp w hm => ⟨ArgSl.row 1 rfl σ fp w hm, ArgSl.row 3 rfl σ fp w hm⟩) ?_); conv => whnf) | ((with_reducible refine CallX_pure (v1) ?_) <;> first | omega | (with_reducible show (_ : Int) ≤ _) | (with_reducible show (_ : Int) < _) | (with_reducible show (_ : Nat) ≤ _) | (with_reducible show (_ : Nat) < _) | (conv => whnf)) | ((with_reducible refine CallX_pure (v2) ?_) <;> first | omega | (with_reducible show (_ : Int) ≤ _) | (with_reducible show (_ : Int) < _) | (with_reducible show (_ : Nat) ≤ _) | (with_reducible show (_ : Nat) < _) | (conv => whnf)) | ((with_reducible refine isF 39 ?_); (refine CallX_pure (x := B true) (by have v3 := eValidField_x X Y W H A1 L.length c1 hrl; rw [hvf] at v3; exact v3) ?_); conv => whnf)) | ((with_reducible refine isO ?_); first | ((refine OpX_build0 tabOk rfl rfl rfl ?_); intro bN; conv => whnf) | ((refine OpX_build tabOk rfl rfl rfl rfl rfl ?_); intro bN; conv => whnf)) | ((with_reducible refine isW ?_); first | ((with_reducible refine xwr_ok (by omega) (by omega) ?_); conv => whnf) | ((with_reducible refine xwr_raw ?_); conv => whnf)) | ((with_reducible refine isQ ?_); first | ((with_reducible refine xquo_nn (by omega) (by omega) (by omega) ?_); conv => whnf) | ((with_reducible refine xquo_ok (by omega) (by omega) (by omega) ?_); conv => whnf) | ((with_reducible refine xquo_raw (by omega) ?_); conv => whnf)) | ((with_reducible refine isR ?_); first | ((with_reducible refine xrem_nn (by omega) (by omega) ?_); conv => whnf) | ((with_reducible refine xrem_raw (by omega) ?_); conv => whnf)) | ((with_reducible refine isS ?_); first | ((with_reducible refine xshr_1 ?_); conv => whnf)) | ((with_reducible refine isK ?_); first | ((with_reducible refine xcv_i64 (by omega) (by omega) ?_); conv => whnf) | ((with_reducible refine xcv_u64 (by omega) (by omega) ?_); conv => whnf) | ((with_reducible refine xcv_u8 (by omega) (by omega) ?_); conv => whnf) | ((with_reducible refine xcv_raw ?_); conv => whnf)) | ((with_reducible refine need_i ?_ ?_) <;> first | omega | (conv => whnf)) | ((refine DrawX_s tabOk folOk ?_); conv => whnf) | ((refine DrawS_i (by kernel_rfl) ?_); conv => whnf) | ((with_reducible refine andX_i ?_ ?_) <;> (conv => whnf)) | (with_reducible exact rfl) | ((with_reducible refine xif_kt (by with_reducible assumption) ?_); conv => whnf) | ((with_reducible refine xif_kf (by with_reducible assumption) ?_); conv => whnf) | (((with_reducible refine xif_s ?_ ?_) <;> (intro hb; (try simp (disch := omega) only [wr, ge_dec, gt_dec, decide_eq_true_eq, decide_eq_false_iff_not, beq_iff_eq, bne_iff_ne, beq_eq_false_iff_ne, bne_eq_false_iff_eq, Bool.not_eq_true', Bool.not_eq_false', Bool.and_eq_true, Bool.or_eq_true, Bool.not_not, ne_eq, Decidable.not_not, Int.not_le, Int.not_lt, Int.toNat_natCast, not_true_eq_false, eq_self, Bool.not_true, Bool.not_false, Bool.true_eq_false, Bool.false_eq_true] at hb))) <;> (conv => whnf)))
  all_goals try (exfalso; omega)
  all_goals try exact Fin_pure rfl rfl trivial
  all_goals exact Fin_pure rfl (B_eq (by simp)) trivial
/-- the same, over arguments as they are opened -/
theorem fields_walk (A0 : Option Addr) (n0 c0 : Nat) (V0 : Nat → Nat → Int) (x y ww hh : Int) (A1 : Option Addr) (n1 c1 : Nat) (w : World) (h0 : SlO w A0 n0 4 V0) (g0 : n0 ≤ c0) (k0 : c0 ≤ maxLen) (g1 : n1 ≤ c1) (k1 : c1 ≤ maxLen) :
    Calls Try.prog 11 #[.slice A0 n0 c0, .agg #[.int .i64 x, .int .i64 y, .int .i64 ww, .int .i64 hh, .slice A1 n1 c1]] w fun e w' => e = .returned (.bool true) ∧ Below w.heap.size w w' := by
  have a0 := ArgSl.of_SlO encE (fun i => (V0 i 0, V0 i 1, V0 i 2, V0 i 3)) h0 (by decide) (fun i => rfl)
  generalize e0 : (List.range n0).map (fun i => (V0 i 0, V0 i 1, V0 i 2, V0 i 3)) = xs at a0
  obtain rfl : xs.length = n0 := by rw [← e0]; simp
  exact (fields_x A0 c0 xs rfl (by omega) x y ww hh A1 n1 c1 (by omega)).2.2 (fun _ => 0) w a0
end Go.Proofs.Ytdjimfngnhnhnaa.En
