/- evidence.Total by the executor. -/
import Derived.Test.YtdjimfngnhnhnaaEc
set_option linter.all false
namespace Go.Proofs.Ytdjimfngnhnhnaa.En
open Go.RowKit
set_option maxRecDepth 100000

def sumB (g : EntT → Int) (l : List EntT) : Int := (l.map g).sum
def hitE (e : EntT) : Int := e.2.2.1
def passE (e : EntT) : Int := e.2.2.2
def totE (l : List EntT) : Int × Int := if vE l then (sumB hitE l, sumB passE l) else (0, 0)
theorem sumB_next (g : EntT → Int) {l : List EntT} {k : Nat} (hk : k < l.length) : sumB g (l.take (k + 1)) = sumB g (l.take k) + g (l.getD k e0) := by
  have e : l.getD k e0 = l[k] := by simp [hk]
  rw [List.take_succ_eq_append_getElem hk, e]
  unfold sumB
  rw [List.map_append]
  first
    | (rw [List.sum_append_int]; simp; done)
    | (rw [List.sum_append_int, List.map_cons, List.map_nil, List.sum_cons, List.sum_nil]; omega)
    | (rw [List.sum_append, List.map_cons, List.map_nil, List.sum_cons, List.sum_nil]; omega)
theorem sumB_bd (g : EntT → Int) {l : List EntT} (h : ∀ i, i < l.length → -1099511627776 ≤ g (l.getD i e0) ∧ g (l.getD i e0) ≤ 1099511627776) : ∀ k, k ≤ l.length → -(k * 1099511627776 : Int) ≤ sumB g (l.take k) ∧ sumB g (l.take k) ≤ k * 1099511627776
  | 0, _ => by simp [sumB]
  | k + 1, hk => by
    have h1 := sumB_bd g h k (by omega)
    have h2 := h k (by omega)
    rw [sumB_next g (by omega)]
    omega
theorem sumB_perm (g : EntT → Int) {l m : List EntT} (h : l.Perm m) : sumB g l = sumB g m := by
  induction h with
  | nil => rfl
  | cons x _ ih => simp only [sumB, List.map_cons, List.sum_cons] at *; omega
  | swap x y l => simp only [sumB, List.map_cons, List.sum_cons]; omega
  | trans _ _ h1 h2 => exact h1.trans h2
theorem vE_len {l : List EntT} (h : vE l = true) : l.length ≤ 1048576 := by
  by_cases h' : l.length ≤ 1048576
  · exact h'
  · rw [vE_long h'] at h
    cases h
theorem vE_count {l : List EntT} (h : vE l = true) (i : Nat) (hi : i < l.length) : (-1099511627776 ≤ hitE (l.getD i e0) ∧ hitE (l.getD i e0) ≤ 1099511627776) ∧ (-1099511627776 ≤ passE (l.getD i e0) ∧ passE (l.getD i e0) ≤ 1099511627776) := by
  have h1 := vE_at h hi
  simp only [okAt, goodB, countB, szB, Bool.and_eq_true, decide_eq_true_eq] at h1
  simp only [hitE, passE]
  omega
theorem Total_w (A : Option Addr) (c : Nat) (l : List EntT) {n : Nat} (hl : l.length = n) (hn : n ≤ maxLen) :
    CallW Try.prog 23 [.v (.slice A n c)] (fun w => ArgSl w A n 4 (l.map encE)) (.t [I (totE l).1, I (totE l).2]) := by
  have hn' := hn
  unfold maxLen at hn
  refine CallW.of Try.func23 rfl tabOk rfl rfl rfl (by simp [SV.wfs, SV.wf]) (by simp [SV.wfs, SV.wf]) fun w hpre => ?_
  (conv => whnf); repeat' (first | ((with_reducible refine isC ?_); first | (refine CallX_v (Valid_v A c l hl hn') (hpre.mem (by decide) rfl) ?_; conv => whnf)) | ((with_reducible refine isO ?_); first | ((refine OpX_build0 tabOk rfl rfl rfl ?_); intro bN; conv => whnf) | ((refine OpX_build tabOk rfl rfl rfl rfl rfl ?_); intro bN; conv => whnf)) | ((with_reducible refine isW ?_); first | ((with_reducible refine xwr_ok (by omega) (by omega) ?_); conv => whnf) | ((with_reducible refine xwr_raw ?_); conv => whnf)) | ((with_reducible refine isQ ?_); first | ((with_reducible refine xquo_nn (by omega) (by omega) (by omega) ?_); conv => whnf) | ((with_reducible refine xquo_ok (by omega) (by omega) (by omega) ?_); conv => whnf) | ((with_reducible refine xquo_raw (by omega) ?_); conv => whnf)) | ((with_reducible refine isR ?_); first | ((with_reducible refine xrem_nn (by omega) (by omega) ?_); conv => whnf) | ((with_reducible refine xrem_raw (by omega) ?_); conv => whnf)) | ((with_reducible refine isS ?_); first | ((with_reducible refine xshr_1 ?_); conv => whnf)) | ((with_reducible refine isK ?_); first | ((with_reducible refine xcv_i64 (by omega) (by omega) ?_); conv => whnf) | ((with_reducible refine xcv_u64 (by omega) (by omega) ?_); conv => whnf) | ((with_reducible refine xcv_u8 (by omega) (by omega) ?_); conv => whnf) | ((with_reducible refine xcv_raw ?_); conv => whnf)) | ((with_reducible refine need_i ?_ ?_) <;> first | omega | (conv => whnf)) | ((refine DrawX_s tabOk folOk ?_); conv => whnf) | ((refine DrawS_i (by kernel_rfl) ?_); conv => whnf) | ((with_reducible refine andX_i ?_ ?_) <;> (conv => whnf)) | (with_reducible exact rfl) | ((with_reducible refine xif_kt (by with_reducible assumption) ?_); conv => whnf) | ((with_reducible refine xif_kf (by with_reducible assumption) ?_); conv => whnf) | (((with_reducible refine xif_s ?_ ?_) <;> (intro hb; (try simp (disch := omega) only [wr, ge_dec, gt_dec, decide_eq_true_eq, decide_eq_false_iff_not, beq_iff_eq, bne_iff_ne, beq_eq_false_iff_ne, bne_eq_false_iff_eq, Bool.not_eq_true', Bool.not_eq_false', Bool.and_eq_true, Bool.or_eq_true, Bool.not_not, ne_eq, Decidable.not_not, Int.not_le, Int.not_lt, Int.toNat_natCast, not_true_eq_false, eq_self, Bool.not_true, Bool.not_false, Bool.true_eq_false, Bool.false_eq_true] at hb))) <;> (conv => whnf)))
  · have e : totE l = (0, 0) := by simp only [totE, hb, Bool.false_eq_true, if_false]
    rw [e]
    exact Fin_pure rfl rfl (by simp [SV.wf, SV.wfs])
  · have hv := hb
    have e : totE l = (sumB hitE l, sumB passE l) := by simp only [totE, hv, if_true]
    have hlen := vE_len hv
    have b1 := sumB_bd hitE (fun i hi => (vE_count hv i hi).1)
    have b2 := sumB_bd passE (fun i hi => (vE_count hv i hi).2)
    rw [e]
    refine LoopX_inv tabOk (α := Nat) (fun k => k ≤ n) (fun k => [(13, I k), (12, I n), (11, .v (.slice A n c)), (4, I (sumB hitE (l.take k))), (5, I (sumB passE (l.take k)))]) (fun _ => []) (fun k => n - k) 0 [] (Nat.zero_le _) ?_ ?_
    · ((refine ⟨?_, ?_, ?_, ?_⟩) <;> (repeat' ((conv => whnf); apply And.intro)) <;> (try (first | exact trivial | decide)))
      all_goals first | rfl | exact fun _ _ h => h | simp [SV.wf, SV.wfs]
    · intro k hk
      clear hb e
      have c1 := b1 k (by omega)
      have c2 := b2 k (by omega)
      by_cases hlt : k < n
      · have d1 := b1 (k + 1) (by omega)
        have d2 := b2 (k + 1) (by omega)
        rw [sumB_next _ (by omega)] at d1 d2
        have d1' : -(((k + 1 : Nat) : Int) * 1099511627776) ≤ sumB hitE (l.take k) + (l.getD k e0).2.2.1 ∧ sumB hitE (l.take k) + (l.getD k e0).2.2.1 ≤ ((k + 1 : Nat) : Int) * 1099511627776 := d1
        have d2' : -(((k + 1 : Nat) : Int) * 1099511627776) ≤ sumB passE (l.take k) + (l.getD k e0).2.2.2 ∧ sumB passE (l.take k) + (l.getD k e0).2.2.2 ≤ ((k + 1 : Nat) : Int) * 1099511627776 := d2
        (conv => whnf); repeat' (first | ((with_reducible refine isV ?_); first | ((refine ValX_index tabOk rfl (hpre.mem (by decide) rfl) rfl ?_ ?_ ?_) <;> first | omega | (with_reducible show (_ : Int) ≤ _) | (with_reducible show (_ : Int) < _) | (with_reducible show (_ : Nat) ≤ _) | (with_reducible show (_ : Nat) < _) | (conv => whnf)) | ((with_reducible refine nat_idx ?_); (refine ValX_loadEn _ _ (e0) tabOk rfl rfl rfl rfl (hpre.mem (by decide) rfl) ?_ ?_ ?_) <;> first | rfl | omega | (with_reducible show (_ : Int) ≤ _) | (with_reducible show (_ : Int) < _) | (with_reducible show (_ : Nat) ≤ _) | (with_reducible show (_ : Nat) < _) | (conv => whnf)) | ((refine ValX_loadE _ _ (e0) tabOk rfl rfl rfl rfl (hpre.mem (by decide) rfl) ?_ ?_ ?_) <;> first | rfl | omega | (with_reducible show (_ : Int) ≤ _) | (with_reducible show (_ : Int) < _) | (with_reducible show (_ : Nat) ≤ _) | (with_reducible show (_ : Nat) < _) | (conv => whnf))) | ((with_reducible refine isO ?_); first | ((refine OpX_build0 tabOk rfl rfl rfl ?_); intro bN; conv => whnf) | ((refine OpX_build tabOk rfl rfl rfl rfl rfl ?_); intro bN; conv => whnf)) | ((with_reducible refine isW ?_); first | ((with_reducible refine xwr_ok (by omega) (by omega) ?_); conv => whnf) | ((with_reducible refine xwr_raw ?_); conv => whnf)) | ((with_reducible refine isQ ?_); first | ((with_reducible refine xquo_nn (by omega) (by omega) (by omega) ?_); conv => whnf) | ((with_reducible refine xquo_ok (by omega) (by omega) (by omega) ?_); conv => whnf) | ((with_reducible refine xquo_raw (by omega) ?_); conv => whnf)) | ((with_reducible refine isR ?_); first | ((with_reducible refine xrem_nn (by omega) (by omega) ?_); conv => whnf) | ((with_reducible refine xrem_raw (by omega) ?_); conv => whnf)) | ((with_reducible refine isS ?_); first | ((with_reducible refine xshr_1 ?_); conv => whnf)) | ((with_reducible refine isK ?_); first | ((with_reducible refine xcv_i64 (by omega) (by omega) ?_); conv => whnf) | ((with_reducible refine xcv_u64 (by omega) (by omega) ?_); conv => whnf) | ((with_reducible refine xcv_u8 (by omega) (by omega) ?_); conv => whnf) | ((with_reducible refine xcv_raw ?_); conv => whnf)) | ((with_reducible refine need_i ?_ ?_) <;> first | omega | (conv => whnf)) | ((refine DrawX_s tabOk folOk ?_); conv => whnf) | ((refine DrawS_i (by kernel_rfl) ?_); conv => whnf) | ((with_reducible refine andX_i ?_ ?_) <;> (conv => whnf)) | (with_reducible exact rfl) | ((with_reducible refine xif_kt (by with_reducible assumption) ?_); conv => whnf) | ((with_reducible refine xif_kf (by with_reducible assumption) ?_); conv => whnf) | (((with_reducible refine xif_s ?_ ?_) <;> (intro hb; (try simp (disch := omega) only [wr, ge_dec, gt_dec, decide_eq_true_eq, decide_eq_false_iff_not, beq_iff_eq, bne_iff_ne, beq_eq_false_iff_ne, bne_eq_false_iff_eq, Bool.not_eq_true', Bool.not_eq_false', Bool.and_eq_true, Bool.or_eq_true, Bool.not_not, ne_eq, Decidable.not_not, Int.not_le, Int.not_lt, Int.toNat_natCast, not_true_eq_false, eq_self, Bool.not_true, Bool.not_false, Bool.true_eq_false, Bool.false_eq_true] at hb))) <;> (conv => whnf)))
        · refine ⟨k + 1, [], by omega, ?_, by (try dsimp only); omega⟩
          try dsimp only
          rw [sumB_next hitE (by omega), sumB_next passE (by omega)]
          ((refine ⟨?_, ?_, ?_, ?_⟩) <;> (repeat' ((conv => whnf); apply And.intro)) <;> (try (first | exact trivial | decide)))
          all_goals first | rfl | exact fun _ _ h => h | exact I_eq (wr (by omega) (by omega)) | (simp [SV.wf, SV.wfs]; done) | trace_state
        all_goals omega
      · obtain rfl : k = n := by omega
        (conv => whnf); repeat' (first | ((with_reducible refine isO ?_); first | ((refine OpX_build0 tabOk rfl rfl rfl ?_); intro bN; conv => whnf) | ((refine OpX_build tabOk rfl rfl rfl rfl rfl ?_); intro bN; conv => whnf)) | ((with_reducible refine isW ?_); first | ((with_reducible refine xwr_ok (by omega) (by omega) ?_); conv => whnf) | ((with_reducible refine xwr_raw ?_); conv => whnf)) | ((with_reducible refine isQ ?_); first | ((with_reducible refine xquo_nn (by omega) (by omega) (by omega) ?_); conv => whnf) | ((with_reducible refine xquo_ok (by omega) (by omega) (by omega) ?_); conv => whnf) | ((with_reducible refine xquo_raw (by omega) ?_); conv => whnf)) | ((with_reducible refine isR ?_); first | ((with_reducible refine xrem_nn (by omega) (by omega) ?_); conv => whnf) | ((with_reducible refine xrem_raw (by omega) ?_); conv => whnf)) | ((with_reducible refine isS ?_); first | ((with_reducible refine xshr_1 ?_); conv => whnf)) | ((with_reducible refine isK ?_); first | ((with_reducible refine xcv_i64 (by omega) (by omega) ?_); conv => whnf) | ((with_reducible refine xcv_u64 (by omega) (by omega) ?_); conv => whnf) | ((with_reducible refine xcv_u8 (by omega) (by omega) ?_); conv => whnf) | ((with_reducible refine xcv_raw ?_); conv => whnf)) | ((with_reducible refine need_i ?_ ?_) <;> first | omega | (conv => whnf)) | ((refine DrawX_s tabOk folOk ?_); conv => whnf) | ((refine DrawS_i (by kernel_rfl) ?_); conv => whnf) | ((with_reducible refine andX_i ?_ ?_) <;> (conv => whnf)) | (with_reducible exact rfl) | ((with_reducible refine xif_kt (by with_reducible assumption) ?_); conv => whnf) | ((with_reducible refine xif_kf (by with_reducible assumption) ?_); conv => whnf) | (((with_reducible refine xif_s ?_ ?_) <;> (intro hb; (try simp (disch := omega) only [wr, ge_dec, gt_dec, decide_eq_true_eq, decide_eq_false_iff_not, beq_iff_eq, bne_iff_ne, beq_eq_false_iff_ne, bne_eq_false_iff_eq, Bool.not_eq_true', Bool.not_eq_false', Bool.and_eq_true, Bool.or_eq_true, Bool.not_not, ne_eq, Decidable.not_not, Int.not_le, Int.not_lt, Int.toNat_natCast, not_true_eq_false, eq_self, Bool.not_true, Bool.not_false, Bool.true_eq_false, Bool.false_eq_true] at hb))) <;> (conv => whnf)))
        · exfalso
          omega
        · refine Fin_pure rfl ?_ (by simp [SV.wf, SV.wfs])
          rw [List.take_of_length_le (by omega)]
end Go.Proofs.Ytdjimfngnhnhnaa.En
