/- slices.BinarySearchFunc over entries, and evidence.At. -/
import Derived.Test.YtdjimfngnhnhnaaEv
set_option linter.all false
namespace Go.Proofs.Ytdjimfngnhnhnaa.En
open Go.RowKit
set_option maxRecDepth 100000

/-- binary search: the first of i .. j at which p does not hold -/
def bsI (p : Nat → Bool) : Nat → Nat → Nat → Nat
  | 0, i, _ => i
  | f + 1, i, j => if i < j then (if p ((i + j) / 2) then bsI p f ((i + j) / 2 + 1) j else bsI p f i ((i + j) / 2)) else i
theorem bsI_end (p : Nat → Bool) (f i : Nat) : bsI p f i i = i := by cases f <;> simp [bsI]
theorem bsI_le (p : Nat → Bool) : ∀ f i j, i ≤ j → i ≤ bsI p f i j ∧ bsI p f i j ≤ j
  | 0, i, j, h => ⟨Nat.le_refl _, h⟩
  | f + 1, i, j, h => by
    unfold bsI
    split
    · split
      · have := bsI_le p f ((i + j) / 2 + 1) j (by omega)
        omega
      · have := bsI_le p f i ((i + j) / 2) (by omega)
        omega
    · omega
/-- of a predicate that holds up to some place and not from there on, the place -/
theorem bsI_at (p : Nat → Bool) (m : Nat) : ∀ f i j, j - i ≤ f → i ≤ m → m ≤ j → (∀ k, k < m → p k = true) → (∀ k, m ≤ k → k < j → p k = false) → bsI p f i j = m
  | 0, i, j, h, h1, h2, _, _ => by simp [bsI]; omega
  | f + 1, i, j, h, h1, h2, ht, hf => by
    unfold bsI
    by_cases hij : i < j
    · rw [if_pos hij]
      by_cases hm : (i + j) / 2 < m
      · rw [ht _ hm, if_pos rfl]
        exact bsI_at p m f _ j (by omega) (by omega) h2 ht hf
      · rw [hf _ (by omega) (by omega), if_neg (by simp)]
        exact bsI_at p m f i _ (by omega) h1 (by omega) ht fun k h3 h4 => hf k h3 (by omega)
    · rw [if_neg hij]
      omega

theorem At1_d (e : EntT) (c : CellT) : PureD Try.prog 67 [.a [I e.1, I e.2.1, I e.2.2.1, I e.2.2.2], .a [I c.1, I c.2]] (I (cellI e.cell c)) := by
  refine PureD.of Try.func67 rfl tabOk rfl rfl rfl (by simp [SV.wfs, SV.wf]) (by simp [SV.wfs, SV.wf]) fun w => ?_
  (conv => whnf); repeat' (first | ((with_reducible refine isC ?_); first | ((with_reducible refine CallX_d (compare_d (_, _) (_, _)) ?_) <;> first | omega | (with_reducible show (_ : Int) ≤ _) | (with_reducible show (_ : Int) < _) | (with_reducible show (_ : Nat) ≤ _) | (with_reducible show (_ : Nat) < _) | (conv => whnf))) | ((with_reducible refine isO ?_); first | ((refine OpX_build0 tabOk rfl rfl rfl ?_); intro bN; conv => whnf) | ((refine OpX_build tabOk rfl rfl rfl rfl rfl ?_); intro bN; conv => whnf)) | ((with_reducible refine isW ?_); first | ((with_reducible refine xwr_ok (by omega) (by omega) ?_); conv => whnf) | ((with_reducible refine xwr_raw ?_); conv => whnf)) | ((with_reducible refine isQ ?_); first | ((with_reducible refine xquo_nn (by omega) (by omega) (by omega) ?_); conv => whnf) | ((with_reducible refine xquo_ok (by omega) (by omega) (by omega) ?_); conv => whnf) | ((with_reducible refine xquo_raw (by omega) ?_); conv => whnf)) | ((with_reducible refine isR ?_); first | ((with_reducible refine xrem_nn (by omega) (by omega) ?_); conv => whnf) | ((with_reducible refine xrem_raw (by omega) ?_); conv => whnf)) | ((with_reducible refine isS ?_); first | ((with_reducible refine xshr_1 ?_); conv => whnf)) | ((with_reducible refine isK ?_); first | ((with_reducible refine xcv_i64 (by omega) (by omega) ?_); conv => whnf) | ((with_reducible refine xcv_u64 (by omega) (by omega) ?_); conv => whnf) | ((with_reducible refine xcv_u8 (by omega) (by omega) ?_); conv => whnf) | ((with_reducible refine xcv_raw ?_); conv => whnf)) | ((with_reducible refine need_i ?_ ?_) <;> first | omega | (conv => whnf)) | ((refine DrawX_s tabOk folOk ?_); conv => whnf) | ((refine DrawS_i (by kernel_rfl) ?_); conv => whnf) | ((with_reducible refine andX_i ?_ ?_) <;> (conv => whnf)) | (with_reducible exact rfl) | ((with_reducible refine xif_kt (by with_reducible assumption) ?_); conv => whnf) | ((with_reducible refine xif_kf (by with_reducible assumption) ?_); conv => whnf) | (((with_reducible refine xif_s ?_ ?_) <;> (intro hb; (try simp (disch := omega) only [wr, ge_dec, gt_dec, decide_eq_true_eq, decide_eq_false_iff_not, beq_iff_eq, bne_iff_ne, beq_eq_false_iff_ne, bne_eq_false_iff_eq, Bool.not_eq_true', Bool.not_eq_false', Bool.and_eq_true, Bool.or_eq_true, Bool.not_not, ne_eq, Decidable.not_not, Int.not_le, Int.not_lt, Int.toNat_natCast, not_true_eq_false, eq_self, Bool.not_true, Bool.not_false, Bool.true_eq_false, Bool.false_eq_true] at hb))) <;> (conv => whnf)))
  exact Fin_d rfl rfl rfl trivial

def befP (l : List EntT) (c : CellT) (k : Nat) : Bool := decide (cellI (l.getD k e0).cell c < 0)
def bsE (l : List EntT) (c : CellT) : Nat := bsI (befP l c) l.length 0 l.length
def bsF (l : List EntT) (c : CellT) : Bool := decide (bsE l c < l.length) && decide (cellI (l.getD (bsE l c) e0).cell c = 0)
set_option maxHeartbeats 1000000 in
theorem BSF_v (A : Option Addr) (c : Nat) (l : List EntT) (x : CellT) {n : Nat} (hl : l.length = n) (hn : n ≤ 1000000000) :
    CallV Try.prog 66 [.v (.slice A n c), .a [I x.1, I x.2], .v (.func (.func 67) #[] #[])] (fun w => ArgSl w A n 4 (l.map encE)) (.t [I (bsE l x), B (bsF l x)]) := by
  refine CallV.of Try.func66 rfl tabOk rfl rfl rfl (by simp [SV.wfs, SV.wf]) (by simp [SV.wfs, SV.wf]) fun w hpre => ?_
  (conv => whnf); repeat' (first | ((with_reducible refine isO ?_); first | ((refine OpX_build0 tabOk rfl rfl rfl ?_); intro bN; conv => whnf) | ((refine OpX_build tabOk rfl rfl rfl rfl rfl ?_); intro bN; conv => whnf)) | ((with_reducible refine isW ?_); first | ((with_reducible refine xwr_ok (by omega) (by omega) ?_); conv => whnf) | ((with_reducible refine xwr_raw ?_); conv => whnf)) | ((with_reducible refine isQ ?_); first | ((with_reducible refine xquo_nn (by omega) (by omega) (by omega) ?_); conv => whnf) | ((with_reducible refine xquo_ok (by omega) (by omega) (by omega) ?_); conv => whnf) | ((with_reducible refine xquo_raw (by omega) ?_); conv => whnf)) | ((with_reducible refine isR ?_); first | ((with_reducible refine xrem_nn (by omega) (by omega) ?_); conv => whnf) | ((with_reducible refine xrem_raw (by omega) ?_); conv => whnf)) | ((with_reducible refine isS ?_); first | ((with_reducible refine xshr_1 ?_); conv => whnf)) | ((with_reducible refine isK ?_); first | ((with_reducible refine xcv_i64 (by omega) (by omega) ?_); conv => whnf) | ((with_reducible refine xcv_u64 (by omega) (by omega) ?_); conv => whnf) | ((with_reducible refine xcv_u8 (by omega) (by omega) ?_); conv => whnf) | ((with_reducible refine xcv_raw ?_); conv => whnf)) | ((with_reducible refine need_i ?_ ?_) <;> first | omega | (conv => whnf)) | ((refine DrawX_s tabOk folOk ?_); conv => whnf) | ((refine DrawS_i (by kernel_rfl) ?_); conv => whnf) | ((with_reducible refine andX_i ?_ ?_) <;> (conv => whnf)) | (with_reducible exact rfl) | ((with_reducible refine xif_kt (by with_reducible assumption) ?_); conv => whnf) | ((with_reducible refine xif_kf (by with_reducible assumption) ?_); conv => whnf) | (((with_reducible refine xif_s ?_ ?_) <;> (intro hb; (try simp (disch := omega) only [wr, ge_dec, gt_dec, decide_eq_true_eq, decide_eq_false_iff_not, beq_iff_eq, bne_iff_ne, beq_eq_false_iff_ne, bne_eq_false_iff_eq, Bool.not_eq_true', Bool.not_eq_false', Bool.and_eq_true, Bool.or_eq_true, Bool.not_not, ne_eq, Decidable.not_not, Int.not_le, Int.not_lt, Int.toNat_natCast, not_true_eq_false, eq_self, Bool.not_true, Bool.not_false, Bool.true_eq_false, Bool.false_eq_true] at hb))) <;> (conv => whnf)))
  refine LoopX_inv tabOk (α := Nat × Nat) (fun p => p.1 ≤ p.2 ∧ p.2 ≤ n ∧ ∃ f, p.2 - p.1 ≤ f ∧ bsI (befP l x) f p.1 p.2 = bsE l x) (fun p => [(0, .v (.slice A n c)), (2, .v (.func (.func 67) #[] #[])), (4, .p 0 0), (8, I n), (9, I p.1), (10, I p.2)]) (fun _ => [.box 32 [I x.1, I x.2]]) (fun p => p.2 - p.1) (0, n) [0] ⟨Nat.zero_le _, Nat.le_refl _, n, by simp, by simp [bsE, hl]⟩ ?_ ?_
  · ((refine ⟨?_, ?_, ?_, ?_⟩) <;> (repeat' ((conv => whnf); apply And.intro)) <;> (try (first | exact trivial | decide)))
    all_goals first | rfl | exact fun _ _ h => h | simp [SV.wf, SV.wfs]
  · rintro ⟨i, j⟩ hk
    try dsimp only at hk ⊢
    obtain ⟨hij, hjn, f, hf, hr⟩ := hk
    (conv => whnf); repeat' (first | ((with_reducible refine isC ?_); first | ((with_reducible refine CallX_d (At1_d (l.getD (((i : Int) + j) / 2).toNat e0) x) ?_) <;> first | omega | (with_reducible show (_ : Int) ≤ _) | (with_reducible show (_ : Int) < _) | (with_reducible show (_ : Nat) ≤ _) | (with_reducible show (_ : Nat) < _) | (conv => whnf)) | ((with_reducible refine CallX_d (At1_d (l.getD i e0) x) ?_) <;> first | omega | (with_reducible show (_ : Int) ≤ _) | (with_reducible show (_ : Int) < _) | (with_reducible show (_ : Nat) ≤ _) | (with_reducible show (_ : Nat) < _) | (conv => whnf))) | ((with_reducible refine isV ?_); first | ((refine ValX_index tabOk rfl (hpre.mem (by decide) rfl) rfl ?_ ?_ ?_) <;> first | omega | (with_reducible show (_ : Int) ≤ _) | (with_reducible show (_ : Int) < _) | (with_reducible show (_ : Nat) ≤ _) | (with_reducible show (_ : Nat) < _) | (conv => whnf)) | ((with_reducible refine nat_idx ?_); (refine ValX_loadEn _ _ (e0) tabOk rfl rfl rfl rfl (hpre.mem (by decide) rfl) ?_ ?_ ?_) <;> first | rfl | omega | (with_reducible show (_ : Int) ≤ _) | (with_reducible show (_ : Int) < _) | (with_reducible show (_ : Nat) ≤ _) | (with_reducible show (_ : Nat) < _) | (conv => whnf)) | ((refine ValX_loadE _ _ (e0) tabOk rfl rfl rfl rfl (hpre.mem (by decide) rfl) ?_ ?_ ?_) <;> first | rfl | omega | (with_reducible show (_ : Int) ≤ _) | (with_reducible show (_ : Int) < _) | (with_reducible show (_ : Nat) ≤ _) | (with_reducible show (_ : Nat) < _) | (conv => whnf))) | ((with_reducible refine isO ?_); first | ((refine OpX_build0 tabOk rfl rfl rfl ?_); intro bN; conv => whnf) | ((refine OpX_build tabOk rfl rfl rfl rfl rfl ?_); intro bN; conv => whnf)) | ((with_reducible refine isW ?_); first | ((with_reducible refine xwr_ok (by omega) (by omega) ?_); conv => whnf) | ((with_reducible refine xwr_raw ?_); conv => whnf)) | ((with_reducible refine isQ ?_); first | ((with_reducible refine xquo_nn (by omega) (by omega) (by omega) ?_); conv => whnf) | ((with_reducible refine xquo_ok (by omega) (by omega) (by omega) ?_); conv => whnf) | ((with_reducible refine xquo_raw (by omega) ?_); conv => whnf)) | ((with_reducible refine isR ?_); first | ((with_reducible refine xrem_nn (by omega) (by omega) ?_); conv => whnf) | ((with_reducible refine xrem_raw (by omega) ?_); conv => whnf)) | ((with_reducible refine isS ?_); first | ((with_reducible refine xshr_1 ?_); conv => whnf)) | ((with_reducible refine isK ?_); first | ((with_reducible refine xcv_i64 (by omega) (by omega) ?_); conv => whnf) | ((with_reducible refine xcv_u64 (by omega) (by omega) ?_); conv => whnf) | ((with_reducible refine xcv_u8 (by omega) (by omega) ?_); conv => whnf) | ((with_reducible refine xcv_raw ?_); conv => whnf)) | ((with_reducible refine need_i ?_ ?_) <;> first | omega | (conv => whnf)) | ((refine DrawX_s tabOk folOk ?_); conv => whnf) | ((refine DrawS_i (by kernel_rfl) ?_); conv => whnf) | ((with_reducible refine andX_i ?_ ?_) <;> (conv => whnf)) | (with_reducible exact rfl) | ((with_reducible refine xif_kt (by with_reducible assumption) ?_); conv => whnf) | ((with_reducible refine xif_kf (by with_reducible assumption) ?_); conv => whnf) | (((with_reducible refine xif_s ?_ ?_) <;> (intro hb; (try simp (disch := omega) only [wr, ge_dec, gt_dec, decide_eq_true_eq, decide_eq_false_iff_not, beq_iff_eq, bne_iff_ne, beq_eq_false_iff_ne, bne_eq_false_iff_eq, Bool.not_eq_true', Bool.not_eq_false', Bool.and_eq_true, Bool.or_eq_true, Bool.not_not, ne_eq, Decidable.not_not, Int.not_le, Int.not_lt, Int.toNat_natCast, not_true_eq_false, eq_self, Bool.not_true, Bool.not_false, Bool.true_eq_false, Bool.false_eq_true] at hb))) <;> (conv => whnf)))
    all_goals try (rw [show ((((i : Int) + j) / 2).toNat) = (i + j) / 2 by omega] at hb)
    · have hlt : i < j := by omega
      obtain ⟨f, rfl⟩ : ∃ f', f = f' + 1 := ⟨f - 1, by omega⟩
      have hp : befP l x ((i + j) / 2) = true := by simpa [befP] using hb
      rw [bsI, if_pos hlt, hp, if_pos rfl] at hr
      refine ⟨((i + j) / 2 + 1, j), [0], ⟨by (try dsimp only); omega, hjn, f, by (try dsimp only); omega, hr⟩, ?_, by (try dsimp only); omega⟩
      ((refine ⟨?_, ?_, ?_, ?_⟩) <;> (repeat' ((conv => whnf); apply And.intro)) <;> (try (first | exact trivial | decide)))
      all_goals first | rfl | exact fun _ _ h => h | exact I_eq (by omega) | simp [SV.wf, SV.wfs]
    · have hlt : i < j := by omega
      obtain ⟨f, rfl⟩ : ∃ f', f = f' + 1 := ⟨f - 1, by omega⟩
      have hp : befP l x ((i + j) / 2) = false := by simpa [befP] using hb
      rw [bsI, if_pos hlt, hp, if_neg (by simp)] at hr
      refine ⟨(i, (i + j) / 2), [0], ⟨by (try dsimp only); omega, by (try dsimp only); omega, f, by (try dsimp only); omega, hr⟩, ?_, by (try dsimp only); omega⟩
      ((refine ⟨?_, ?_, ?_, ?_⟩) <;> (repeat' ((conv => whnf); apply And.intro)) <;> (try (first | exact trivial | decide)))
      all_goals first | rfl | exact fun _ _ h => h | exact I_eq (by omega) | simp [SV.wf, SV.wfs]
    · obtain rfl : i = j := by omega
      rw [bsI_end] at hr
      refine Fin_d rfl rfl ?_ (by simp [SV.wf, SV.wfs])
      have hlt : bsE l x < l.length := by omega
      simp only [bsF, ← hr]
      rw [hr, decide_eq_true hlt, ← hr, Bool.true_and]
      rfl
    · obtain rfl : i = j := by omega
      rw [bsI_end] at hr
      refine Fin_d rfl rfl ?_ (by simp [SV.wf, SV.wfs])
      have hlt : ¬ bsE l x < l.length := by omega
      simp only [bsF, ← hr]
      rw [hr, decide_eq_false hlt, ← hr, Bool.false_and]

theorem bsF_lt {l : List EntT} {x : CellT} (h : bsF l x = true) : bsE l x < l.length := by
  simp only [bsF, Bool.and_eq_true, decide_eq_true_eq] at h
  exact h.1
/-- evidence.At -/
def atE (l : List EntT) (x : CellT) : EntT := if bsF l x && vE l then l.getD (bsE l x) e0 else (x.1, x.2, 0, 0)
theorem At_v (A : Option Addr) (c : Nat) (l : List EntT) (x : CellT) {n : Nat} (hl : l.length = n) (hn : n ≤ 1000000000) :
    CallV Try.prog 21 [.v (.slice A n c), .a [I x.1, I x.2]] (fun w => ArgSl w A n 4 (l.map encE)) (.a [I (atE l x).1, I (atE l x).2.1, I (atE l x).2.2.1, I (atE l x).2.2.2]) := by
  have hlen := bsF_lt (l := l) (x := x)
  refine CallV.of Try.func21 rfl tabOk rfl rfl rfl (by simp [SV.wfs, SV.wf]) (by simp [SV.wfs, SV.wf]) fun w hpre => ?_
  (conv => whnf); repeat' (first | ((with_reducible refine isC ?_); first | (refine CallX_v (BSF_v A c l x hl hn) (hpre.mem (by decide) rfl) ?_; conv => whnf) | (refine CallX_v (Valid_v A c l hl (by unfold maxLen; omega)) (hpre.mem (by decide) rfl) ?_; conv => whnf)) | ((with_reducible refine isV ?_); first | ((refine ValX_index tabOk rfl (hpre.mem (by decide) rfl) rfl ?_ ?_ ?_) <;> first | omega | (with_reducible show (_ : Int) ≤ _) | (with_reducible show (_ : Int) < _) | (with_reducible show (_ : Nat) ≤ _) | (with_reducible show (_ : Nat) < _) | (conv => whnf)) | ((with_reducible refine nat_idx ?_); (refine ValX_loadEn _ _ (e0) tabOk rfl rfl rfl rfl (hpre.mem (by decide) rfl) ?_ ?_ ?_) <;> first | rfl | omega | (with_reducible show (_ : Int) ≤ _) | (with_reducible show (_ : Int) < _) | (with_reducible show (_ : Nat) ≤ _) | (with_reducible show (_ : Nat) < _) | (conv => whnf)) | ((refine ValX_loadE _ _ (e0) tabOk rfl rfl rfl rfl (hpre.mem (by decide) rfl) ?_ ?_ ?_) <;> first | rfl | omega | (with_reducible show (_ : Int) ≤ _) | (with_reducible show (_ : Int) < _) | (with_reducible show (_ : Nat) ≤ _) | (with_reducible show (_ : Nat) < _) | (conv => whnf))) | ((with_reducible refine isO ?_); first | ((refine OpX_build0 tabOk rfl rfl rfl ?_); intro bN; conv => whnf) | ((refine OpX_build tabOk rfl rfl rfl rfl rfl ?_); intro bN; conv => whnf)) | ((with_reducible refine isW ?_); first | ((with_reducible refine xwr_ok (by omega) (by omega) ?_); conv => whnf) | ((with_reducible refine xwr_raw ?_); conv => whnf)) | ((with_reducible refine isQ ?_); first | ((with_reducible refine xquo_nn (by omega) (by omega) (by omega) ?_); conv => whnf) | ((with_reducible refine xquo_ok (by omega) (by omega) (by omega) ?_); conv => whnf) | ((with_reducible refine xquo_raw (by omega) ?_); conv => whnf)) | ((with_reducible refine isR ?_); first | ((with_reducible refine xrem_nn (by omega) (by omega) ?_); conv => whnf) | ((with_reducible refine xrem_raw (by omega) ?_); conv => whnf)) | ((with_reducible refine isS ?_); first | ((with_reducible refine xshr_1 ?_); conv => whnf)) | ((with_reducible refine isK ?_); first | ((with_reducible refine xcv_i64 (by omega) (by omega) ?_); conv => whnf) | ((with_reducible refine xcv_u64 (by omega) (by omega) ?_); conv => whnf) | ((with_reducible refine xcv_u8 (by omega) (by omega) ?_); conv => whnf) | ((with_reducible refine xcv_raw ?_); conv => whnf)) | ((with_reducible refine need_i ?_ ?_) <;> first | omega | (conv => whnf)) | ((refine DrawX_s tabOk folOk ?_); conv => whnf) | ((refine DrawS_i (by kernel_rfl) ?_); conv => whnf) | ((with_reducible refine andX_i ?_ ?_) <;> (conv => whnf)) | (with_reducible exact rfl) | ((with_reducible refine xif_kt (by with_reducible assumption) ?_); conv => whnf) | ((with_reducible refine xif_kf (by with_reducible assumption) ?_); conv => whnf) | (((with_reducible refine xif_s ?_ ?_) <;> (intro hb; (try simp (disch := omega) only [wr, ge_dec, gt_dec, decide_eq_true_eq, decide_eq_false_iff_not, beq_iff_eq, bne_iff_ne, beq_eq_false_iff_ne, bne_eq_false_iff_eq, Bool.not_eq_true', Bool.not_eq_false', Bool.and_eq_true, Bool.or_eq_true, Bool.not_not, ne_eq, Decidable.not_not, Int.not_le, Int.not_lt, Int.toNat_natCast, not_true_eq_false, eq_self, Bool.not_true, Bool.not_false, Bool.true_eq_false, Bool.false_eq_true] at hb))) <;> (conv => whnf)))
  all_goals try (have := hlen ‹_›; omega)
  · refine Fin_d rfl rfl ?_ (by simp [SV.wf, SV.wfs])
    simp only [atE, hb, Bool.false_and, Bool.false_eq_true, if_false]
  · refine Fin_d rfl rfl ?_ (by simp [SV.wf, SV.wfs])
    simp only [atE, hb, Bool.and_false, Bool.false_eq_true, if_false]
  · rename_i h1
    refine Fin_d rfl rfl ?_ (by simp [SV.wf, SV.wfs])
    simp only [atE, hb, h1, Bool.and_self, if_true]

/-! ### plain -/
theorem cellI_zero (a b : CellT) : cellI a b = 0 ↔ a = b := by
  constructor
  · intro h
    simp only [cellI, orI, cmpI] at h
    refine Prod.ext ?_ ?_
    all_goals
      repeat' split at h
      all_goals omega
  · rintro rfl
    simp [cellI, orI, cmpI]
theorem befP_iff (l : List EntT) (c : CellT) (k : Nat) : befP l c k = befB (l.getD k e0).cell c := by
  rw [Bool.eq_iff_iff, befP, decide_eq_true_eq, cellI_neg]
/-- in a valid list: where the entries before a cell end -/
theorem bsE_at {l : List EntT} (h : vE l = true) {x : CellT} {m : Nat} (hm : m ≤ l.length) (h1 : ∀ k, k < m → befB (l.getD k e0).cell x = true) (h2 : m < l.length → befB (l.getD m e0).cell x = false) : bsE l x = m := by
  unfold bsE
  refine bsI_at _ m _ _ _ (by omega) (Nat.zero_le _) hm (fun k hk => by rw [befP_iff]; exact h1 k hk) fun k hk hk' => ?_
  rw [befP_iff]
  have h3 := h2 (by omega)
  by_cases e : k = m
  · rw [e]; exact h3
  · have h4 := vE_asc h (show m < k by omega) hk'
    cases h5 : befB (l.getD k e0).cell x with
    | false => rfl
    | true => rw [befB_trans h4 h5] at h3; cases h3
theorem at_mem {l : List EntT} (h : vE l = true) {e : EntT} (he : e ∈ l) : atE l e.cell = e := by
  obtain ⟨m, hm, rfl⟩ := List.getElem_of_mem he
  have hg : l.getD m e0 = l[m] := by simp [hm]
  have hb : bsE l l[m].cell = m := bsE_at h (by omega) (fun k hk => by rw [← hg]; exact vE_asc h hk hm) (fun _ => by rw [hg]; exact befB_irr _)
  have hf : bsF l l[m].cell = true := by
    simp only [bsF, hb, hg]
    simp [hm, cellI_zero]
  simp only [atE, hf, h, Bool.and_self, if_true, hb, hg]
theorem at_none {l : List EntT} {x : CellT} (hx : ∀ e ∈ l, e.cell ≠ x) : atE l x = (x.1, x.2, 0, 0) := by
  unfold atE
  cases hf : bsF l x with
  | false => simp
  | true =>
    have hlt := bsF_lt hf
    simp only [bsF, Bool.and_eq_true, decide_eq_true_eq, cellI_zero] at hf
    refine (hx (l.getD (bsE l x) e0) ?_ hf.2).elim
    simp [hlt]
theorem at_bad {l : List EntT} {x : CellT} (h : vE l = false) : atE l x = (x.1, x.2, 0, 0) := by
  simp [atE, h]
end Go.Proofs.Ytdjimfngnhnhnaa.En
