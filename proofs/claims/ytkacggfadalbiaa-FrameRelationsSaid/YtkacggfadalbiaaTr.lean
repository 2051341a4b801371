/- wayfinderlaw33.truth: relations that agree with a placement of the robots. -/
import Derived.Test.YtkacggfadalbiaaPx
import Derived.Test.YtkacggfadalbiaaPl2
set_option linter.all false
namespace Go.Proofs.Ytkacggfadalbiaa.En
open Go.RowKit
set_option maxRecDepth 100000

def encF (f : Fr) : List Value := [.int .i64 f.1, .int .i64 f.2.1, .int .i64 f.2.2]
def encT (t : Int × Int) : List Value := [.int .i64 t.1, .int .i64 t.2]
def encR (r : RelT) : List Value := [.int .i64 r.1, .int .i64 r.2.1, .int .i64 r.2.2.1, .int .i64 r.2.2.2.1, .int .i64 r.2.2.2.2]

/-- the frames, with those that are lacking -/
def padTo (ats : List Fr) (k : Nat) : List Fr := ats ++ (List.range (k - ats.length)).map fun (i : Nat) => ((0 : Int), ((ats.length + i : Nat) : Int), (0 : Int))
def plc (ats : List Fr) (k : Int) : Fr := nearF ((padTo ats 8).getD k.toNat (0, 0, 0)) 200
def truths (ats : List Fr) (l : List (Int × Int)) : List RelT := l.filterMap fun t => if t.1 % 8 = t.2 % 8 then none else some (trueRel (plc ats) (t.1 % 8) (t.2 % 8))

theorem nearF_bd (f : Fr) (m : Int) (h : 0 ≤ m) : -m ≤ (nearF f m).2.1 ∧ (nearF f m).2.1 ≤ m ∧ -m ≤ (nearF f m).2.2 ∧ (nearF f m).2.2 ≤ m := by
  simp only [nearF, clipI]
  omega
theorem padTo_self (ats : List Fr) : padTo ats ats.length = ats := by simp [padTo]
theorem padTo_succ {ats : List Fr} {n : Nat} (h : ats.length ≤ n) : padTo ats (n + 1) = padTo ats n ++ [(0, (n : Int), 0)] := by
  unfold padTo
  rw [show n + 1 - ats.length = (n - ats.length) + 1 by omega, List.range_succ, List.map_append, List.append_assoc]
  simp
  omega
theorem truths_len (ats : List Fr) (l : List (Int × Int)) : (truths ats l).length ≤ l.length := List.length_filterMap_le _ _
theorem padTo_len {ats : List Fr} (h : ats.length ≤ 8) : (padTo ats 8).length = 8 := by
  simp [padTo]
  omega
theorem truths_skip (ats : List Fr) {l : List (Int × Int)} {k : Nat} (hk : k < l.length) (h : (l.getD k (0, 0)).1 % 8 = (l.getD k (0, 0)).2 % 8) : truths ats (l.take (k + 1)) = truths ats (l.take k) := by
  have h' : (l[k]).1 % 8 = (l[k]).2 % 8 := by simpa [hk] using h
  rw [List.take_succ_eq_append_getElem hk, truths, List.filterMap_append]
  simp [truths, h']
theorem truths_next (ats : List Fr) {l : List (Int × Int)} {k : Nat} (hk : k < l.length) (h : ¬ (l.getD k (0, 0)).1 % 8 = (l.getD k (0, 0)).2 % 8) : truths ats (l.take (k + 1)) = truths ats (l.take k) ++ [trueRel (plc ats) ((l.getD k (0, 0)).1 % 8) ((l.getD k (0, 0)).2 % 8)] := by
  have h' : ¬ (l[k]).1 % 8 = (l[k]).2 % 8 := by simpa [hk] using h
  rw [List.take_succ_eq_append_getElem hk, truths, List.filterMap_append]
  simp [truths, h', hk]
theorem truth_r (A1 A2 : Option Addr) (c1 c2 : Nat) (ats : List Fr) (l : List (Int × Int)) (h1 : ats.length ≤ 8) (h2 : l.length ≤ 20) :
    CallR Try.prog 38 [.v (.slice A1 ats.length c1), .v (.slice A2 l.length c2)] (fun w => ArgSl w A1 ats.length 3 (ats.map encF) ∧ ArgSl w A2 l.length 2 (l.map encT)) 56 5 ((truths ats l).map encR)
      (fun A c => .t [.v (.slice A (truths ats l).length c), B true]) := by
  refine CallR.of Try.func38 rfl tabOk rfl rfl rfl (by simp [SV.wfs, SV.wf]) (by intro _ _; simp [SV.wfs, SV.wf]) ?_ ?_ ?_ fun w hpre => ?_
  · have := truths_len ats l
    simp
    omega
  · intro q hq
    obtain ⟨r, _, rfl⟩ := List.mem_map.1 hq
    rfl
  · intro q hq
    obtain ⟨x, hx, hqx⟩ := List.mem_flatten.1 hq
    obtain ⟨r, _, rfl⟩ := List.mem_map.1 hx
    simp [encR] at hqx
    rcases hqx with rfl | rfl | rfl | rfl | rfl <;> rfl
  obtain ⟨hA1, hA2⟩ := hpre
  (conv => whnf); repeat' (first | ((with_reducible refine isO ?_); first | ((refine OpX_build0 tabOk rfl rfl rfl ?_); intro bN; conv => whnf) | ((refine OpX_build tabOk rfl rfl rfl rfl rfl ?_); intro bN; conv => whnf)) | ((with_reducible refine isW ?_); first | ((with_reducible refine xwr_ok (by omega) (by omega) ?_); conv => whnf) | ((with_reducible refine xwr_raw ?_); conv => whnf)) | ((with_reducible refine isQ ?_); first | ((with_reducible refine xquo_nn (by omega) (by omega) (by omega) ?_); conv => whnf) | ((with_reducible refine xquo_ok (by omega) (by omega) (by omega) ?_); conv => whnf) | ((with_reducible refine xquo_raw (by omega) ?_); conv => whnf)) | ((with_reducible refine isR ?_); first | ((with_reducible refine xrem_nn (by omega) (by omega) ?_); conv => whnf) | ((with_reducible refine xrem_raw (by omega) ?_); conv => whnf)) | ((with_reducible refine need_i ?_ ?_) <;> first | omega | (conv => whnf)) | ((refine DrawX_s tabOk folOk ?_); conv => whnf) | ((refine DrawS_i (by kernel_rfl) ?_); conv => whnf) | ((with_reducible refine andX_i ?_ ?_) <;> (conv => whnf)) | (with_reducible exact rfl) | ((with_reducible refine xif_kt (by with_reducible assumption) ?_); conv => whnf) | ((with_reducible refine xif_kf (by with_reducible assumption) ?_); conv => whnf) | (((with_reducible refine xif_s ?_ ?_) <;> (intro hb; (try simp (disch := omega) only [wr, ge_dec, gt_dec, decide_eq_true_eq, decide_eq_false_iff_not, beq_iff_eq, bne_iff_ne, beq_eq_false_iff_ne, bne_eq_false_iff_eq, Bool.not_eq_true', Bool.not_eq_false', Bool.and_eq_true, Bool.or_eq_true, Bool.not_not, ne_eq, Decidable.not_not, Int.not_le, Int.not_lt, Int.toNat_natCast, not_true_eq_false, eq_self, Bool.not_true, Bool.not_false, Bool.true_eq_false, Bool.false_eq_true] at hb))) <;> (conv => whnf)))
  refine LoopX_rd hA1 ?_
  conv => whnf
  refine LoopX_inv tabOk (α := Nat × Option Addr × Nat) (fun p => ats.length ≤ p.1 ∧ p.1 ≤ 8) (fun p => [(0, .v (.slice p.2.1 p.1 p.2.2)), (1, .v (.slice A2 l.length c2)), (4, .v (.slice none 0 0))]) (fun p => [rdO w p.2.1 p.1 3 ((padTo ats p.1).map encF)]) (fun p => 8 - p.1) (ats.length, A1, c1) [0] ⟨Nat.le_refl _, h1⟩ ?_ ?_
  · dsimp only
    rw [padTo_self]
    ((refine ⟨?_, ?_, ?_, ?_⟩) <;> (repeat' ((conv => whnf); apply And.intro)) <;> (try (first | exact trivial | decide)))
    all_goals first | rfl | exact fun _ _ h => h
  · rintro ⟨n, A, c⟩ ⟨hn1, hn2⟩
    dsimp only at hn1 hn2 ⊢
    (conv => whnf); repeat' (first | ((with_reducible refine isO ?_); first | ((refine OpX_append 1 tabOk rfl rfl rfl rfl (ArgSl.rd 0 (by decide) rfl rfl) (by decide) ?_ ?_ ?_) <;> first | omega | (dsimp only; omega) | (intro A' c'; conv => whnf)) | ((refine OpX_append 1 tabOk rfl rfl rfl rfl (ArgSl.row 2 rfl) (by decide) ?_ ?_ ?_) <;> first | omega | (dsimp only; omega) | (intro A' c'; conv => whnf)) | ((refine OpX_build0 tabOk rfl rfl rfl ?_); intro bN; conv => whnf) | ((refine OpX_build tabOk rfl rfl rfl rfl rfl ?_); intro bN; conv => whnf)) | ((with_reducible refine isW ?_); first | ((with_reducible refine xwr_ok (by omega) (by omega) ?_); conv => whnf) | ((with_reducible refine xwr_raw ?_); conv => whnf)) | ((with_reducible refine isQ ?_); first | ((with_reducible refine xquo_nn (by omega) (by omega) (by omega) ?_); conv => whnf) | ((with_reducible refine xquo_ok (by omega) (by omega) (by omega) ?_); conv => whnf) | ((with_reducible refine xquo_raw (by omega) ?_); conv => whnf)) | ((with_reducible refine isR ?_); first | ((with_reducible refine xrem_nn (by omega) (by omega) ?_); conv => whnf) | ((with_reducible refine xrem_raw (by omega) ?_); conv => whnf)) | ((with_reducible refine need_i ?_ ?_) <;> first | omega | (conv => whnf)) | ((refine DrawX_s tabOk folOk ?_); conv => whnf) | ((refine DrawS_i (by kernel_rfl) ?_); conv => whnf) | ((with_reducible refine andX_i ?_ ?_) <;> (conv => whnf)) | (with_reducible exact rfl) | ((with_reducible refine xif_kt (by with_reducible assumption) ?_); conv => whnf) | ((with_reducible refine xif_kf (by with_reducible assumption) ?_); conv => whnf) | (((with_reducible refine xif_s ?_ ?_) <;> (intro hb; (try simp (disch := omega) only [wr, ge_dec, gt_dec, decide_eq_true_eq, decide_eq_false_iff_not, beq_iff_eq, bne_iff_ne, beq_eq_false_iff_ne, bne_eq_false_iff_eq, Bool.not_eq_true', Bool.not_eq_false', Bool.and_eq_true, Bool.or_eq_true, Bool.not_not, ne_eq, Decidable.not_not, Int.not_le, Int.not_lt, Int.toNat_natCast, not_true_eq_false, eq_self, Bool.not_true, Bool.not_false, Bool.true_eq_false, Bool.false_eq_true] at hb))) <;> (conv => whnf)))
    · refine ⟨(n + 1, A', c'), [1], ⟨by dsimp only; omega, by dsimp only; omega⟩, ?_, by dsimp only; omega⟩
      dsimp only
      rw [padTo_succ hn1, List.map_append]
      simp only [Nat.zero_add, List.nil_append]
      ((refine ⟨?_, ?_, ?_, ?_⟩) <;> (repeat' ((conv => whnf); apply And.intro)) <;> (try (first | exact trivial | decide)))
      all_goals first | rfl | exact rdO_row
    · obtain rfl : n = 8 := by omega
      refine LoopX_addNil 56 5 ?_
      conv => whnf
      refine LoopX_inv tabOk (α := Nat × Option Addr × Nat) (fun p => p.1 ≤ l.length) (fun p => [(7, I p.1), (6, .v (.slice p.2.1 (truths ats (l.take p.1)).length p.2.2)), (0, .v (.slice A 8 c)), (1, .v (.slice A2 l.length c2))]) (fun p => [rdO w A 8 3 ((padTo ats 8).map encF), .row 56 5 p.2.1 (truths ats (l.take p.1)).length p.2.2 ((truths ats (l.take p.1)).map encR)]) (fun p => l.length - p.1) (0, none, 0) [0, 1] (by dsimp only; omega) ?_ ?_
      · dsimp only
        ((refine ⟨?_, ?_, ?_, ?_⟩) <;> (repeat' ((conv => whnf); apply And.intro)) <;> (try (first | exact trivial | decide)))
        all_goals first | rfl | exact fun _ _ h => h
      · rintro ⟨k, A', c'⟩ hk
        dsimp only at hk ⊢
        have hpl := padTo_len h1
        have htl := truths_len ats (l.take k)
        have htk : (l.take k).length ≤ k := List.length_take_le _ _
        (conv => whnf); repeat' (first | ((with_reducible refine isC ?_); first | ((with_reducible refine CallX_pure (mod_x _ _ ?_ ?_) ?_) <;> first | omega | (with_reducible show (_ : Int) ≤ _) | (with_reducible show (_ : Int) < _) | (with_reducible show (_ : Nat) ≤ _) | (with_reducible show (_ : Nat) < _) | (conv => whnf)) | ((with_reducible refine CallX_pure (near_x _ _ ?_ ?_) ?_) <;> first | omega | (with_reducible show (_ : Int) ≤ _) | (with_reducible show (_ : Int) < _) | (with_reducible show (_ : Nat) ≤ _) | (with_reducible show (_ : Nat) < _) | (conv => whnf)) | ((with_reducible refine CallX_pure (Inverse_x 200 (nearF _ 200) (nearF_bd _ 200 (by decide)) (by decide)) ?_) <;> first | omega | (with_reducible show (_ : Int) ≤ _) | (with_reducible show (_ : Int) < _) | (with_reducible show (_ : Nat) ≤ _) | (with_reducible show (_ : Nat) < _) | (conv => whnf)) | ((with_reducible refine CallX_pure (Compose_x 200 200 (invF (nearF _ 200)) (nearF _ 200) (invF_bd _ 200 (nearF_bd _ 200 (by decide))).2.2 (nearF_bd _ 200 (by decide)) (by decide)) ?_) <;> first | omega | (with_reducible show (_ : Int) ≤ _) | (with_reducible show (_ : Int) < _) | (with_reducible show (_ : Nat) ≤ _) | (with_reducible show (_ : Nat) < _) | (conv => whnf))) | ((with_reducible refine isV ?_); first | ((refine ValX_index tabOk rfl (hA2.mem (by decide) rfl) rfl ?_ ?_ ?_) <;> first | omega | (with_reducible show (_ : Int) ≤ _) | (with_reducible show (_ : Int) < _) | (with_reducible show (_ : Nat) ≤ _) | (with_reducible show (_ : Nat) < _) | (conv => whnf)) | ((with_reducible refine nat_idx ?_); (refine ValX_loadEn _ _ ((0, 0)) tabOk rfl rfl rfl rfl (hA2.mem (by decide) rfl) ?_ ?_ ?_) <;> first | rfl | omega | (with_reducible show (_ : Int) ≤ _) | (with_reducible show (_ : Int) < _) | (with_reducible show (_ : Nat) ≤ _) | (with_reducible show (_ : Nat) < _) | (conv => whnf)) | ((refine ValX_loadE _ _ ((0, 0)) tabOk rfl rfl rfl rfl (hA2.mem (by decide) rfl) ?_ ?_ ?_) <;> first | rfl | omega | (with_reducible show (_ : Int) ≤ _) | (with_reducible show (_ : Int) < _) | (with_reducible show (_ : Nat) ≤ _) | (with_reducible show (_ : Nat) < _) | (conv => whnf)) | ((with_reducible refine nat_idxF ?_); (refine ValX_loadFn _ _ ((0, 0)) _ tabOk rfl rfl rfl (hA2.mem (by decide) rfl) ?_ ?_ rfl ?_) <;> first | omega | (simp; omega) | (with_reducible show (_ : Int) ≤ _) | (with_reducible show (_ : Int) < _) | (with_reducible show (_ : Nat) ≤ _) | (with_reducible show (_ : Nat) < _) | (conv => whnf)) | ((refine ValX_loadF _ _ ((0, 0)) _ tabOk rfl rfl rfl (hA2.mem (by decide) rfl) ?_ ?_ rfl ?_) <;> first | omega | (simp; omega) | (with_reducible show (_ : Int) ≤ _) | (with_reducible show (_ : Int) < _) | (with_reducible show (_ : Nat) ≤ _) | (with_reducible show (_ : Nat) < _) | (conv => whnf)) | ((refine ValX_index tabOk rfl (ArgSl.rd 0 (by decide) rfl rfl) rfl ?_ ?_ ?_) <;> first | omega | (with_reducible show (_ : Int) ≤ _) | (with_reducible show (_ : Int) < _) | (with_reducible show (_ : Nat) ≤ _) | (with_reducible show (_ : Nat) < _) | (conv => whnf)) | ((with_reducible refine nat_idx ?_); (refine ValX_loadEn _ _ ((0, 0, 0)) tabOk rfl rfl rfl rfl (ArgSl.rd 0 (by decide) rfl rfl) ?_ ?_ ?_) <;> first | rfl | omega | (with_reducible show (_ : Int) ≤ _) | (with_reducible show (_ : Int) < _) | (with_reducible show (_ : Nat) ≤ _) | (with_reducible show (_ : Nat) < _) | (conv => whnf)) | ((refine ValX_loadE _ _ ((0, 0, 0)) tabOk rfl rfl rfl rfl (ArgSl.rd 0 (by decide) rfl rfl) ?_ ?_ ?_) <;> first | rfl | omega | (with_reducible show (_ : Int) ≤ _) | (with_reducible show (_ : Int) < _) | (with_reducible show (_ : Nat) ≤ _) | (with_reducible show (_ : Nat) < _) | (conv => whnf))) | ((with_reducible refine isO ?_); first | ((refine OpX_append 1 tabOk rfl rfl rfl rfl (ArgSl.row 4 rfl) (by decide) ?_ ?_ ?_) <;> first | omega | (dsimp only; omega) | (intro A' c'; conv => whnf)) | ((refine OpX_build0 tabOk rfl rfl rfl ?_); intro bN; conv => whnf) | ((refine OpX_build tabOk rfl rfl rfl rfl rfl ?_); intro bN; conv => whnf)) | ((with_reducible refine isW ?_); first | ((with_reducible refine xwr_ok (by omega) (by omega) ?_); conv => whnf) | ((with_reducible refine xwr_raw ?_); conv => whnf)) | ((with_reducible refine isQ ?_); first | ((with_reducible refine xquo_nn (by omega) (by omega) (by omega) ?_); conv => whnf) | ((with_reducible refine xquo_ok (by omega) (by omega) (by omega) ?_); conv => whnf) | ((with_reducible refine xquo_raw (by omega) ?_); conv => whnf)) | ((with_reducible refine isR ?_); first | ((with_reducible refine xrem_nn (by omega) (by omega) ?_); conv => whnf) | ((with_reducible refine xrem_raw (by omega) ?_); conv => whnf)) | ((with_reducible refine need_i ?_ ?_) <;> first | omega | (conv => whnf)) | ((refine DrawX_s tabOk folOk ?_); conv => whnf) | ((refine DrawS_i (by kernel_rfl) ?_); conv => whnf) | ((with_reducible refine andX_i ?_ ?_) <;> (conv => whnf)) | (with_reducible exact rfl) | ((with_reducible refine xif_kt (by with_reducible assumption) ?_); conv => whnf) | ((with_reducible refine xif_kf (by with_reducible assumption) ?_); conv => whnf) | (((with_reducible refine xif_s ?_ ?_) <;> (intro hb; (try simp (disch := omega) only [wr, ge_dec, gt_dec, decide_eq_true_eq, decide_eq_false_iff_not, beq_iff_eq, bne_iff_ne, beq_eq_false_iff_ne, bne_eq_false_iff_eq, Bool.not_eq_true', Bool.not_eq_false', Bool.and_eq_true, Bool.or_eq_true, Bool.not_not, ne_eq, Decidable.not_not, Int.not_le, Int.not_lt, Int.toNat_natCast, not_true_eq_false, eq_self, Bool.not_true, Bool.not_false, Bool.true_eq_false, Bool.false_eq_true] at hb))) <;> (conv => whnf)))
        · refine ⟨(k + 1, A', c'), [0, 1], by dsimp only; omega, ?_, by dsimp only; omega⟩
          dsimp only
          rw [truths_skip ats (by omega) hb]
          ((refine ⟨?_, ?_, ?_, ?_⟩) <;> (repeat' ((conv => whnf); apply And.intro)) <;> (try (first | exact trivial | decide)))
          all_goals first | rfl | exact I_eq (wr (by omega) (by omega)) | exact fun _ _ h => h
        · refine ⟨(k + 1, A', c'), [0, 1], by dsimp only; omega, ?_, by dsimp only; omega⟩
          dsimp only
          rw [truths_next ats (by omega) (by assumption), List.map_append, List.length_append]
          ((refine ⟨?_, ?_, ?_, ?_⟩) <;> (repeat' ((conv => whnf); apply And.intro)) <;> (try (first | exact trivial | decide)))
          all_goals first | rfl | exact I_eq (wr (by omega) (by omega)) | exact fun _ _ h => h
        · obtain rfl : k = l.length := by omega
          rw [List.take_length]
          exact Fin_rowN 1 rfl (by simp) rfl rfl (by simp [SV.wf, SV.wfs])
end Go.Proofs.Ytkacggfadalbiaa.En
