/- Elder contracts in the executor's form. -/
import Derived.Test.YtkacggfadalbiaaRx
import Derived.Test.YtkacggfadalbiaaRg
import Derived.Test.YtkacggfadalbiaaAw
set_option linter.all false
namespace Go.Proofs.Ytkacggfadalbiaa.En
open Go.RowKit
set_option maxRecDepth 100000

theorem PureX.mk' {P : Program} {f : FuncId} {args : List SV} {x : SV} (hen : Entr P f) (hx : x.wf 0) (hw : SV.wfs 0 args) (h : ∀ w, Calls P f (SV.vals (fun _ => 0) args).toArray w fun e w' => e = .returned (x.val fun _ => 0) ∧ Below w.heap.size w w') : PureX P f args x := by
  refine ⟨hen, hx, fun σ w => ?_⟩
  have h1 := h w
  rw [SV.vals_ext (n := 0) (σ := σ) (σ' := fun _ => 0) (by simp) args hw] at h1
  rw [SV.val_ext (n := 0) (σ := σ) (σ' := fun _ => 0) (by simp) x hx] at h1
  exact h1

theorem awake_x : PureX Try.prog 12 [] (B true) := PureX.mk' (Entr.of Try.func12 rfl rfl) trivial trivial awake_any
theorem mod_x (n m : Int) (h1 : 1 ≤ m) (h2 : m ≤ 1000000000000) : PureX Try.prog 36 [I n, I m] (I (n % m)) :=
  PureX.mk' (Entr.of Try.func36 rfl rfl) trivial ⟨trivial, trivial, trivial⟩ fun w => (mod_any n m w h1 h2).mono fun e w' ⟨he, hw⟩ => ⟨he, hw ▸ Below.refl _ _⟩
theorem Compose_x (A Bb : Int) (f g : Fr) (h1 : -A ≤ f.2.1 ∧ f.2.1 ≤ A ∧ -A ≤ f.2.2 ∧ f.2.2 ≤ A) (h2 : -Bb ≤ g.2.1 ∧ g.2.1 ≤ Bb ∧ -Bb ≤ g.2.2 ∧ g.2.2 ≤ Bb) (hAB : A + Bb ≤ 8192) :
    PureX Try.prog 18 [.a [I f.1, I f.2.1, I f.2.2], .a [I g.1, I g.2.1, I g.2.2]] (.t [.a [I (cmpF f g).1, I (cmpF f g).2.1, I (cmpF f g).2.2], I 0]) := by
  refine PureX.mk' (Entr.of Try.func18 rfl rfl) (by simp [SV.wf, SV.wfs]) (by simp [SV.wf, SV.wfs]) fun w => (Compose_ok A Bb f.1 f.2.1 f.2.2 g.1 g.2.1 g.2.2 w (by omega) (by omega) (by omega) (by omega) (by omega) (by omega) (by omega) (by omega) hAB).mono ?_
  rintro e w' ⟨q, x, y, rfl, hq, _, hb⟩
  refine ⟨?_, hb⟩
  rw [← hq]
  rfl
theorem Inverse_x (A : Int) (f : Fr) (h1 : -A ≤ f.2.1 ∧ f.2.1 ≤ A ∧ -A ≤ f.2.2 ∧ f.2.2 ≤ A) (hA : A ≤ 8192) :
    PureX Try.prog 19 [.a [I f.1, I f.2.1, I f.2.2]] (.t [.a [I (invF f).1, I (invF f).2.1, I (invF f).2.2], I 0]) := by
  refine PureX.mk' (Entr.of Try.func19 rfl rfl) (by simp [SV.wf, SV.wfs]) (by simp [SV.wf, SV.wfs]) fun w => (Inverse_ok A f.1 f.2.1 f.2.2 w (by omega) (by omega) (by omega) (by omega) hA).mono ?_
  rintro e w' ⟨q, x, y, rfl, hq, _, hb⟩
  refine ⟨?_, hb⟩
  rw [← hq]
  rfl
theorem Clip_x (n l h : Int) : PureX Try.prog 14 [I n, I l, I h] (I (clipI n l h)) := by
  refine PureX.of Try.func14 rfl tabOk rfl rfl rfl (by simp [SV.wfs, SV.wf]) (by simp [SV.wfs, SV.wf]) fun w => ?_
  (conv => whnf); repeat' (first | ((with_reducible refine isO ?_); first | ((refine OpX_build0 tabOk rfl rfl rfl ?_); intro bN; conv => whnf) | ((refine OpX_build tabOk rfl rfl rfl rfl rfl ?_); intro bN; conv => whnf)) | ((with_reducible refine isW ?_); first | ((with_reducible refine xwr_ok (by omega) (by omega) ?_); conv => whnf) | ((with_reducible refine xwr_raw ?_); conv => whnf)) | ((with_reducible refine isQ ?_); first | ((with_reducible refine xquo_nn (by omega) (by omega) (by omega) ?_); conv => whnf) | ((with_reducible refine xquo_ok (by omega) (by omega) (by omega) ?_); conv => whnf) | ((with_reducible refine xquo_raw (by omega) ?_); conv => whnf)) | ((with_reducible refine isR ?_); first | ((with_reducible refine xrem_nn (by omega) (by omega) ?_); conv => whnf) | ((with_reducible refine xrem_raw (by omega) ?_); conv => whnf)) | ((with_reducible refine need_i ?_ ?_) <;> first | omega | (conv => whnf)) | ((refine DrawX_s tabOk folOk ?_); conv => whnf) | ((refine DrawS_i (by kernel_rfl) ?_); conv => whnf) | ((with_reducible refine andX_i ?_ ?_) <;> (conv => whnf)) | (with_reducible exact rfl) | ((with_reducible refine xif_kt (by with_reducible assumption) ?_); conv => whnf) | ((with_reducible refine xif_kf (by with_reducible assumption) ?_); conv => whnf) | (((with_reducible refine xif_s ?_ ?_) <;> (intro hb; (try simp (disch := omega) only [wr, ge_dec, gt_dec, decide_eq_true_eq, decide_eq_false_iff_not, beq_iff_eq, bne_iff_ne, beq_eq_false_iff_ne, bne_eq_false_iff_eq, Bool.not_eq_true', Bool.not_eq_false', Bool.and_eq_true, Bool.or_eq_true, Bool.not_not, ne_eq, Decidable.not_not, Int.not_le, Int.not_lt, Int.toNat_natCast, not_true_eq_false, eq_self, Bool.not_true, Bool.not_false, Bool.true_eq_false, Bool.false_eq_true] at hb))) <;> (conv => whnf)))
  exact Fin_pure rfl rfl trivial
def nearF (f : Fr) (m : Int) : Fr := (f.1 % 4, clipI f.2.1 (-m) m, clipI f.2.2 (-m) m)
theorem near_x (f : Fr) (m : Int) (h0 : 0 ≤ m) (h1 : m ≤ 100000) : PureX Try.prog 13 [.a [I f.1, I f.2.1, I f.2.2], I m] (.a [I (nearF f m).1, I (nearF f m).2.1, I (nearF f m).2.2]) := by
  refine PureX.of Try.func13 rfl tabOk rfl rfl rfl (by simp [SV.wfs, SV.wf]) (by simp [SV.wfs, SV.wf]) fun w => ?_
  (conv => whnf); repeat' (first | ((with_reducible refine isC ?_); first | ((with_reducible refine CallX_pure (mod_x _ _ ?_ ?_) ?_) <;> first | omega | (with_reducible show (_ : Int) ≤ _) | (with_reducible show (_ : Int) < _) | (with_reducible show (_ : Nat) ≤ _) | (with_reducible show (_ : Nat) < _) | (conv => whnf)) | ((with_reducible refine CallX_pure (Clip_x _ _ _) ?_) <;> first | omega | (with_reducible show (_ : Int) ≤ _) | (with_reducible show (_ : Int) < _) | (with_reducible show (_ : Nat) ≤ _) | (with_reducible show (_ : Nat) < _) | (conv => whnf))) | ((with_reducible refine isO ?_); first | ((refine OpX_build0 tabOk rfl rfl rfl ?_); intro bN; conv => whnf) | ((refine OpX_build tabOk rfl rfl rfl rfl rfl ?_); intro bN; conv => whnf)) | ((with_reducible refine isW ?_); first | ((with_reducible refine xwr_ok (by omega) (by omega) ?_); conv => whnf) | ((with_reducible refine xwr_raw ?_); conv => whnf)) | ((with_reducible refine isQ ?_); first | ((with_reducible refine xquo_nn (by omega) (by omega) (by omega) ?_); conv => whnf) | ((with_reducible refine xquo_ok (by omega) (by omega) (by omega) ?_); conv => whnf) | ((with_reducible refine xquo_raw (by omega) ?_); conv => whnf)) | ((with_reducible refine isR ?_); first | ((with_reducible refine xrem_nn (by omega) (by omega) ?_); conv => whnf) | ((with_reducible refine xrem_raw (by omega) ?_); conv => whnf)) | ((with_reducible refine need_i ?_ ?_) <;> first | omega | (conv => whnf)) | ((refine DrawX_s tabOk folOk ?_); conv => whnf) | ((refine DrawS_i (by kernel_rfl) ?_); conv => whnf) | ((with_reducible refine andX_i ?_ ?_) <;> (conv => whnf)) | (with_reducible exact rfl) | ((with_reducible refine xif_kt (by with_reducible assumption) ?_); conv => whnf) | ((with_reducible refine xif_kf (by with_reducible assumption) ?_); conv => whnf) | (((with_reducible refine xif_s ?_ ?_) <;> (intro hb; (try simp (disch := omega) only [wr, ge_dec, gt_dec, decide_eq_true_eq, decide_eq_false_iff_not, beq_iff_eq, bne_iff_ne, beq_eq_false_iff_ne, bne_eq_false_iff_eq, Bool.not_eq_true', Bool.not_eq_false', Bool.and_eq_true, Bool.or_eq_true, Bool.not_not, ne_eq, Decidable.not_not, Int.not_le, Int.not_lt, Int.toNat_natCast, not_true_eq_false, eq_self, Bool.not_true, Bool.not_false, Bool.true_eq_false, Bool.false_eq_true] at hb))) <;> (conv => whnf)))
  rw [show (0 - m : Int) = -m by omega]
  exact Fin_pure rfl rfl (by simp [SV.wf, SV.wfs])
end Go.Proofs.Ytkacggfadalbiaa.En
