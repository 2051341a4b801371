/- evidence.Of as a function of its input; law15.place. -/
import Derived.Test.YtdjimfngnhnhnaaOl
set_option linter.all false
namespace Go.Proofs.Ytdjimfngnhnhnaa.En
open Go.RowKit
set_option maxRecDepth 100000

theorem CallM.map {P : Program} {f : FuncId} {args : List SV} {pre : World → (Nat → Prop) → Prop} {os0 : List OB} {ι κ : Type} {x : ι → SV} {os1 : ι → List OB} {x' : κ → SV} {os1' : κ → List OB} (g : ι → κ) (hx : ∀ i, x i = x' (g i)) (ho : ∀ i, os1 i = os1' (g i)) (h : CallM P f args pre os0 x os1) : CallM P f args pre os0 x' os1' := by
  refine ⟨h.1, h.2.1, fun σ fp w hM hp => (h.2.2 σ fp w hM hp).mono ?_⟩
  rintro e w' ⟨i, σ', fp', h1, h2, h3⟩
  refine ⟨g i, σ', fp', ?_, ?_, ?_⟩
  · rw [h1, hx]
  · rw [← hx, ← ho]
    exact h2
  · rw [← ho]
    exact h3
def ofE (at_ : PoseT) (s : List BeamT) : List EntT × Int := if ofOk at_ s then (lstF (ofL at_ s), 0) else ([], 1)
theorem ofE_of {at_ : PoseT} {s : List BeamT} {ys : List EntT} (h : IsOf at_ s ys) : ys = (ofE at_ s).1 := by
  unfold ofE
  cases hk : ofOk at_ s with
  | true =>
    unfold IsOf at h
    rw [if_pos hk] at h
    rw [if_pos rfl]
    exact h.unique (lstF_list (of_ne at_ s))
  | false =>
    unfold IsOf at h
    rw [hk, if_neg (by simp)] at h
    rw [if_neg (by simp)]
    exact h
theorem ofE_is (at_ : PoseT) (s : List BeamT) : IsOf at_ s (ofE at_ s).1 := by
  unfold ofE IsOf
  cases hk : ofOk at_ s with
  | true =>
    rw [if_pos rfl, if_pos rfl]
    exact lstF_list (of_ne at_ s)
  | false => rfl
theorem ofE_code (at_ : PoseT) (s : List BeamT) : (ofE at_ s).2 = if ofOk at_ s then 0 else 1 := by
  unfold ofE
  split <;> rfl
theorem ofE_bad {at_ : PoseT} {s : List BeamT} (h : (ofE at_ s).2 ≠ 0) : (ofE at_ s).1 = [] ∧ (ofE at_ s).2 = 1 := by
  unfold ofE at h ⊢
  split
  · rename_i hk
    rw [if_pos hk] at h
    exact (h rfl).elim
  · exact ⟨rfl, rfl⟩
theorem ofE_ok {at_ : PoseT} {s : List BeamT} : (ofE at_ s).2 = 0 ↔ ofOk at_ s = true := by
  unfold ofE
  split
  · rename_i hk
    exact ⟨fun _ => hk, fun _ => rfl⟩
  · rename_i hk
    constructor
    · intro h
      cases h
    · intro h
      exact (hk h).elim
theorem ofE_len (at_ : PoseT) (s : List BeamT) : (ofE at_ s).1.length ≤ 1048576 := by
  cases hk : ofOk at_ s with
  | true => exact vE_length (of_vE hk (ofE_is at_ s)).1
  | false =>
    unfold ofE
    rw [hk]
    simp
theorem ofE_m (at_ : PoseT) (A : Option Addr) (c : Nat) (s : List BeamT) (els : List (List Value)) (he : s.map encB = els) {n : Nat} (hl : s.length = n) (hn : n ≤ maxLen) :
    CallM Try.prog 26 [.a [I at_.1, I at_.2.1, I at_.2.2], .v (.slice A n c)] (fun w M => ArgN w M A n 2 els) []
      (fun q : Option Addr × Nat => .t [.v (.slice q.1 (ofE at_ s).1.length q.2), I (ofE at_ s).2]) (fun q => [.row 36 4 q.1 (ofE at_ s).1.length q.2 ((ofE at_ s).1.map encE)]) := by
  subst he
  refine CallM.map (fun q : OfT at_ s => (q.1.1, q.1.2.1)) ?_ ?_ (of_m at_ A c s hl hn)
  · rintro ⟨⟨A1, c1, ys⟩, hy⟩
    dsimp only at hy ⊢
    rw [ofE_code, ofE_of hy]
  · rintro ⟨⟨A1, c1, ys⟩, hy⟩
    dsimp only at hy ⊢
    rw [ofE_of hy]
def placeF (p : PoseT) (m : Int) : PoseT := (clipI p.1 (0 - m) m, clipI p.2.1 (0 - m) m, p.2.2 % 256)
theorem place_x (p : PoseT) (m : Int) (h : 0 ≤ m ∧ m ≤ 1000000000) : PureX Try.prog 28 [.a [I p.1, I p.2.1, I p.2.2], I m] (.a [I (placeF p m).1, I (placeF p m).2.1, I (placeF p m).2.2]) := by
  refine PureX.of Try.func28 rfl tabOk rfl rfl rfl (by simp [SV.wfs, SV.wf]) (by simp [SV.wfs, SV.wf]) fun w => ?_
  (conv => whnf); repeat' (first | ((with_reducible refine isC ?_); first | ((with_reducible refine CallX_pure (Clip_x _ _ _) ?_) <;> first | omega | (with_reducible show (_ : Int) ≤ _) | (with_reducible show (_ : Int) < _) | (with_reducible show (_ : Nat) ≤ _) | (with_reducible show (_ : Nat) < _) | (conv => whnf)) | ((with_reducible refine CallX_pure (mod_x _ _ ?_ ?_) ?_) <;> first | omega | (with_reducible show (_ : Int) ≤ _) | (with_reducible show (_ : Int) < _) | (with_reducible show (_ : Nat) ≤ _) | (with_reducible show (_ : Nat) < _) | (conv => whnf))) | ((with_reducible refine isO ?_); first | ((refine OpX_build0 tabOk rfl rfl rfl ?_); intro bN; conv => whnf) | ((refine OpX_build tabOk rfl rfl rfl rfl rfl ?_); intro bN; conv => whnf)) | ((with_reducible refine isW ?_); first | ((with_reducible refine xwr_ok (by omega) (by omega) ?_); conv => whnf) | ((with_reducible refine xwr_raw ?_); conv => whnf)) | ((with_reducible refine isQ ?_); first | ((with_reducible refine xquo_nn (by omega) (by omega) (by omega) ?_); conv => whnf) | ((with_reducible refine xquo_ok (by omega) (by omega) (by omega) ?_); conv => whnf) | ((with_reducible refine xquo_raw (by omega) ?_); conv => whnf)) | ((with_reducible refine isR ?_); first | ((with_reducible refine xrem_nn (by omega) (by omega) ?_); conv => whnf) | ((with_reducible refine xrem_raw (by omega) ?_); conv => whnf)) | ((with_reducible refine isS ?_); first | ((with_reducible refine xshr_1 ?_); conv => whnf)) | ((with_reducible refine isK ?_); first | ((with_reducible refine xcv_i64 (by omega) (by omega) ?_); conv => whnf) | ((with_reducible refine xcv_u64 (by omega) (by omega) ?_); conv => whnf) | ((with_reducible refine xcv_u8 (by omega) (by omega) ?_); conv => whnf) | ((with_reducible refine xcv_raw ?_); conv => whnf)) | ((with_reducible refine need_i ?_ ?_) <;> first | omega | (conv => whnf)) | ((refine DrawX_s tabOk folOk ?_); conv => whnf) | ((refine DrawS_i (by kernel_rfl) ?_); conv => whnf) | ((with_reducible refine andX_i ?_ ?_) <;> (conv => whnf)) | (with_reducible exact rfl) | ((with_reducible refine xif_kt (by with_reducible assumption) ?_); conv => whnf) | ((with_reducible refine xif_kf (by with_reducible assumption) ?_); conv => whnf) | (((with_reducible refine xif_s ?_ ?_) <;> (intro hb; (try simp (disch := omega) only [wr, ge_dec, gt_dec, decide_eq_true_eq, decide_eq_false_iff_not, beq_iff_eq, bne_iff_ne, beq_eq_false_iff_ne, bne_eq_false_iff_eq, Bool.not_eq_true', Bool.not_eq_false', Bool.and_eq_true, Bool.or_eq_true, Bool.not_not, ne_eq, Decidable.not_not, Int.not_le, Int.not_lt, Int.toNat_natCast, not_true_eq_false, eq_self, Bool.not_true, Bool.not_false, Bool.true_eq_false, Bool.false_eq_true] at hb))) <;> (conv => whnf)))
  all_goals first
    | decide
    | exact Fin_pure rfl rfl (by simp [SV.wf, SV.wfs])
    | trace_state
theorem clip_szB (n m : Int) (h : 0 ≤ m) : szB (clipI n (0 - m) m) m = true := by
  unfold clipI szB
  simp only [decide_eq_true_eq]
  omega
theorem place_ok (p : PoseT) (m : Int) (h : 0 ≤ m) : szB (placeF p m).1 m = true ∧ szB (placeF p m).2.1 m = true ∧ 0 ≤ (placeF p m).2.2 ∧ (placeF p m).2.2 < 256 :=
  ⟨clip_szB _ _ h, clip_szB _ _ h, by unfold placeF; dsimp only; omega, by unfold placeF; dsimp only; omega⟩

/-! ### joins -/
theorem contS_append (at_ : PoseT) (s t : List BeamT) (c : CellT) : contS at_ (s ++ t) c = ((contS at_ s c).1 + (contS at_ t c).1, (contS at_ s c).2 + (contS at_ t c).2) := by
  unfold contS
  rw [List.map_append, List.map_append, List.sum_append, List.sum_append]
theorem scan_append {s t : List BeamT} (h : s.length + t.length ≤ 32) : scanB (s ++ t) = (scanB s && scanB t) := by
  unfold scanB
  rw [List.length_append, List.any_append, decide_eq_true h, decide_eq_true (show s.length ≤ 32 by omega), decide_eq_true (show t.length ≤ 32 by omega)]
  simp
theorem ofOk_append {at_ : PoseT} {s t : List BeamT} (h : s.length + t.length ≤ 32) : ofOk at_ (s ++ t) = (ofOk at_ s && ofOk at_ t) := by
  unfold ofOk
  rw [scan_append h]
  generalize (szB at_.1 262144 && szB at_.2.1 262144 && decide (0 ≤ at_.2.2) && decide (at_.2.2 < 256)) = x
  cases x <;> simp
theorem ofE_rep {at_ : PoseT} {s : List BeamT} (h : ofOk at_ s = true) : Rep (contS at_ s) (ofE at_ s).1 ∧ vE (ofE at_ s).1 = true := ⟨of_rep h (ofE_is at_ s), (of_vE h (ofE_is at_ s)).1⟩
theorem ofE_swap {at_ : PoseT} {s t : List BeamT} (h : s.length + t.length ≤ 32) : ofE at_ (t ++ s) = ofE at_ (s ++ t) := by
  have h1 : ofOk at_ (t ++ s) = ofOk at_ (s ++ t) := by rw [ofOk_append h, ofOk_append (by omega), Bool.and_comm]
  cases hk : ofOk at_ (s ++ t) with
  | false =>
    unfold ofE
    rw [h1, hk]
    rfl
  | true =>
    have e1 := (ofE_rep (h1.trans hk)).1
    have e2 := (ofE_rep hk).1
    have e3 := e1.unique e2 fun c => by
      rw [contS_append, contS_append]
      exact Prod.ext (by dsimp only; omega) (by dsimp only; omega)
    refine Prod.ext e3 ?_
    rw [ofE_code, ofE_code, h1]
theorem ofE_join {at_ : PoseT} {s t : List BeamT} (h : s.length + t.length ≤ 32) :
    ((ofE at_ s).2 = 0 ∧ (ofE at_ t).2 = 0 → (ofE at_ (s ++ t)).2 = 0 ∧ combE 1 (ofE at_ s).1 (ofE at_ t).1 = ((ofE at_ (s ++ t)).1, 0)) ∧ (¬ ((ofE at_ s).2 = 0 ∧ (ofE at_ t).2 = 0) → (ofE at_ (s ++ t)).2 = 1) := by
  constructor
  · rintro ⟨h1, h2⟩
    have k1 := ofE_ok.1 h1
    have k2 := ofE_ok.1 h2
    have k3 : ofOk at_ (s ++ t) = true := by rw [ofOk_append h, k1, k2]; rfl
    refine ⟨ofE_ok.2 k3, ?_⟩
    have r1 := ofE_rep k1
    have r2 := ofE_rep k2
    have r3 := ofE_rep k3
    refine comb_of_rep r1.2 r2.2 r3.2 fun c => ?_
    unfold sumV
    rw [r1.1.val, r2.1.val, r3.1.val, contS_append]
    simp
  · intro hn
    have : ofOk at_ (s ++ t) = false := by
      rw [ofOk_append h]
      cases k1 : ofOk at_ s with
      | false => rfl
      | true =>
        cases k2 : ofOk at_ t with
        | false => rfl
        | true => exact (hn ⟨ofE_ok.2 k1, ofE_ok.2 k2⟩).elim
    rw [ofE_code, this]
    rfl
end Go.Proofs.Ytdjimfngnhnhnaa.En
