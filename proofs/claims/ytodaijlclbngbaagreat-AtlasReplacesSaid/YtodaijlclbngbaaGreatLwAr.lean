/- The walk of AtlasReplaces. -/
import Derived.Test.YtodaijlclbngbaaGreatAp
import Derived.Test.YtodaijlclbngbaaGreatRl
import Derived.Test.YtodaijlclbngbaaGreatPw
import Derived.Test.YtodaijlclbngbaaGreatLwAo
import Derived.Test.YtodaijlclbngbaaGreatOi
set_option linter.all false
namespace Go.Proofs.YtodaijlclbngbaaGreat.En
open Go.RowKit
set_option maxRecDepth 100000

/-- the zero placement is before every valid one -/
theorem later_zero {p : PlT} (h : vPl p = true) : 0 < lexC (keyP p) (keyP (0, false, 0, 0, 0)) := by
  unfold vPl at h
  simp only [Bool.and_eq_true, decide_eq_true_eq] at h
  unfold keyP
  simp only [lexC]
  rw [if_neg (by rw [cmpI_zero]; omega)]
  exact cmpI_pos.2 (by omega)
theorem plOf_sm {m : List (Int × SlT)} {q : List (Int × PlT)} (hg : goodA (absM (m, q))) (k : Int) : smP (plOf q k) := by
  unfold plOf
  cases hi : lkI q k with
  | none => exact smP0
  | some p => exact vPl_sm ((hg k).2 p hi).1
/-- a placement that is not later changes nothing -/
theorem place_old {q : List (Int × PlT)} {k : Int} {p : PlT} (hv : vPl p = true) (hl : lexC (keyP p) (keyP (plOf q k)) ≤ 0) (r : PlcI q k p) : lkI r.1 = lkI q := by
  rw [r.2]
  split
  · rcases opt_em (lkI q k) with h | ⟨u, h⟩
    · have e : plOf q k = (0, false, 0, 0, 0) := by unfold plOf; rw [h]; rfl
      rw [e] at hl
      have := later_zero hv
      omega
    · have e : plOf q k = u := by unfold plOf; rw [h]; rfl
      rw [e] at hl
      have hx : mxO keyP (lkI q k) p = lkI q k := by
        rw [h]
        unfold mxO
        dsimp only
        rw [if_neg (by omega)]
      rw [hx, upd_self]
  · rfl
theorem place_new {q : List (Int × PlT)} {k : Int} {p : PlT} (hv : vPl p = true) (hk : vId k = true) (hl : 0 < lexC (keyP p) (keyP (plOf q k))) (r : PlcI q k p) : lkI r.1 = updF (lkI q) k (some p) := by
  rw [r.2, hv, hk]
  have hx : mxO keyP (lkI q k) p = some p := by
    rcases opt_em (lkI q k) with h | ⟨u, h⟩
    · rw [h]; rfl
    · have e : plOf q k = u := by unfold plOf; rw [h]; rfl
      rw [e] at hl
      rw [h]
      unfold mxO
      dsimp only
      rw [if_pos hl]
  rw [hx]
  rfl
theorem placed_of {q q' : List (Int × PlT)} {k : Int} {p : PlT} (h : lkI q' = updF (lkI q) k (some p)) : plOf q' k = p ∧ (lkI q' k).isSome = true := by
  unfold plOf
  rw [h]
  unfold updF
  rw [if_pos rfl]
  exact ⟨rfl, rfl⟩
set_option maxHeartbeats 8000000 in
theorem replaces_x (A : Option Addr) (c : Nat) (l : List AOp) {n : Nat} (hl : l.length = n) (hn : n ≤ maxLen) (id : Int) (hid : 0 ≤ id ∧ id < 256) (p : PlT) :
    CallW Tryz.prog 6 [.v (.slice A n c), .v (.int .u8 id), plX p] (fun w => opsW w A n l) (B true) := by
  have hn' := hn
  unfold maxLen at hn'
  have kf := few_w A c l hl hn
  have km := made_m A c l hl hn
  rcases Bool.eq_false_or_eq_true (fewB l) with hf | hf
  rotate_left
  · rw [hf] at kf
    refine CallW.of Tryz.func6 rfl tabOk rfl rfl rfl (by simp [SV.wfs, SV.wf]) (by simp [SV.wfs, SV.wf]) fun w hpre => ?_
    (conv => whnf); repeat' (first | ((with_reducible refine isC ?_); first | ((with_reducible refine CallX_pure (awake17_x) ?_) <;> first | omega | (with_reducible show (_ : Int) ≤ _) | (with_reducible show (_ : Int) < _) | (with_reducible show (_ : Nat) ≤ _) | (with_reducible show (_ : Nat) < _) | (conv => whnf)) | ((with_reducible refine isF 9 ?_); (with_reducible refine CallX_w (kf) ?_ ?_); (focus (exact hpre.few rfl)); conv => whnf)) | ((with_reducible refine isO ?_); first | ((refine OpX_build0 tabOk rfl rfl rfl ?_); intro bN; conv => whnf) | ((refine OpX_build tabOk rfl rfl rfl rfl rfl ?_); intro bN; conv => whnf)) | ((with_reducible refine isW ?_); first | ((with_reducible refine xwr_ok (by omega) (by omega) ?_); conv => whnf) | ((with_reducible refine xwr_raw ?_); conv => whnf)) | ((with_reducible refine isQ ?_); first | ((with_reducible refine xquo_nn (by omega) (by omega) (by omega) ?_); conv => whnf) | ((with_reducible refine xquo_ok (by omega) (by omega) (by omega) ?_); conv => whnf) | ((with_reducible refine xquo_raw (by omega) ?_); conv => whnf)) | ((with_reducible refine isR ?_); first | ((with_reducible refine xrem_nn (by omega) (by omega) ?_); conv => whnf) | ((with_reducible refine xrem_raw (by omega) ?_); conv => whnf)) | ((with_reducible refine isS ?_); first | ((with_reducible refine xshr_1 ?_); conv => whnf)) | ((with_reducible refine isK ?_); first | ((with_reducible refine xcv_i64 (by omega) (by omega) ?_); conv => whnf) | ((with_reducible refine xcv_u64 (by omega) (by omega) ?_); conv => whnf) | ((with_reducible refine xcv_u8 (by omega) (by omega) ?_); conv => whnf) | ((with_reducible refine xcv_raw ?_); conv => whnf)) | ((with_reducible refine need_i ?_ ?_) <;> first | omega | (conv => whnf)) | ((refine DrawX_s tabOk folOk ?_); conv => whnf) | ((refine DrawS_i (by kernel_rfl) ?_); conv => whnf) | ((with_reducible refine andX_i ?_ ?_) <;> (conv => whnf)) | (with_reducible exact rfl) | ((with_reducible refine xif_kt (by with_reducible assumption) ?_); conv => whnf) | ((with_reducible refine xif_kf (by with_reducible assumption) ?_); conv => whnf) | (((with_reducible refine xif_s ?_ ?_) <;> (intro hb; (try simp (disch := omega) only [wr, ge_dec, gt_dec, decide_eq_true_eq, decide_eq_false_iff_not, beq_iff_eq, bne_iff_ne, beq_eq_false_iff_ne, bne_eq_false_iff_eq, Bool.not_eq_true', Bool.not_eq_false', Bool.and_eq_true, Bool.or_eq_true, Bool.not_not, ne_eq, Decidable.not_not, Int.not_le, Int.not_lt, Int.toNat_natCast, not_true_eq_false, eq_self, Bool.not_true, Bool.not_false, Bool.true_eq_false, Bool.false_eq_true] at hb))) <;> (conv => whnf)))
    exact Fin_pure rfl rfl trivial
  · rw [hf] at kf
    have hk : vId (id % 64) = true := by
      simp only [vId, Bool.and_eq_true, decide_eq_true_eq]
      omega
    have hwt := made_w hf
    have krp := rPlacement_x p
    refine CallW.of Tryz.func6 rfl tabOk rfl rfl rfl (by simp [SV.wfs, SV.wf]) (by simp [SV.wfs, SV.wf]) fun w hpre => ?_
    (conv => whnf); repeat' (first | ((with_reducible refine isC ?_); first | ((with_reducible refine CallX_pure (awake17_x) ?_) <;> first | omega | (with_reducible show (_ : Int) ≤ _) | (with_reducible show (_ : Int) < _) | (with_reducible show (_ : Nat) ≤ _) | (with_reducible show (_ : Nat) < _) | (conv => whnf)) | ((with_reducible refine isF 9 ?_); (with_reducible refine CallX_w (kf) ?_ ?_); (focus (exact hpre.few rfl)); conv => whnf)) | ((with_reducible refine isO ?_); first | ((refine OpX_build0 tabOk rfl rfl rfl ?_); intro bN; conv => whnf) | ((refine OpX_build tabOk rfl rfl rfl rfl rfl ?_); intro bN; conv => whnf)) | ((with_reducible refine isW ?_); first | ((with_reducible refine xwr_ok (by omega) (by omega) ?_); conv => whnf) | ((with_reducible refine xwr_raw ?_); conv => whnf)) | ((with_reducible refine isQ ?_); first | ((with_reducible refine xquo_nn (by omega) (by omega) (by omega) ?_); conv => whnf) | ((with_reducible refine xquo_ok (by omega) (by omega) (by omega) ?_); conv => whnf) | ((with_reducible refine xquo_raw (by omega) ?_); conv => whnf)) | ((with_reducible refine isR ?_); first | ((with_reducible refine xrem_nn (by omega) (by omega) ?_); conv => whnf) | ((with_reducible refine xrem_raw (by omega) ?_); conv => whnf)) | ((with_reducible refine isS ?_); first | ((with_reducible refine xshr_1 ?_); conv => whnf)) | ((with_reducible refine isK ?_); first | ((with_reducible refine xcv_i64 (by omega) (by omega) ?_); conv => whnf) | ((with_reducible refine xcv_u64 (by omega) (by omega) ?_); conv => whnf) | ((with_reducible refine xcv_u8 (by omega) (by omega) ?_); conv => whnf) | ((with_reducible refine xcv_raw ?_); conv => whnf)) | ((with_reducible refine need_i ?_ ?_) <;> first | omega | (conv => whnf)) | ((refine DrawX_s tabOk folOk ?_); conv => whnf) | ((refine DrawS_i (by kernel_rfl) ?_); conv => whnf) | ((with_reducible refine andX_i ?_ ?_) <;> (conv => whnf)) | (with_reducible exact rfl) | ((with_reducible refine xif_kt (by with_reducible assumption) ?_); conv => whnf) | ((with_reducible refine xif_kf (by with_reducible assumption) ?_); conv => whnf) | (((with_reducible refine xif_s ?_ ?_) <;> (intro hb; (try simp (disch := omega) only [wr, ge_dec, gt_dec, decide_eq_true_eq, decide_eq_false_iff_not, beq_iff_eq, bne_iff_ne, beq_eq_false_iff_ne, bne_eq_false_iff_eq, Bool.not_eq_true', Bool.not_eq_false', Bool.and_eq_true, Bool.or_eq_true, Bool.not_not, ne_eq, Decidable.not_not, Int.not_le, Int.not_lt, Int.toNat_natCast, not_true_eq_false, eq_self, Bool.not_true, Bool.not_false, Bool.true_eq_false, Bool.false_eq_true] at hb))) <;> (conv => whnf)))
    refine CallX_m km [] rfl trivial (by decide) (hpre.of0 rfl) ?_
    rintro ⟨⟨a1, a2⟩, ⟨m, q⟩, hok, hab⟩
    have hg : goodA (absM (m, q)) := by
      rw [hab]
      exact (top_made (l.map absO)).good
    have hL1 := has_sem m q
    rw [← hab] at hwt
    generalize hk0 : id % 64 = k at *
    have kmap := Map_m a1 a2 m q hok (idsF (hasM m q) 64) rfl
    have kpart := Part_m a1 a2 m q k hok
    have kwh := Where_m a1 a2 m q k
    have kpl := Place_m a1 a2 m q k p
    have l1 := map_len (absM (m, q)) (idsF (hasM m q) 64)
    have l2 := part_len (absM (m, q)) k
    have hsm := plOf_sm hg k
    generalize hB : mapF (absM (m, q)) (idsF (hasM m q) 64) = before at *
    generalize hO : partA (absM (m, q)) k = old at *
    generalize hW : plOf q k = was at *
    (conv => whnf); repeat' (first | ((with_reducible refine isC ?_); first | ((with_reducible refine isF 20 ?_); ((refine CallX_m kmap [1, 2, 3] rfl ⟨⟨rfl, rfl, by simp [SV.wf, SV.wfs]⟩, fun _ _ h => h, fun _ _ h => h, trivial⟩ (by decide) (fun _ _ _ _ => trivial) ?_; intro r1; obtain ⟨A1, c1⟩ := r1)); conv => whnf) | ((with_reducible refine isF 18 ?_); ((refine CallX_m kpart [1, 2, 3] rfl ⟨⟨rfl, rfl, by simp [SV.wf, SV.wfs]⟩, fun _ _ h => h, fun _ _ h => h, trivial⟩ (by decide) (fun _ _ _ _ => trivial) ?_; intro r2; obtain ⟨A2, c2⟩ := r2)); conv => whnf) | ((with_reducible refine isF 26 ?_); ((refine CallX_m kwh [1, 2, 3] rfl ⟨⟨rfl, rfl, by simp [SV.wf, SV.wfs]⟩, fun _ _ h => h, fun _ _ h => h, trivial⟩ (by decide) (fun _ _ _ _ => trivial) ?_; intro r3)); conv => whnf)) | ((with_reducible refine isO ?_); first | ((refine OpX_build0 tabOk rfl rfl rfl ?_); intro bN; conv => whnf) | ((refine OpX_build tabOk rfl rfl rfl rfl rfl ?_); intro bN; conv => whnf)) | ((with_reducible refine isW ?_); first | ((with_reducible refine xwr_ok (by omega) (by omega) ?_); conv => whnf) | ((with_reducible refine xwr_raw ?_); conv => whnf)) | ((with_reducible refine isQ ?_); first | ((with_reducible refine xquo_nn (by omega) (by omega) (by omega) ?_); conv => whnf) | ((with_reducible refine xquo_ok (by omega) (by omega) (by omega) ?_); conv => whnf) | ((with_reducible refine xquo_raw (by omega) ?_); conv => whnf)) | ((with_reducible refine isR ?_); first | ((with_reducible refine xrem_nn (by omega) (by omega) ?_); conv => whnf) | ((with_reducible refine xrem_raw (by omega) ?_); conv => whnf)) | ((with_reducible refine isS ?_); first | ((with_reducible refine xshr_1 ?_); conv => whnf)) | ((with_reducible refine isK ?_); first | ((with_reducible refine xcv_i64 (by omega) (by omega) ?_); conv => whnf) | ((with_reducible refine xcv_u64 (by omega) (by omega) ?_); conv => whnf) | ((with_reducible refine xcv_u8 (by omega) (by omega) ?_); conv => whnf) | ((with_reducible refine xcv_raw ?_); conv => whnf)) | ((with_reducible refine need_i ?_ ?_) <;> first | omega | (conv => whnf)) | ((refine DrawX_s tabOk folOk ?_); conv => whnf) | ((refine DrawS_i (by kernel_rfl) ?_); conv => whnf) | ((with_reducible refine andX_i ?_ ?_) <;> (conv => whnf)) | (with_reducible exact rfl) | ((with_reducible refine xif_kt (by with_reducible assumption) ?_); conv => whnf) | ((with_reducible refine xif_kf (by with_reducible assumption) ?_); conv => whnf) | (((with_reducible refine xif_s ?_ ?_) <;> (intro hb; (try simp (disch := omega) only [wr, ge_dec, gt_dec, decide_eq_true_eq, decide_eq_false_iff_not, beq_iff_eq, bne_iff_ne, beq_eq_false_iff_ne, bne_eq_false_iff_eq, Bool.not_eq_true', Bool.not_eq_false', Bool.and_eq_true, Bool.or_eq_true, Bool.not_not, ne_eq, Decidable.not_not, Int.not_le, Int.not_lt, Int.toNat_natCast, not_true_eq_false, eq_self, Bool.not_true, Bool.not_false, Bool.true_eq_false, Bool.false_eq_true] at hb))) <;> (conv => whnf)))
    rcases Bool.eq_false_or_eq_true (vPl p) with hv | hv
    rotate_left
    · have hc : plcC k p = 1 := by unfold plcC; rw [hv]; rfl
      rw [hc] at kpl
      rw [hv] at krp
      refine CallX_m kpl [1, 2, 3] rfl ⟨⟨rfl, rfl, by simp [SV.wf, SV.wfs]⟩, fun _ _ h => h, fun _ _ h => h, trivial⟩ (by decide) (fun _ _ _ _ => trivial) ?_
      intro r4
      (conv => whnf); repeat' (first | ((with_reducible refine isC ?_); first | ((with_reducible refine CallX_pure (krp) ?_) <;> first | omega | (with_reducible show (_ : Int) ≤ _) | (with_reducible show (_ : Int) < _) | (with_reducible show (_ : Nat) ≤ _) | (with_reducible show (_ : Nat) < _) | (conv => whnf))) | ((with_reducible refine isO ?_); first | ((refine OpX_build0 tabOk rfl rfl rfl ?_); intro bN; conv => whnf) | ((refine OpX_build tabOk rfl rfl rfl rfl rfl ?_); intro bN; conv => whnf)) | ((with_reducible refine isW ?_); first | ((with_reducible refine xwr_ok (by omega) (by omega) ?_); conv => whnf) | ((with_reducible refine xwr_raw ?_); conv => whnf)) | ((with_reducible refine isQ ?_); first | ((with_reducible refine xquo_nn (by omega) (by omega) (by omega) ?_); conv => whnf) | ((with_reducible refine xquo_ok (by omega) (by omega) (by omega) ?_); conv => whnf) | ((with_reducible refine xquo_raw (by omega) ?_); conv => whnf)) | ((with_reducible refine isR ?_); first | ((with_reducible refine xrem_nn (by omega) (by omega) ?_); conv => whnf) | ((with_reducible refine xrem_raw (by omega) ?_); conv => whnf)) | ((with_reducible refine isS ?_); first | ((with_reducible refine xshr_1 ?_); conv => whnf)) | ((with_reducible refine isK ?_); first | ((with_reducible refine xcv_i64 (by omega) (by omega) ?_); conv => whnf) | ((with_reducible refine xcv_u64 (by omega) (by omega) ?_); conv => whnf) | ((with_reducible refine xcv_u8 (by omega) (by omega) ?_); conv => whnf) | ((with_reducible refine xcv_raw ?_); conv => whnf)) | ((with_reducible refine need_i ?_ ?_) <;> first | omega | (conv => whnf)) | ((refine DrawX_s tabOk folOk ?_); conv => whnf) | ((refine DrawS_i (by kernel_rfl) ?_); conv => whnf) | ((with_reducible refine andX_i ?_ ?_) <;> (conv => whnf)) | (with_reducible exact rfl) | ((with_reducible refine xif_kt (by with_reducible assumption) ?_); conv => whnf) | ((with_reducible refine xif_kf (by with_reducible assumption) ?_); conv => whnf) | (((with_reducible refine xif_s ?_ ?_) <;> (intro hb; (try simp (disch := omega) only [wr, ge_dec, gt_dec, decide_eq_true_eq, decide_eq_false_iff_not, beq_iff_eq, bne_iff_ne, beq_eq_false_iff_ne, bne_eq_false_iff_eq, Bool.not_eq_true', Bool.not_eq_false', Bool.and_eq_true, Bool.or_eq_true, Bool.not_not, ne_eq, Decidable.not_not, Int.not_le, Int.not_lt, Int.toNat_natCast, not_true_eq_false, eq_self, Bool.not_true, Bool.not_false, Bool.true_eq_false, Bool.false_eq_true] at hb))) <;> (conv => whnf)))
      exact Fin_pure rfl rfl trivial
    · have hc : plcC k p = 0 := by unfold plcC; rw [hv, hk]; rfl
      rw [hc] at kpl
      refine CallX_m kpl [1, 2, 3] rfl ⟨⟨rfl, rfl, by simp [SV.wf, SV.wfs]⟩, fun _ _ h => h, fun _ _ h => h, trivial⟩ (by decide) (fun _ _ _ _ => trivial) ?_
      intro r4
      have klt := PureD.pure (rLater_d p was (vPl_sm hv) hsm)
      by_cases hle : lexC (keyP p) (keyP was) ≤ 0
      · have hq := place_old hv (by rw [hW]; exact hle) r4
        have e1 : plOf r4.1 k = was := by
          rw [← hW]
          unfold plOf
          rw [hq]
        have e2 : absM (m, r4.1) = absM (m, q) := by
          unfold absM
          dsimp only
          rw [hq]
        have e3 : hasM m r4.1 = hasM m q := by
          rw [has_sem, has_sem]
          exact congrArg hasA e2
        have kwh2 := Where_m a1 a2 m r4.1 k
        rw [e1] at kwh2
        have kmap2 := Map_m a1 a2 m r4.1 hok (idsF (hasM m q) 64) (by rw [e3])
        rw [e2, hB] at kmap2
        generalize lexC (keyP p) (keyP was) = L at *
        (conv => whnf); repeat' (first | ((with_reducible refine isC ?_); first | ((with_reducible refine isF 26 ?_); ((refine CallX_m kwh2 [1, 2, 3] rfl ⟨⟨rfl, rfl, by simp [SV.wf, SV.wfs]⟩, fun _ _ h => h, fun _ _ h => h, trivial⟩ (by decide) (fun _ _ _ _ => trivial) ?_; intro r5)); conv => whnf) | ((with_reducible refine CallX_pure (klt) ?_) <;> first | omega | (with_reducible show (_ : Int) ≤ _) | (with_reducible show (_ : Int) < _) | (with_reducible show (_ : Nat) ≤ _) | (with_reducible show (_ : Nat) < _) | (conv => whnf)) | ((with_reducible refine isF 20 ?_); ((refine CallX_m kmap2 [1, 2, 3] rfl ⟨⟨rfl, rfl, by simp [SV.wf, SV.wfs]⟩, fun _ _ h => h, fun _ _ h => h, trivial⟩ (by decide) (fun _ _ _ _ => trivial) ?_; intro r6; obtain ⟨A6, c6⟩ := r6)); conv => whnf) | ((with_reducible refine isF 17 ?_); ((refine CallX_w (Entries_t A6 A1 c6 c1 before before rfl rfl rfl (by omega) (by omega)) (fun σ fp w hm => ⟨ArgSl.row 8 rfl σ fp w hm, ArgSl.row 4 rfl σ fp w hm⟩) ?_)); conv => whnf)) | ((with_reducible refine isO ?_); first | ((refine OpX_build0 tabOk rfl rfl rfl ?_); intro bN; conv => whnf) | ((refine OpX_build tabOk rfl rfl rfl rfl rfl ?_); intro bN; conv => whnf)) | ((with_reducible refine isW ?_); first | ((with_reducible refine xwr_ok (by omega) (by omega) ?_); conv => whnf) | ((with_reducible refine xwr_raw ?_); conv => whnf)) | ((with_reducible refine isQ ?_); first | ((with_reducible refine xquo_nn (by omega) (by omega) (by omega) ?_); conv => whnf) | ((with_reducible refine xquo_ok (by omega) (by omega) (by omega) ?_); conv => whnf) | ((with_reducible refine xquo_raw (by omega) ?_); conv => whnf)) | ((with_reducible refine isR ?_); first | ((with_reducible refine xrem_nn (by omega) (by omega) ?_); conv => whnf) | ((with_reducible refine xrem_raw (by omega) ?_); conv => whnf)) | ((with_reducible refine isS ?_); first | ((with_reducible refine xshr_1 ?_); conv => whnf)) | ((with_reducible refine isK ?_); first | ((with_reducible refine xcv_i64 (by omega) (by omega) ?_); conv => whnf) | ((with_reducible refine xcv_u64 (by omega) (by omega) ?_); conv => whnf) | ((with_reducible refine xcv_u8 (by omega) (by omega) ?_); conv => whnf) | ((with_reducible refine xcv_raw ?_); conv => whnf)) | ((with_reducible refine need_i ?_ ?_) <;> first | omega | (conv => whnf)) | ((refine DrawX_s tabOk folOk ?_); conv => whnf) | ((refine DrawS_i (by kernel_rfl) ?_); conv => whnf) | ((with_reducible refine andX_i ?_ ?_) <;> (conv => whnf)) | (with_reducible exact rfl) | ((with_reducible refine xif_kt (by with_reducible assumption) ?_); conv => whnf) | ((with_reducible refine xif_kf (by with_reducible assumption) ?_); conv => whnf) | (((with_reducible refine xif_s ?_ ?_) <;> (intro hb; (try simp (disch := omega) only [wr, ge_dec, gt_dec, decide_eq_true_eq, decide_eq_false_iff_not, beq_iff_eq, bne_iff_ne, beq_eq_false_iff_ne, bne_eq_false_iff_eq, Bool.not_eq_true', Bool.not_eq_false', Bool.and_eq_true, Bool.or_eq_true, Bool.not_not, ne_eq, Decidable.not_not, Int.not_le, Int.not_lt, Int.toNat_natCast, not_true_eq_false, eq_self, Bool.not_true, Bool.not_false, Bool.true_eq_false, Bool.false_eq_true] at hb))) <;> (conv => whnf)))
        all_goals try (exfalso; omega)
        all_goals try (exfalso; simp at hb; done)
        all_goals first | exact Fin_pure rfl rfl trivial | trace_state
      · have hq := place_new hv hk (by rw [hW]; omega) r4
        obtain ⟨e1, _⟩ := placed_of hq
        have hwt2 : wG (wA (absM (m, r4.1))) all64 ≤ 1048576 := hwt
        obtain ⟨less, hs1, hs2⟩ := replace_law (a := absM (m, q)) (a' := absM (m, r4.1)) hk hwt hwt2 (fun i hi => ⟨rfl, by
          show lkI r4.1 i = lkI q i
          rw [hq]
          unfold updF
          rw [if_neg hi]⟩)
        have kwh2 := Where_m a1 a2 m r4.1 k
        rw [e1] at kwh2
        have kpart2 := Part_m a1 a2 m r4.1 k hok
        have kmap2 := Map_m a1 a2 m r4.1 hok (idsF (hasM m r4.1) 64) rfl
        have l3 := part_len (absM (m, r4.1)) k
        have l4 := map_len (absM (m, r4.1)) (idsF (hasM m r4.1) 64)
        have hB' : mapF (absM (m, q)) (idsF (hasA (absM (m, q))) 64) = before := by
          rw [← hB, has_sem]
          rfl
        rw [hB', hO] at hs1
        have hB2 : mapF (absM (m, r4.1)) (idsF (hasA (absM (m, r4.1))) 64) = mapF (absM (m, r4.1)) (idsF (hasM m r4.1) 64) := by
          rw [has_sem]
          rfl
        rw [hB2] at hs2
        generalize mapF (absM (m, r4.1)) (idsF (hasM m r4.1) 64) = after at *
        generalize partA (absM (m, r4.1)) k = new at *
        have l5 : less.length ≤ 1048576 := by
          have := comb_len (-1) before old
          rw [hs1] at this
          exact this
        have ks := fun (A A' : Option Addr) (c c' : Nat) => rSub_m A A' c c' before old rfl rfl (by unfold maxLen; omega) (by unfold maxLen; omega)
        rw [hs1] at ks
        dsimp only at ks
        have ka := fun (A A' : Option Addr) (c c' : Nat) => rAdd_m A A' c c' less new rfl rfl (by unfold maxLen; omega) (by unfold maxLen; omega)
        rw [hs2] at ka
        dsimp only at ka
        generalize lexC (keyP p) (keyP was) = L at *
        (conv => whnf); repeat' (first | ((with_reducible refine isC ?_); first | ((with_reducible refine isF 26 ?_); ((refine CallX_m kwh2 [1, 2, 3] rfl ⟨⟨rfl, rfl, by simp [SV.wf, SV.wfs]⟩, fun _ _ h => h, fun _ _ h => h, trivial⟩ (by decide) (fun _ _ _ _ => trivial) ?_; intro r5)); conv => whnf) | ((with_reducible refine CallX_pure (klt) ?_) <;> first | omega | (with_reducible show (_ : Int) ≤ _) | (with_reducible show (_ : Int) < _) | (with_reducible show (_ : Nat) ≤ _) | (with_reducible show (_ : Nat) < _) | (conv => whnf)) | ((with_reducible refine isF 30 ?_); ((refine CallX_m (ks A1 A2 c1 c2) [] rfl trivial (by decide) (fun σ fp w hm => ⟨ArgN.row 4 rfl (m := 0) (fun j hj => by omega) σ fp w hm, ArgN.row 5 rfl (m := 0) (fun j hj => by omega) σ fp w hm⟩) ?_; intro r6; obtain ⟨A6, c6⟩ := r6)); conv => whnf) | ((with_reducible refine isF 18 ?_); ((refine CallX_m kpart2 [1, 2, 3] rfl ⟨⟨rfl, rfl, by simp [SV.wf, SV.wfs]⟩, fun _ _ h => h, fun _ _ h => h, trivial⟩ (by decide) (fun _ _ _ _ => trivial) ?_; intro r7; obtain ⟨A7, c7⟩ := r7)); conv => whnf) | ((with_reducible refine isF 31 ?_); ((refine CallX_m (ka A6 A7 c6 c7) [] rfl trivial (by decide) (fun σ fp w hm => ⟨ArgN.row 8 rfl (m := 0) (fun j hj => by omega) σ fp w hm, ArgN.row 9 rfl (m := 0) (fun j hj => by omega) σ fp w hm⟩) ?_; intro r8; obtain ⟨A8, c8⟩ := r8)); conv => whnf) | ((with_reducible refine isF 20 ?_); ((refine CallX_m kmap2 [1, 2, 3] rfl ⟨⟨rfl, rfl, by simp [SV.wf, SV.wfs]⟩, fun _ _ h => h, fun _ _ h => h, trivial⟩ (by decide) (fun _ _ _ _ => trivial) ?_; intro r9; obtain ⟨A9, c9⟩ := r9)); conv => whnf) | ((with_reducible refine isF 17 ?_); ((refine CallX_w (Entries_t A9 A8 c9 c8 after after rfl rfl rfl (by omega) (by omega)) (fun σ fp w hm => ⟨ArgSl.row 11 rfl σ fp w hm, ArgSl.row 10 rfl σ fp w hm⟩) ?_)); conv => whnf)) | ((with_reducible refine isO ?_); first | ((refine OpX_build0 tabOk rfl rfl rfl ?_); intro bN; conv => whnf) | ((refine OpX_build tabOk rfl rfl rfl rfl rfl ?_); intro bN; conv => whnf)) | ((with_reducible refine isW ?_); first | ((with_reducible refine xwr_ok (by omega) (by omega) ?_); conv => whnf) | ((with_reducible refine xwr_raw ?_); conv => whnf)) | ((with_reducible refine isQ ?_); first | ((with_reducible refine xquo_nn (by omega) (by omega) (by omega) ?_); conv => whnf) | ((with_reducible refine xquo_ok (by omega) (by omega) (by omega) ?_); conv => whnf) | ((with_reducible refine xquo_raw (by omega) ?_); conv => whnf)) | ((with_reducible refine isR ?_); first | ((with_reducible refine xrem_nn (by omega) (by omega) ?_); conv => whnf) | ((with_reducible refine xrem_raw (by omega) ?_); conv => whnf)) | ((with_reducible refine isS ?_); first | ((with_reducible refine xshr_1 ?_); conv => whnf)) | ((with_reducible refine isK ?_); first | ((with_reducible refine xcv_i64 (by omega) (by omega) ?_); conv => whnf) | ((with_reducible refine xcv_u64 (by omega) (by omega) ?_); conv => whnf) | ((with_reducible refine xcv_u8 (by omega) (by omega) ?_); conv => whnf) | ((with_reducible refine xcv_raw ?_); conv => whnf)) | ((with_reducible refine need_i ?_ ?_) <;> first | omega | (conv => whnf)) | ((refine DrawX_s tabOk folOk ?_); conv => whnf) | ((refine DrawS_i (by kernel_rfl) ?_); conv => whnf) | ((with_reducible refine andX_i ?_ ?_) <;> (conv => whnf)) | (with_reducible exact rfl) | ((with_reducible refine xif_kt (by with_reducible assumption) ?_); conv => whnf) | ((with_reducible refine xif_kf (by with_reducible assumption) ?_); conv => whnf) | (((with_reducible refine xif_s ?_ ?_) <;> (intro hb; (try simp (disch := omega) only [wr, ge_dec, gt_dec, decide_eq_true_eq, decide_eq_false_iff_not, beq_iff_eq, bne_iff_ne, beq_eq_false_iff_ne, bne_eq_false_iff_eq, Bool.not_eq_true', Bool.not_eq_false', Bool.and_eq_true, Bool.or_eq_true, Bool.not_not, ne_eq, Decidable.not_not, Int.not_le, Int.not_lt, Int.toNat_natCast, not_true_eq_false, eq_self, Bool.not_true, Bool.not_false, Bool.true_eq_false, Bool.false_eq_true] at hb))) <;> (conv => whnf)))
        all_goals try (exfalso; omega)
        all_goals try (exfalso; simp at hb; done)
        all_goals first | exact Fin_pure rfl rfl trivial | trace_state
/-- the same, over arguments as they are opened -/
theorem replaces_walk (A0 : Option Addr) (n0 c0 : Nat) (l0 : List AOp) (id : Int) (p : PlT) (w : World) (h0 : l0.length = n0) (o0 : opsW w A0 n0 l0) (g0 : n0 ≤ c0) (k0 : c0 ≤ maxLen) (hid : 0 ≤ id ∧ id < 256) :
    Calls Tryz.prog 6 #[.slice A0 n0 c0, .int .u8 id, encPl p] w fun e w' => e = .returned (.bool true) ∧ Below w.heap.size w w' :=
  (replaces_x A0 c0 l0 h0 (by omega) id hid p).2.2 (fun _ => 0) w o0
end Go.Proofs.YtodaijlclbngbaaGreat.En
