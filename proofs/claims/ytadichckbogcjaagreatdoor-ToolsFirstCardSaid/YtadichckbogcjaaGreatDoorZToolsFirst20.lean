import Derived.Test.YtadichckbogcjaaGreatDoorZToolsFirst19
import Derived.Test.YtadichckbogcjaaGreatDoorZToolsFirst18
set_option linter.all false
section
namespace Go.Proofs.YtadichckbogcjaaGreatDoor.En
open Go.RowKit
set_option maxRecDepth 100000
def capF (a b : SpT) : SpT := ((maxF (a.1, a.2.1) (b.1, b.2.1)).1, (maxF (a.1, a.2.1) (b.1, b.2.1)).2, (minF (a.2.2.1, a.2.2.2) (b.2.2.1, b.2.2.2)).1, (minF (a.2.2.1, a.2.2.2) (b.2.2.1, b.2.2.2)).2)
def axS (p d a b : Int) : SpT := ((slabLo p d a b).1, (slabLo p d a b).2, (slabHi p d a b).1, (slabHi p d a b).2)
def axE (p d a b : Int) : Bool := decide (d = 0) && (decide (p < a) || decide (b < p))
def up0 (s : SpT) : SpT := if s.1 < 0 then (0, 1, s.2.2.1, s.2.2.2) else s
def tmA (p : PtT) (v : VecT) (r : RectT) : SpT := if v.1 = 0 then axS p.2 v.2.1 r.2.1 r.2.2.2 else axS p.1 v.1 r.1 r.2.2.1
def tmB (p : PtT) (v : VecT) (r : RectT) : SpT := if v.2.1 = 0 then axS p.1 v.1 r.1 r.2.2.1 else axS p.2 v.2.1 r.2.1 r.2.2.2
def tmS (p : PtT) (v : VecT) (r : RectT) : SpT := up0 (capF (tmA p v r) (tmB p v r))
def tmE (p : PtT) (v : VecT) (r : RectT) : Bool := axE p.1 v.1 r.1 r.2.2.1 || axE p.2 v.2.1 r.2.1 r.2.2.2 || lessB ((tmS p v r).2.2.1, (tmS p v r).2.2.2) ((tmS p v r).1, (tmS p v r).2.1)
theorem capF_in {a b : SpT} (ha : spP a) (hb : spP b) {t : Int × Int} (ht : 0 < t.2) : inS (capF a b) t ↔ inS a t ∧ inS b t := by
  unfold inS capF
  have h1 := maxF_le (s := (a.1, a.2.1)) (l := (b.1, b.2.1)) ha.1 hb.1 ht
  have h2 := minF_le (s := (a.2.2.1, a.2.2.2)) (l := (b.2.2.1, b.2.2.2)) ha.2 hb.2 ht
  constructor
  · rintro ⟨q1, q2⟩
    exact ⟨⟨(h1.1 q1).1, (h2.1 q2).1⟩, (h1.1 q1).2, (h2.1 q2).2⟩
  · rintro ⟨⟨q1, q2⟩, q3, q4⟩
    exact ⟨h1.2 ⟨q1, q3⟩, h2.2 ⟨q2, q4⟩⟩
theorem capF_pos {a b : SpT} (ha : spP a) (hb : spP b) : spP (capF a b) := ⟨maxF_pos (s := (a.1, a.2.1)) (l := (b.1, b.2.1)) ha.1 hb.1, minF_pos (s := (a.2.2.1, a.2.2.2)) (l := (b.2.2.1, b.2.2.2)) ha.2 hb.2⟩
theorem axS_pos {p d a b : Int} (hd : d ≠ 0) : spP (axS p d a b) := ⟨slabLo_pos hd, slabHi_pos hd⟩
theorem axS_in {p d a b : Int} (hd : d ≠ 0) {t : Int × Int} : inS (axS p d a b) t ↔ inD p d a b t := slab_in hd t
theorem axE_in {p d a b : Int} {t : Int × Int} (ht : 0 < t.2) (h : axE p d a b = true) : ¬ inD p d a b t := by
  simp only [axE, Bool.and_eq_true, Bool.or_eq_true, decide_eq_true_eq] at h
  obtain ⟨rfl, h⟩ := h
  simp only [inD, Int.mul_zero, Int.add_zero, mul_pos_le ht]
  omega
theorem ax0_in {p d a b : Int} {t : Int × Int} (ht : 0 < t.2) (h : axE p d a b = false) (hd : d = 0) : inD p d a b t := by
  subst hd
  simp [axE] at h
  simp only [inD, Int.mul_zero, Int.add_zero, mul_pos_le ht]
  omega
theorem up0_in {s : SpT} (h : spP s) {t : Int × Int} (ht : 0 < t.2) : inS (up0 s) t ↔ inS s t ∧ 0 ≤ t.1 := by
  unfold up0
  split
  · rename_i h0
    unfold inS frLe
    dsimp only
    constructor
    · rintro ⟨q1, q2⟩
      have q3 : 0 ≤ t.1 := by omega
      refine ⟨⟨?_, q2⟩, q3⟩
      have e1 : s.1 * t.2 ≤ 0 := Int.mul_nonpos_of_nonpos_of_nonneg (by omega) (by omega)
      have e2 : 0 ≤ t.1 * s.2.1 := Int.mul_nonneg q3 (by have := h.1; omega)
      omega
    · rintro ⟨⟨q1, q2⟩, q3⟩
      exact ⟨by omega, q2⟩
  · rename_i h0
    refine ⟨fun q => ⟨q, ?_⟩, fun q => q.1⟩
    have := q.1
    unfold frLe at this
    dsimp only at this
    have e1 : 0 ≤ s.1 * t.2 := Int.mul_nonneg (by omega) (by omega)
    refine Int.nonneg_of_mul_nonneg_left (b := s.2.1) ?_ h.1
    omega
theorem up0_pos {s : SpT} (h : spP s) : spP (up0 s) ∧ 0 ≤ (up0 s).1 := by
  unfold up0
  split
  · exact ⟨⟨Int.zero_lt_one, h.2⟩, Int.le_refl _⟩
  · exact ⟨h, by omega⟩
theorem vec_nz {v : VecT} (hv : vecB v = true) : v.1 ≠ 0 ∨ v.2.1 ≠ 0 := by
  simp only [vecB, Bool.and_eq_true, vecIn_iff, decide_eq_true_eq] at hv
  refine Classical.byContradiction fun h => ?_
  have h1 : v.1 = 0 := by omega
  have h2 : v.2.1 = 0 := by omega
  obtain ⟨⟨h3, _⟩, h4⟩ := hv
  rw [h1, h2] at h4
  have : 1 * 1 ≤ v.2.2 * v.2.2 := Int.mul_le_mul h3 h3 (by decide) (by omega)
  omega
theorem tmAB_pos {p : PtT} {v : VecT} {r : RectT} (hv : vecB v = true) : spP (tmA p v r) ∧ spP (tmB p v r) := by
  have := vec_nz hv
  unfold tmA tmB
  constructor <;> split <;> exact axS_pos (by omega)
theorem tm_pos {p : PtT} {v : VecT} {r : RectT} (hv : vecB v = true) : spP (tmS p v r) ∧ 0 ≤ (tmS p v r).1 :=
  up0_pos (capF_pos (tmAB_pos hv).1 (tmAB_pos hv).2)
theorem tm_in {p : PtT} {v : VecT} {r : RectT} (hv : vecB v = true) {t : Int × Int} (ht : 0 < t.2) :
    (tmE p v r = false → inS (tmS p v r) t → 0 ≤ t.1 ∧ inR p v r t) ∧ (0 ≤ t.1 ∧ inR p v r t → tmE p v r = false ∧ inS (tmS p v r) t) := by
  have hnz := vec_nz hv
  have hab := tmAB_pos (p := p) (r := r) hv
  have hin : inS (tmS p v r) t ↔ (inS (tmA p v r) t ∧ inS (tmB p v r) t) ∧ 0 ≤ t.1 := by
    unfold tmS
    rw [up0_in (capF_pos hab.1 hab.2) ht, capF_in hab.1 hab.2 ht]
  have hA : axE p.1 v.1 r.1 r.2.2.1 = false → axE p.2 v.2.1 r.2.1 r.2.2.2 = false → ((inS (tmA p v r) t ∧ inS (tmB p v r) t) ↔ inR p v r t) := by
    intro e1 e2
    unfold tmA tmB inR
    by_cases h1 : v.1 = 0
    · rw [if_pos h1, if_neg (by omega), axS_in (by omega)]
      exact ⟨fun q => ⟨ax0_in ht e1 h1, q.1⟩, fun q => ⟨q.2, q.2⟩⟩
    · rw [if_neg h1]
      by_cases h2 : v.2.1 = 0
      · rw [if_pos h2, axS_in h1]
        exact ⟨fun q => ⟨q.1, ax0_in ht e2 h2⟩, fun q => ⟨q.1, q.1⟩⟩
      · rw [if_neg h2, axS_in h1, axS_in h2]
  constructor
  · intro he hs
    simp only [tmE, Bool.or_eq_false_iff] at he
    obtain ⟨⟨e1, e2⟩, -⟩ := he
    have := hin.1 hs
    exact ⟨this.2, (hA e1 e2).1 this.1⟩
  · rintro ⟨h0, hr⟩
    have e1 : axE p.1 v.1 r.1 r.2.2.1 = false := by
      cases h : axE p.1 v.1 r.1 r.2.2.1 with
      | false => rfl
      | true => exact (axE_in ht h hr.1).elim
    have e2 : axE p.2 v.2.1 r.2.1 r.2.2.2 = false := by
      cases h : axE p.2 v.2.1 r.2.1 r.2.2.2 with
      | false => rfl
      | true => exact (axE_in ht h hr.2).elim
    have hs := hin.2 ⟨(hA e1 e2).2 hr, h0⟩
    refine ⟨?_, hs⟩
    simp only [tmE, e1, e2, Bool.false_or]
    rw [lessB_not]
    have hp := tm_pos (p := p) (r := r) hv
    exact frLe_trans hp.1.1 ht hp.1.2 hs.1 hs.2
def rMeetF (p : PtT) (v : VecT) (lo hi : Int) (r : RectT) : Bool :=
  !tmE p v r && decide ((tmS p v r).1 * v.2.2 ≤ hi * (tmS p v r).2.1) && decide (lo * (tmS p v r).2.2.2 ≤ (tmS p v r).2.2.1 * v.2.2)
theorem rMeetF_iff {p : PtT} {v : VecT} {lo hi : Int} {r : RectT} (hv : vecB v = true) (h2 : lo ≤ hi) :
    rMeetF p v lo hi r = true ↔ ∃ t : Int × Int, 0 < t.2 ∧ 0 ≤ t.1 ∧ inR p v r t ∧ lo * t.2 ≤ t.1 * v.2.2 ∧ t.1 * v.2.2 ≤ hi * t.2 := by
  have hv1 : 1 ≤ v.2.2 := by
    have := hv
    simp only [vecB, Bool.and_eq_true, vecIn_iff] at this
    exact this.1.1
  have hp := tm_pos (p := p) (r := r) hv
  unfold rMeetF
  simp only [Bool.and_eq_true, decide_eq_true_eq, Bool.not_eq_true']
  constructor
  · rintro ⟨⟨q1, q3⟩, q2⟩
    have g3 : frLe ((tmS p v r).1, (tmS p v r).2.1) ((tmS p v r).2.2.1, (tmS p v r).2.2.2) := by
      have := q1
      simp only [tmE, Bool.or_eq_false_iff] at this
      exact lessB_not.1 this.2
    have key : ∀ t : Int × Int, 0 < t.2 → inS (tmS p v r) t → frLe (lo, v.2.2) t → frLe t (hi, v.2.2) → ∃ t : Int × Int, 0 < t.2 ∧ 0 ≤ t.1 ∧ inR p v r t ∧ lo * t.2 ≤ t.1 * v.2.2 ∧ t.1 * v.2.2 ≤ hi * t.2 := by
      intro t ht hs hl hh
      have hr := (tm_in hv ht).1 q1 hs
      exact ⟨t, ht, hr.1, hr.2, hl, hh⟩
    have l2 : frLe (lo, v.2.2) ((tmS p v r).2.2.1, (tmS p v r).2.2.2) := q2
    have l3 : frLe ((tmS p v r).1, (tmS p v r).2.1) (hi, v.2.2) := q3
    by_cases hc : frLe ((tmS p v r).1, (tmS p v r).2.1) (lo, v.2.2)
    · refine key (lo, v.2.2) (by dsimp only; omega) ⟨hc, l2⟩ (by unfold frLe; exact Int.le_refl _) ?_
      unfold frLe
      exact Int.mul_le_mul_of_nonneg_right h2 (by omega)
    · exact key ((tmS p v r).1, (tmS p v r).2.1) hp.1.1 ⟨by unfold frLe; exact Int.le_refl _, g3⟩ ((frLe_total _ _).resolve_left hc) l3
  · rintro ⟨t, ht, t0, hr, hl, hh⟩
    obtain ⟨k1, k2, k3⟩ := (tm_in hv ht).2 ⟨t0, hr⟩
    refine ⟨⟨k1, ?_⟩, ?_⟩
    · exact frLe_trans (a := ((tmS p v r).1, (tmS p v r).2.1)) (b := t) (c := (hi, v.2.2)) hp.1.1 ht (by dsimp only; omega) k2 hh
    · exact frLe_trans (a := (lo, v.2.2)) (b := t) (c := ((tmS p v r).2.2.1, (tmS p v r).2.2.2)) (by dsimp only; omega) ht hp.1.2 hl k3
theorem szB_near {n : Int} : szB n 2097152 = nearL n := by
  rw [Bool.eq_iff_iff]
  simp [szB, nearL]
theorem rPoint_x (p : PtT) : PureX Tryz.prog 172 [.a [I p.1, I p.2]] (B (ptL p)) := by
  refine PureX.of Tryz.func172 rfl tabOk rfl rfl rfl (by simp [SV.wfs, SV.wf]) (by simp [SV.wfs, SV.wf]) fun w => ?_
  (conv=>whnf);repeat' (first|((with_reducible refine isC ?_);first|((with_reducible refine CallX_pure (Size_x _ _ ?_ ?_) ?_)<;>first|omega|with_reducible refine isP ?_|conv=>whnf))|with_reducible exact rfl|((with_reducible first|refine xif_kt (by assumption) ?_|refine xif_kf (by assumption) ?_);conv=>whnf)|((with_reducible refine xif_s ?_ ?_)<;>(intro hb;(try simp (disch:=omega) only [hbS] at hb)<;>conv=>whnf)))
  · refine Fin_pure rfl (B_eq ?_) trivial
    unfold ptL
    rw [← szB_near, ← szB_near, hb, Bool.true_and]
  · refine Fin_pure rfl (B_eq ?_) trivial
    unfold ptL
    rw [← szB_near, ← szB_near, hb, Bool.false_and]
theorem rRect_x (r : RectT) (h : rectL r = true) : PureX Tryz.prog 173 [.a [I r.1, I r.2.1, I r.2.2.1, I r.2.2.2]] (B true) := by
  simp only [rectL, Bool.and_eq_true, nearL_iff, decide_eq_true_eq] at h
  refine PureX.of Tryz.func173 rfl tabOk rfl rfl rfl (by simp [SV.wfs, SV.wf]) (by simp [SV.wfs, SV.wf]) fun w => ?_
  (conv=>whnf);repeat' (first|with_reducible exact rfl|((with_reducible first|refine xif_kt (by assumption) ?_|refine xif_kf (by assumption) ?_);conv=>whnf)|((with_reducible refine xif_s ?_ ?_)<;>(intro hb;(try simp (disch:=omega) only [hbS] at hb)<;>conv=>whnf)))
  all_goals try (exfalso; omega)
  all_goals exact Fin_pure rfl (B_eq (by simp; omega)) trivial
theorem rArgs_x {p : PtT} {v : VecT} {r : RectT} (h : argsB p v r = true) : PureX Tryz.prog 148 [.a [I p.1, I p.2], .a [I v.1, I v.2.1, I v.2.2], .a [I r.1, I r.2.1, I r.2.2.1, I r.2.2.2]] (B true) := by
  simp only [argsB, Bool.and_eq_true] at h
  obtain ⟨⟨h1, h2⟩, h3⟩ := h
  have k1 := rPoint_x p
  have k2 := bVector_x v
  have k3 := rRect_x r h3
  rw [h1] at k1
  rw [h2] at k2
  refine PureX.of Tryz.func148 rfl tabOk rfl rfl rfl (by simp [SV.wfs, SV.wf]) (by simp [SV.wfs, SV.wf]) fun w => ?_
  (conv=>whnf);repeat' (first|((with_reducible refine isC ?_);first|((first|with_reducible refine CallX_pure (k1) ?_|with_reducible refine CallX_pure (k2) ?_|with_reducible refine CallX_pure (k3) ?_)<;>first|omega|with_reducible refine isP ?_|conv=>whnf))|with_reducible exact rfl|((with_reducible first|refine xif_kt (by assumption) ?_|refine xif_kf (by assumption) ?_);conv=>whnf)|((with_reducible refine xif_s ?_ ?_)<;>(intro hb;(try simp (disch:=omega) only [hbS] at hb)<;>conv=>whnf)))
  exact Fin_pure rfl rfl trivial
abbrev axV (s : SpT) (e a : Bool) : SV := .a [I s.1, I s.2.1, I s.2.2.1, I s.2.2.2, B e, B a]
theorem axis_pos (p d a b : Int) (h : -2097152 ≤ p ∧ p ≤ 2097152 ∧ -2097152 ≤ a ∧ a ≤ 2097152 ∧ -2097152 ≤ b ∧ b ≤ 2097152 ∧ 0 < d ∧ d ≤ 67108864) : PureX Tryz.prog 174 [I p, I d, I a, I b] (axV (a - p, d, b - p, d) false false) := by
  refine PureX.of Tryz.func174 rfl tabOk rfl rfl rfl (by simp [SV.wfs, SV.wf]) (by simp [SV.wfs, SV.wf]) fun w => ?_
  (conv=>whnf);repeat' (first|((with_reducible refine isW ?_;first|refine xwr_ok (by omega) (by omega) ?_|refine xwr_raw ?_);conv=>whnf)|with_reducible exact rfl|((with_reducible first|refine xif_kt (by assumption) ?_|refine xif_kf (by assumption) ?_);conv=>whnf)|((with_reducible refine xif_s ?_ ?_)<;>(intro hb;(try simp (disch:=omega) only [hbS] at hb)<;>conv=>whnf)))
  all_goals try (exfalso; omega)
  exact Fin_pure rfl rfl (by simp [SV.wf, SV.wfs])
theorem axis_nz (p d a b : Int) (h : -2097152 ≤ p ∧ p ≤ 2097152 ∧ -2097152 ≤ a ∧ a ≤ 2097152 ∧ -2097152 ≤ b ∧ b ≤ 2097152 ∧ -67108864 ≤ d ∧ d ≤ 67108864) (h0 : d ≠ 0) : PureX Tryz.prog 174 [I p, I d, I a, I b] (axV (axS p d a b) false false) := by
  by_cases hd : d < 0
  · have k := axis_pos (0 - p) (0 - d) (0 - b) (0 - a) (by omega)
    rw [show 0 - b - (0 - p) = p - b by omega, show 0 - a - (0 - p) = p - a by omega] at k
    unfold axS slabLo slabHi
    rw [if_pos hd, if_pos hd]
    refine PureX.of Tryz.func174 rfl tabOk rfl rfl rfl (by simp [SV.wfs, SV.wf]) (by simp [SV.wfs, SV.wf]) fun w => ?_
    (conv=>whnf);repeat' (first|((with_reducible refine isC ?_);first|((with_reducible refine CallX_pure (k) ?_)<;>first|omega|with_reducible refine isP ?_|conv=>whnf))|((with_reducible refine isW ?_;first|refine xwr_ok (by omega) (by omega) ?_|refine xwr_raw ?_);conv=>whnf)|with_reducible exact rfl|((with_reducible first|refine xif_kt (by assumption) ?_|refine xif_kf (by assumption) ?_);conv=>whnf)|((with_reducible refine xif_s ?_ ?_)<;>(intro hb;(try simp (disch:=omega) only [hbS] at hb)<;>conv=>whnf)))
    all_goals try (exfalso; omega)
    exact Fin_pure rfl rfl (by simp [SV.wf, SV.wfs])
  · unfold axS slabLo slabHi
    rw [if_neg hd, if_neg hd]
    exact axis_pos p d a b (by omega)
theorem axis_0 (p a b : Int) : PureX Tryz.prog 174 [I p, I 0, I a, I b] (axV (0, 0, 0, 0) (axE p 0 a b) (!axE p 0 a b)) := by
  refine PureX.of Tryz.func174 rfl tabOk rfl rfl rfl (by simp [SV.wfs, SV.wf]) (by simp [SV.wfs, SV.wf]) fun w => ?_
  (conv=>whnf);repeat' (first|((with_reducible refine isW ?_;first|refine xwr_ok (by omega) (by omega) ?_|refine xwr_raw ?_);conv=>whnf)|with_reducible exact rfl|((with_reducible first|refine xif_kt (by assumption) ?_|refine xif_kf (by assumption) ?_);conv=>whnf)|((with_reducible refine xif_s ?_ ?_)<;>(intro hb;(try simp (disch:=omega) only [hbS] at hb)<;>conv=>whnf)))
  all_goals try (exfalso; omega)
  all_goals
    first
    | rw [show axE p 0 a b = true by simp [axE]; omega]
    | rw [show axE p 0 a b = false by simp [axE]; omega]
  all_goals exact Fin_pure rfl rfl (by simp [SV.wf, SV.wfs])
theorem axS_sp {p d a b : Int} (hp : -2097152 ≤ p ∧ p ≤ 2097152) (ha : -2097152 ≤ a ∧ a ≤ 2097152) (hb : -2097152 ≤ b ∧ b ≤ 2097152) (hd : -67108864 ≤ d ∧ d ≤ 67108864) (h0 : d ≠ 0) : spB (axS p d a b) := ⟨slabLo_fr hp ha hb hd h0, slabHi_fr hp ha hb hd h0⟩
theorem capF_sp {a b : SpT} (ha : spB a) (hb : spB b) : spB (capF a b) := ⟨maxF_fr (s := (a.1, a.2.1)) (l := (b.1, b.2.1)) ha.1 hb.1, minF_fr (s := (a.2.2.1, a.2.2.2)) (l := (b.2.2.1, b.2.2.2)) ha.2 hb.2⟩
theorem up0_sp {a : SpT} (ha : spB a) : spB (up0 a) := by
  unfold up0
  split
  · exact ⟨by unfold frB; dsimp only; omega, ha.2⟩
  · exact ha
theorem tmS_sp {p : PtT} {v : VecT} {r : RectT} (h : argsB p v r = true) : spB (tmS p v r) := by
  obtain ⟨⟨p1, p2⟩, ⟨v1, v2, v3, v4⟩, r1, r2, r3, r4⟩ := args_bd h
  simp only [argsB, Bool.and_eq_true] at h
  have hnz := vec_nz h.1.2
  unfold tmS tmA tmB
  refine up0_sp (capF_sp ?_ ?_)
  · split
    · exact axS_sp p2 r2 r4 v2 (by omega)
    · exact axS_sp p1 r1 r3 v1 (by omega)
  · split
    · exact axS_sp p1 r1 r3 v1 (by omega)
    · exact axS_sp p2 r2 r4 v2 (by omega)
theorem sp_prod {x y : Int} (h1 : -8388608 ≤ x ∧ x ≤ 8388608) (h2 : 1 ≤ y ∧ y ≤ 67108864) : -562949953421312 ≤ x * y ∧ x * y ≤ 562949953421312 := by
  have := mul_bd (a := x) (b := y) (A := 8388608) (B := 67108864) (by omega) (by omega)
  omega
def resV (s : SpT) : SV := if lessB (s.2.2.1, s.2.2.2) (s.1, s.2.1) then axV (0, 0, 0, 0) true false else axV s false false
set_option maxHeartbeats 4000000 in
theorem times_2 (p : PtT) (v : VecT) (r : RectT) (a b : SpT) (ha : spB a) (hb : spB b)
    (kx : PureX Tryz.prog 174 [I p.1, I v.1, I r.1, I r.2.2.1] (axV a false false)) (ky : PureX Tryz.prog 174 [I p.2, I v.2.1, I r.2.1, I r.2.2.2] (axV b false false)) :
    PureX Tryz.prog 149 [.a [I p.1, I p.2], .a [I v.1, I v.2.1, I v.2.2], .a [I r.1, I r.2.1, I r.2.2.1, I r.2.2.2]] (resV (up0 (capF a b))) := by
  obtain ⟨⟨a1, a2, a3, a4⟩, a5, a6, a7, a8⟩ := ha
  dsimp only at a1 a2 a3 a4 a5 a6 a7 a8
  obtain ⟨⟨b1, b2, b3, b4⟩, b5, b6, b7, b8⟩ := hb
  dsimp only at b1 b2 b3 b4 b5 b6 b7 b8
  have m0 := sp_prod (x := a.1) (y := a.2.1) ⟨a1, a2⟩ ⟨a3, a4⟩
  have m1 := sp_prod (x := a.1) (y := a.2.2.2) ⟨a1, a2⟩ ⟨a7, a8⟩
  have m2 := sp_prod (x := a.2.2.1) (y := a.2.1) ⟨a5, a6⟩ ⟨a3, a4⟩
  have m3 := sp_prod (x := a.2.2.1) (y := a.2.2.2) ⟨a5, a6⟩ ⟨a7, a8⟩
  have m4 := sp_prod (x := a.1) (y := b.2.1) ⟨a1, a2⟩ ⟨b3, b4⟩
  have m5 := sp_prod (x := a.1) (y := b.2.2.2) ⟨a1, a2⟩ ⟨b7, b8⟩
  have m6 := sp_prod (x := a.2.2.1) (y := b.2.1) ⟨a5, a6⟩ ⟨b3, b4⟩
  have m7 := sp_prod (x := a.2.2.1) (y := b.2.2.2) ⟨a5, a6⟩ ⟨b7, b8⟩
  have m8 := sp_prod (x := b.1) (y := a.2.1) ⟨b1, b2⟩ ⟨a3, a4⟩
  have m9 := sp_prod (x := b.1) (y := a.2.2.2) ⟨b1, b2⟩ ⟨a7, a8⟩
  have m10 := sp_prod (x := b.2.2.1) (y := a.2.1) ⟨b5, b6⟩ ⟨a3, a4⟩
  have m11 := sp_prod (x := b.2.2.1) (y := a.2.2.2) ⟨b5, b6⟩ ⟨a7, a8⟩
  have m12 := sp_prod (x := b.1) (y := b.2.1) ⟨b1, b2⟩ ⟨b3, b4⟩
  have m13 := sp_prod (x := b.1) (y := b.2.2.2) ⟨b1, b2⟩ ⟨b7, b8⟩
  have m14 := sp_prod (x := b.2.2.1) (y := b.2.1) ⟨b5, b6⟩ ⟨b3, b4⟩
  have m15 := sp_prod (x := b.2.2.1) (y := b.2.2.2) ⟨b5, b6⟩ ⟨b7, b8⟩
  have e : ∀ s : SpT, s = up0 (capF a b) → PureX Tryz.prog 149 [.a [I p.1, I p.2], .a [I v.1, I v.2.1, I v.2.2], .a [I r.1, I r.2.1, I r.2.2.1, I r.2.2.2]] (resV s) := by
    intro s hs
    unfold capF maxF minF at hs
    by_cases g1 : lessB (a.1, a.2.1) (b.1, b.2.1) = true
    all_goals by_cases g2 : lessB (b.2.2.1, b.2.2.2) (a.2.2.1, a.2.2.2) = true
    all_goals
      simp only [g1, g2, if_true, if_false, Bool.false_eq_true, up0] at hs
      simp only [lessB, decide_eq_true_eq] at g1 g2
    all_goals split at hs
    all_goals
      subst hs
      unfold resV
      split
    all_goals
      rename_i g3 g4
      simp only [lessB, decide_eq_true_eq, Int.zero_mul, Int.mul_one] at g4
      refine PureX.of Tryz.func149 rfl tabOk rfl rfl rfl (by simp [SV.wfs, SV.wf]) (by simp [SV.wfs, SV.wf]) fun w => ?_
      (conv=>whnf);repeat' (first|((with_reducible refine isC ?_);first|((first|with_reducible refine CallX_pure (kx) ?_|with_reducible refine CallX_pure (ky) ?_)<;>first|omega|with_reducible refine isP ?_|conv=>whnf))|((with_reducible refine isW ?_;first|refine xwr_ok (by omega) (by omega) ?_|refine xwr_raw ?_);conv=>whnf)|((first|refine DrawX_s tabOk folOk ?_|refine DrawS_i (by kernel_rfl) ?_|with_reducible refine andX_i ?_ ?_)<;>conv=>whnf)|with_reducible exact rfl|((with_reducible first|refine xif_kt (by assumption) ?_|refine xif_kf (by assumption) ?_);conv=>whnf)|((with_reducible refine xif_s ?_ ?_)<;>(intro hb;(try simp (disch:=omega) only [hbS] at hb)<;>conv=>whnf)))
      all_goals try (exfalso; omega)
      all_goals exact Fin_pure rfl rfl (by simp [SV.wf, SV.wfs])
  exact e _ rfl
set_option maxHeartbeats 4000000 in
theorem times_y (p : PtT) (v : VecT) (r : RectT) (b : SpT) (hb : spB b)
    (kx : PureX Tryz.prog 174 [I p.1, I v.1, I r.1, I r.2.2.1] (axV (0, 0, 0, 0) false true)) (ky : PureX Tryz.prog 174 [I p.2, I v.2.1, I r.2.1, I r.2.2.2] (axV b false false)) :
    PureX Tryz.prog 149 [.a [I p.1, I p.2], .a [I v.1, I v.2.1, I v.2.2], .a [I r.1, I r.2.1, I r.2.2.1, I r.2.2.2]] (resV (up0 (capF b b))) := by
  obtain ⟨⟨b1, b2, b3, b4⟩, b5, b6, b7, b8⟩ := hb
  dsimp only at b1 b2 b3 b4 b5 b6 b7 b8
  have m0 := sp_prod (x := b.1) (y := b.2.1) ⟨b1, b2⟩ ⟨b3, b4⟩
  have m1 := sp_prod (x := b.1) (y := b.2.2.2) ⟨b1, b2⟩ ⟨b7, b8⟩
  have m2 := sp_prod (x := b.2.2.1) (y := b.2.1) ⟨b5, b6⟩ ⟨b3, b4⟩
  have m3 := sp_prod (x := b.2.2.1) (y := b.2.2.2) ⟨b5, b6⟩ ⟨b7, b8⟩
  have e : ∀ s : SpT, s = up0 (capF b b) → PureX Tryz.prog 149 [.a [I p.1, I p.2], .a [I v.1, I v.2.1, I v.2.2], .a [I r.1, I r.2.1, I r.2.2.1, I r.2.2.2]] (resV s) := by
    intro s hs
    unfold capF maxF minF at hs
    by_cases g1 : lessB (b.1, b.2.1) (b.1, b.2.1) = true
    all_goals by_cases g2 : lessB (b.2.2.1, b.2.2.2) (b.2.2.1, b.2.2.2) = true
    all_goals
      simp only [g1, g2, if_true, if_false, Bool.false_eq_true, up0] at hs
      simp only [lessB, decide_eq_true_eq] at g1 g2
    all_goals split at hs
    all_goals
      subst hs
      unfold resV
      split
    all_goals
      rename_i g3 g4
      simp only [lessB, decide_eq_true_eq, Int.zero_mul, Int.mul_one] at g4
      refine PureX.of Tryz.func149 rfl tabOk rfl rfl rfl (by simp [SV.wfs, SV.wf]) (by simp [SV.wfs, SV.wf]) fun w => ?_
      (conv=>whnf);repeat' (first|((with_reducible refine isC ?_);first|((first|with_reducible refine CallX_pure (kx) ?_|with_reducible refine CallX_pure (ky) ?_)<;>first|omega|with_reducible refine isP ?_|conv=>whnf))|((with_reducible refine isW ?_;first|refine xwr_ok (by omega) (by omega) ?_|refine xwr_raw ?_);conv=>whnf)|((first|refine DrawX_s tabOk folOk ?_|refine DrawS_i (by kernel_rfl) ?_|with_reducible refine andX_i ?_ ?_)<;>conv=>whnf)|with_reducible exact rfl|((with_reducible first|refine xif_kt (by assumption) ?_|refine xif_kf (by assumption) ?_);conv=>whnf)|((with_reducible refine xif_s ?_ ?_)<;>(intro hb;(try simp (disch:=omega) only [hbS] at hb)<;>conv=>whnf)))
      all_goals try (exfalso; omega)
      all_goals exact Fin_pure rfl rfl (by simp [SV.wf, SV.wfs])
  exact e _ rfl
set_option maxHeartbeats 4000000 in
theorem times_x (p : PtT) (v : VecT) (r : RectT) (a : SpT) (ha : spB a)
    (kx : PureX Tryz.prog 174 [I p.1, I v.1, I r.1, I r.2.2.1] (axV a false false)) (ky : PureX Tryz.prog 174 [I p.2, I v.2.1, I r.2.1, I r.2.2.2] (axV (0, 0, 0, 0) false true)) :
    PureX Tryz.prog 149 [.a [I p.1, I p.2], .a [I v.1, I v.2.1, I v.2.2], .a [I r.1, I r.2.1, I r.2.2.1, I r.2.2.2]] (resV (up0 (capF a a))) := by
  obtain ⟨⟨a1, a2, a3, a4⟩, a5, a6, a7, a8⟩ := ha
  dsimp only at a1 a2 a3 a4 a5 a6 a7 a8
  have m0 := sp_prod (x := a.1) (y := a.2.1) ⟨a1, a2⟩ ⟨a3, a4⟩
  have m1 := sp_prod (x := a.1) (y := a.2.2.2) ⟨a1, a2⟩ ⟨a7, a8⟩
  have m2 := sp_prod (x := a.2.2.1) (y := a.2.1) ⟨a5, a6⟩ ⟨a3, a4⟩
  have m3 := sp_prod (x := a.2.2.1) (y := a.2.2.2) ⟨a5, a6⟩ ⟨a7, a8⟩
  have e : ∀ s : SpT, s = up0 (capF a a) → PureX Tryz.prog 149 [.a [I p.1, I p.2], .a [I v.1, I v.2.1, I v.2.2], .a [I r.1, I r.2.1, I r.2.2.1, I r.2.2.2]] (resV s) := by
    intro s hs
    unfold capF maxF minF at hs
    by_cases g1 : lessB (a.1, a.2.1) (a.1, a.2.1) = true
    all_goals by_cases g2 : lessB (a.2.2.1, a.2.2.2) (a.2.2.1, a.2.2.2) = true
    all_goals
      simp only [g1, g2, if_true, if_false, Bool.false_eq_true, up0] at hs
      simp only [lessB, decide_eq_true_eq] at g1 g2
    all_goals split at hs
    all_goals
      subst hs
      unfold resV
      split
    all_goals
      rename_i g3 g4
      simp only [lessB, decide_eq_true_eq, Int.zero_mul, Int.mul_one] at g4
      refine PureX.of Tryz.func149 rfl tabOk rfl rfl rfl (by simp [SV.wfs, SV.wf]) (by simp [SV.wfs, SV.wf]) fun w => ?_
      (conv=>whnf);repeat' (first|((with_reducible refine isC ?_);first|((first|with_reducible refine CallX_pure (kx) ?_|with_reducible refine CallX_pure (ky) ?_)<;>first|omega|with_reducible refine isP ?_|conv=>whnf))|((with_reducible refine isW ?_;first|refine xwr_ok (by omega) (by omega) ?_|refine xwr_raw ?_);conv=>whnf)|((first|refine DrawX_s tabOk folOk ?_|refine DrawS_i (by kernel_rfl) ?_|with_reducible refine andX_i ?_ ?_)<;>conv=>whnf)|with_reducible exact rfl|((with_reducible first|refine xif_kt (by assumption) ?_|refine xif_kf (by assumption) ?_);conv=>whnf)|((with_reducible refine xif_s ?_ ?_)<;>(intro hb;(try simp (disch:=omega) only [hbS] at hb)<;>conv=>whnf)))
      all_goals try (exfalso; omega)
      all_goals exact Fin_pure rfl rfl (by simp [SV.wf, SV.wfs])
  exact e _ rfl
end Go.Proofs.YtadichckbogcjaaGreatDoor.En
end
section
namespace Go.Proofs.YtadichckbogcjaaGreatDoor.En
open Go.RowKit
set_option maxRecDepth 100000
theorem putR_el (e : EntT) : ∀ {l : List EntT} {y : EntT}, y ∈ (putR e l).1 → y ∈ l ∨ y = e ∨ ∃ x ∈ l, y = plusE x e ∧ zeroE y = false
  | [], y, h => by
    rw [putR, List.mem_singleton] at h
    exact .inr (.inl h)
  | x :: xs, y, h => by
    rw [putR] at h
    split at h
    · split at h
      · exact .inl (List.mem_cons_of_mem _ h)
      · rename_i hz
        rcases List.mem_cons.1 h with rfl | h
        · exact .inr (.inr ⟨x, List.mem_cons_self .., rfl, by simpa using hz⟩)
        · exact .inl (List.mem_cons_of_mem _ h)
    · split at h
      · rcases List.mem_cons.1 h with rfl | h
        · exact .inr (.inl rfl)
        · exact .inl h
      · rcases List.mem_cons.1 h with rfl | h
        · exact .inl (List.mem_cons_self ..)
        · rcases putR_el e h with h | h | ⟨z, hz, h⟩
          · exact .inl (List.mem_cons_of_mem _ h)
          · exact .inr (.inl h)
          · exact .inr (.inr ⟨z, List.mem_cons_of_mem _ hz, h⟩)
theorem putR_length (e : EntT) : ∀ l : List EntT, (putR e l).1.length ≤ l.length + 1
  | [] => by simp [putR]
  | x :: xs => by
    have := putR_length e xs
    rw [putR]
    split
    · split <;> simp only [List.length_cons] <;> omega
    · split
      · simp only [List.length_cons]; omega
      · simp only [List.length_cons]
        omega
def mB (a : PoseT) (b : BeamT) (c : CellT) : Bool := rMeetF (a.1, a.2.1) (beamF a.2.2 b.1) 0 (reachB b) (sqR c)
def eB (a : PoseT) (b : BeamT) (c : CellT) : Bool := !decide (b.2 = -1) && rMeetF (a.1, a.2.1) (beamF a.2.2 b.1) b.2 b.2 (sqR c)
def entG (a : PoseT) (b : BeamT) (c : CellT) : EntT := if eB a b c then (c.1, c.2, 1, 0) else (c.1, c.2, 0, 1)
def stepG (a : PoseT) (b : BeamT) (out : List EntT) (c : CellT) : List EntT := if mB a b c then (putE out (entG a b c)).1 else out
def kB (b : BeamT) : Int := reachB b / 64 + 2
def gridC (a : PoseT) (b : BeamT) : List CellT := outK allC (a.1 / 64 - kB b) (a.2.1 / 64 - kB b) (2 * kB b + 1).toNat (2 * kB b + 1).toNat
def beamG (a : PoseT) (out : List EntT) (b : BeamT) : List EntT := (gridC a b).foldl (stepG a b) out
def ofG (a : PoseT) (s : List BeamT) : List EntT := s.foldl (beamG a) []
def okG (m : Nat) (out : List EntT) : Prop := out.length ≤ m ∧ ∀ e ∈ out, (0 ≤ e.2.2.1 ∧ e.2.2.1 ≤ m) ∧ 0 ≤ e.2.2.2 ∧ e.2.2.2 ≤ m
theorem okG.le {m k : Nat} {out : List EntT} (h : okG m out) (hk : m ≤ k) : okG k out := ⟨Nat.le_trans h.1 hk, fun e he => by have := h.2 e he; omega⟩
theorem entG_bd (a : PoseT) (b : BeamT) (c : CellT) : (entG a b c).cell = c ∧ zeroE (entG a b c) = false ∧ ((0 ≤ (entG a b c).2.2.1 ∧ (entG a b c).2.2.1 ≤ 1) ∧ 0 ≤ (entG a b c).2.2.2 ∧ (entG a b c).2.2.2 ≤ 1) := by
  unfold entG
  split <;> exact ⟨rfl, by simp [zeroE], by dsimp only; omega⟩
theorem stepG_ok {a : PoseT} {b : BeamT} {m : Nat} {out : List EntT} (c : CellT) (h : okG m out) : okG (m + 1) (stepG a b out c) := by
  unfold stepG
  split
  · rw [putE_R]
    refine ⟨Nat.le_trans (putR_length _ _) (by have := h.1; omega), fun y hy => ?_⟩
    have hb := (entG_bd a b c).2.2
    rcases putR_el _ hy with hy | rfl | ⟨x, hx, rfl, -⟩
    · have := h.2 y hy
      omega
    · omega
    · have := h.2 x hx
      unfold plusE
      dsimp only
      omega
  · exact h.le (Nat.le_succ _)
theorem foldG_ok {a : PoseT} {b : BeamT} : ∀ (l : List CellT) {m : Nat} {out : List EntT}, okG m out → okG (m + l.length) (l.foldl (stepG a b) out)
  | [], _, _, h => h
  | c :: l, m, out, h => by
    rw [List.foldl_cons, List.length_cons, show m + (l.length + 1) = m + 1 + l.length by omega]
    exact foldG_ok l (stepG_ok c h)
def gC (a : PoseT) (b : BeamT) (c : CellT) : Int × Int := if mB a b c then (if eB a b c then (1, 0) else (0, 1)) else (0, 0)
theorem entG_gC {a : PoseT} {b : BeamT} {c : CellT} (h : mB a b c = true) : gC a b c = ((entG a b c).2.2.1, (entG a b c).2.2.2) := by
  unfold gC entG
  rw [if_pos h]
  split <;> rfl
def azG (out : List EntT) : Prop := asc out ∧ ∀ e ∈ out, zeroE e = false
theorem stepG_az {a : PoseT} {b : BeamT} {out : List EntT} (c : CellT) (h : azG out) : azG (stepG a b out c) := by
  unfold stepG
  split
  · rw [putE_R]
    refine ⟨putR_asc _ h.1, fun y hy => ?_⟩
    rcases putR_el _ hy with hy | rfl | ⟨x, hx, -, hz⟩
    · exact h.2 y hy
    · exact (entG_bd a b c).2.1
    · exact hz
  · exact h
theorem stepG_val {a : PoseT} {b : BeamT} {out : List EntT} (c d : CellT) (h : azG out) : valT (stepG a b out c) d = ((valT out d).1 + (if d = c then (gC a b c).1 else 0), (valT out d).2 + (if d = c then (gC a b c).2 else 0)) := by
  unfold stepG
  split
  · rename_i hm
    rw [putE_R, putR_val _ _ h.1, (entG_bd a b c).1, entG_gC hm]
    split <;> simp
  · rename_i hm
    have : gC a b c = (0, 0) := by unfold gC; rw [if_neg hm]
    rw [this]
    simp
theorem foldG_val {a : PoseT} {b : BeamT} (d : CellT) : ∀ (l : List CellT) {out : List EntT}, l.Nodup → azG out → azG (l.foldl (stepG a b) out) ∧ valT (l.foldl (stepG a b) out) d = ((valT out d).1 + (if d ∈ l then (gC a b d).1 else 0), (valT out d).2 + (if d ∈ l then (gC a b d).2 else 0))
  | [], out, _, h => by simp [h]
  | c :: l, out, hn, h => by
    rw [List.nodup_cons] at hn
    obtain ⟨i1, i2⟩ := foldG_val d l hn.2 (stepG_az (a := a) (b := b) c h)
    rw [List.foldl_cons]
    refine ⟨i1, ?_⟩
    rw [i2, stepG_val c d h]
    by_cases hd : d = c
    · subst hd
      simp [hn.1]
    · simp [hd]
theorem inR_sq {p : PtT} {v : VecT} {c : CellT} {t : Int × Int} : inR p v (sqR c) t ↔ inC p v c t := by
  unfold inR inC sqR inD
  exact Iff.rfl
theorem mB_met {a : PoseT} {b : BeamT} (hp : ptB (a.1, a.2.1)) (hb : -1 ≤ b.2 ∧ b.2 ≤ 1024) (c : CellT) : mB a b c = true ↔ c ∈ metL (a.1, a.2.1) (beamF a.2.2 b.1) b := by
  unfold mB
  rw [rMeetF_iff (beam_vec _ _) (reachB_bd hb).1, mem_met hp (beam_vec _ _) hb]
  simp only [inR_sq]
theorem eB_ends {a : PoseT} {b : BeamT} (hp : ptB (a.1, a.2.1)) (hb : -1 ≤ b.2 ∧ b.2 ≤ 1024) (c : CellT) : eB a b c = true ↔ c ∈ endsL (a.1, a.2.1) (beamF a.2.2 b.1) b := by
  unfold eB
  rw [Bool.and_eq_true, rMeetF_iff (beam_vec _ _) (Int.le_refl _), mem_ends hp (beam_vec _ _) hb]
  simp only [inR_sq, Bool.not_eq_true', decide_eq_false_iff_not]
  refine and_congr_left fun _ => ?_
  omega
theorem gC_cont {a : PoseT} {b : BeamT} (hp : ptB (a.1, a.2.1)) (hb : -1 ≤ b.2 ∧ b.2 ≤ 1024) (c : CellT) : gC a b c = contB a b c := by
  have h1 := mB_met hp hb c
  have h2 := eB_ends hp hb c
  have h3 := count_of (met_nodup (a.1, a.2.1) (beamF a.2.2 b.1) b) c
  have h4 := fun h => ends_met (c := c) hp (beam_vec a.2.2 b.1) hb h
  unfold gC contB contE
  by_cases q2 : c ∈ endsL (a.1, a.2.1) (beamF a.2.2 b.1) b
  · rw [if_pos q2, if_pos (h1.2 (h4 q2)), if_pos (h2.2 q2), h3, if_pos (h4 q2)]
    rfl
  · rw [if_neg q2, if_neg (show ¬ eB a b c = true from fun h => q2 (h2.1 h)), h3]
    by_cases q1 : c ∈ metL (a.1, a.2.1) (beamF a.2.2 b.1) b
    · rw [if_pos (h1.2 q1), if_pos q1]
      rfl
    · rw [if_neg (fun h => q1 (h1.1 h)), if_neg q1]
      rfl
theorem grid_axis {x a D far n e k : Int} (hD : 1 ≤ D) (ha : -D ≤ a ∧ a ≤ D) (he : 0 < e) (hn : 0 ≤ n) (h2 : n * D ≤ far * e)
    (g1 : k * 64 * e ≤ x * e + n * a) (g2 : x * e + n * a ≤ (k * 64 + 64) * e) : k * 64 ≤ x + far ∧ x - far ≤ k * 64 + 64 := by
  have e1 : n * a ≤ n * D := Int.mul_le_mul_of_nonneg_left ha.2 hn
  have e2 : n * (-D) ≤ n * a := Int.mul_le_mul_of_nonneg_left ha.1 hn
  rw [Int.mul_neg] at e2
  constructor
  · rw [← mul_pos_le he, Int.add_mul]
    omega
  · rw [← mul_pos_le he, Int.sub_mul]
    omega
theorem met_grid {a : PoseT} {b : BeamT} (hp : ptB (a.1, a.2.1)) (hb : -1 ≤ b.2 ∧ b.2 ≤ 1024) {c : CellT} (h : c ∈ metL (a.1, a.2.1) (beamF a.2.2 b.1) b) : c ∈ gridC a b := by
  obtain ⟨t, a1, a2, a3, a4, a5⟩ := (mem_met hp (beam_vec _ _) hb).1 h
  have hv := beam_vec a.2.2 b.1
  have hv' := hv
  simp only [vecB, Bool.and_eq_true, vecIn_iff] at hv'
  obtain ⟨⟨v1, v2, v3, v4, v5, v6⟩, -⟩ := hv'
  obtain ⟨x1, x2⟩ := grid_axis v1 ⟨v3, v4⟩ a1 a2 a5 a3.1.1 a3.1.2
  obtain ⟨y1, y2⟩ := grid_axis v1 ⟨v5, v6⟩ a1 a2 a5 a3.2.1 a3.2.2
  have hr := reachB_bd hb
  unfold gridC
  rw [mem_outK]
  unfold kB
  dsimp only at *
  refine ⟨rfl, ?_, ?_⟩ <;> omega
theorem beamG_val {a : PoseT} {b : BeamT} (hp : ptB (a.1, a.2.1)) (hb : -1 ≤ b.2 ∧ b.2 ≤ 1024) (d : CellT) {out : List EntT} (h : azG out) :
    azG (beamG a out b) ∧ valT (beamG a out b) d = ((valT out d).1 + (contB a b d).1, (valT out d).2 + (contB a b d).2) := by
  obtain ⟨i1, i2⟩ := foldG_val (a := a) (b := b) d (gridC a b) (outK_nodup _ _ _ _ _) h
  refine ⟨i1, ?_⟩
  unfold beamG
  rw [i2, gC_cont hp hb]
  by_cases hd : d ∈ gridC a b
  · rw [if_pos hd, if_pos hd]
  · rw [if_neg hd, if_neg hd]
    have : contB a b d = (0, 0) := Classical.byContradiction fun hc => hd (met_grid hp hb (contB_met hc))
    rw [this]
theorem ofG_val {a : PoseT} (hp : ptB (a.1, a.2.1)) (d : CellT) : ∀ (s : List BeamT) {out : List EntT}, (∀ b ∈ s, -1 ≤ b.2 ∧ b.2 ≤ 1024) → azG out →
    azG (s.foldl (beamG a) out) ∧ valT (s.foldl (beamG a) out) d = ((valT out d).1 + (contS a s d).1, (valT out d).2 + (contS a s d).2)
  | [], out, _, h => by simp [h, contS]
  | b :: s, out, hb, h => by
    obtain ⟨i1, i2⟩ := beamG_val hp (hb b (List.mem_cons_self ..)) d h
    obtain ⟨j1, j2⟩ := ofG_val hp d s (fun x hx => hb x (List.mem_cons_of_mem _ hx)) i1
    rw [List.foldl_cons]
    refine ⟨j1, ?_⟩
    rw [j2, i2]
    unfold contS
    simp only [List.map_cons, List.sum_cons, Int.add_assoc]
theorem ofG_eq {a : PoseT} {s : List BeamT} (h : ofOk a s = true) : ofG a s = (ofE a s).1 := by
  have hp : ptB (a.1, a.2.1) := by
    obtain ⟨h1, h2, -⟩ := ofOk_bd h
    have := szB_bd h1
    have := szB_bd h2
    unfold ptB
    dsimp only
    omega
  have hb : ∀ b ∈ s, -1 ≤ b.2 ∧ b.2 ≤ 1024 := fun b hb => by
    have := scan_mem (ofOk_bd h).2.2 hb
    omega
  have haz := fun d => ofG_val hp d s (out := []) hb ⟨by simp [asc], by simp⟩
  refine Rep.unique (rep_asc (haz (0, 0)).1.1 (haz (0, 0)).1.2) (ofE_rep h).1 fun d => ?_
  have := (haz d).2
  have e0 : valT [] d = (0, 0) := valT_none (by simp)
  rw [e0] at this
  simpa [ofG] using this
end Go.Proofs.YtadichckbogcjaaGreatDoor.En
end
