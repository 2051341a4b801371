import Derived.Test.YtadichckbogcjaaGreatDoorZToolsFirst08
set_option linter.all false
section
namespace Go.Proofs.YtadichckbogcjaaGreatDoor.En
open Go.RowKit
set_option maxRecDepth 100000
theorem mul_bd {a b A B : Int} (h1 : -A ≤ a ∧ a ≤ A) (h2 : -B ≤ b ∧ b ≤ B) : -(A * B) ≤ a * b ∧ a * b ≤ A * B := by
  have hA : 0 ≤ A := by omega
  have hB : 0 ≤ B := by omega
  have ha : a.natAbs ≤ A.natAbs := by omega
  have hb : b.natAbs ≤ B.natAbs := by omega
  have h : (a * b).natAbs ≤ (A * B).natAbs := by
    rw [Int.natAbs_mul, Int.natAbs_mul]
    exact Nat.mul_le_mul ha hb
  have hAB : 0 ≤ A * B := Int.mul_nonneg hA hB
  omega
abbrev PtT := Int × Int
abbrev VecT := Int × Int × Int
abbrev RectT := Int × Int × Int × Int
abbrev SpT := Int × Int × Int × Int
def nearL (n : Int) : Bool := decide (-2097152 ≤ n) && decide (n ≤ 2097152)
def ptL (p : PtT) : Bool := nearL p.1 && nearL p.2
def rectL (r : RectT) : Bool := nearL r.1 && nearL r.2.1 && nearL r.2.2.1 && nearL r.2.2.2 && decide (r.1 ≤ r.2.2.1) && decide (r.2.1 ≤ r.2.2.2)
def vecIn (v : VecT) : Bool := decide (1 ≤ v.2.2) && decide (v.2.2 ≤ 67108864) && decide (-v.2.2 ≤ v.1) && decide (v.1 ≤ v.2.2) && decide (-v.2.2 ≤ v.2.1) && decide (v.2.1 ≤ v.2.2)
def vecB (v : VecT) : Bool := vecIn v && decide (v.1 * v.1 + v.2.1 * v.2.1 = v.2.2 * v.2.2)
theorem nearL_iff {n : Int} : nearL n = true ↔ -2097152 ≤ n ∧ n ≤ 2097152 := by simp [nearL]
theorem vecIn_iff {v : VecT} : vecIn v = true ↔ 1 ≤ v.2.2 ∧ v.2.2 ≤ 67108864 ∧ -v.2.2 ≤ v.1 ∧ v.1 ≤ v.2.2 ∧ -v.2.2 ≤ v.2.1 ∧ v.2.1 ≤ v.2.2 := by
  simp only [vecIn, Bool.and_eq_true, decide_eq_true_eq]
  omega
theorem near_d (n : Int) : PureX Tryz.prog 180 [I n] (B (nearL n)) := by
  refine PureX.of Tryz.func180 rfl tabOk rfl rfl rfl (by simp [SV.wfs, SV.wf]) (by simp [SV.wfs, SV.wf]) fun w => ?_
  (conv=>whnf);repeat' (first|with_reducible exact rfl|((with_reducible first|refine xif_kt (by assumption) ?_|refine xif_kf (by assumption) ?_);conv=>whnf)|((with_reducible refine xif_s ?_ ?_)<;>(intro hb;(try simp (disch:=omega) only [hbS] at hb)<;>conv=>whnf)))
  all_goals refine Fin_pure rfl ?_ trivial
  all_goals refine congrArg (fun b => SV.v (Value.bool b)) ?_
  all_goals rw [Bool.eq_iff_iff, nearL_iff]
  all_goals try simp only [decide_eq_true_eq, Bool.false_eq_true, false_iff]
  all_goals omega
theorem B_eq {a b : Bool} (h : a = b) : B a = B b := by rw [h]
theorem segPoint_x (p : PtT) : PureX Tryz.prog 181 [.a [I p.1, I p.2]] (B (ptL p)) := by
  refine PureX.of Tryz.func181 rfl tabOk rfl rfl rfl (by simp [SV.wfs, SV.wf]) (by simp [SV.wfs, SV.wf]) fun w => ?_
  (conv=>whnf);repeat' (first|((with_reducible refine isC ?_);first|((with_reducible refine CallX_pure (near_d _) ?_)<;>first|omega|with_reducible refine isP ?_|conv=>whnf))|with_reducible exact rfl|((with_reducible first|refine xif_kt (by assumption) ?_|refine xif_kf (by assumption) ?_);conv=>whnf)|((with_reducible refine xif_s ?_ ?_)<;>(intro hb;(try simp (disch:=omega) only [hbS] at hb)<;>conv=>whnf)))
  all_goals refine Fin_pure rfl (B_eq ?_) trivial
  all_goals simp [ptL, hb]
theorem ValidRect_x (r : RectT) : PureX Tryz.prog 157 [.a [I r.1, I r.2.1, I r.2.2.1, I r.2.2.2]] (B (rectL r)) := by
  refine PureX.of Tryz.func157 rfl tabOk rfl rfl rfl (by simp [SV.wfs, SV.wf]) (by simp [SV.wfs, SV.wf]) fun w => ?_
  (conv=>whnf);repeat' (first|((with_reducible refine isC ?_);first|((with_reducible refine CallX_pure (near_d _) ?_)<;>first|omega|with_reducible refine isP ?_|conv=>whnf))|with_reducible exact rfl|((with_reducible first|refine xif_kt (by assumption) ?_|refine xif_kf (by assumption) ?_);conv=>whnf)|((with_reducible refine xif_s ?_ ?_)<;>(intro hb;(try simp (disch:=omega) only [hbS] at hb)<;>conv=>whnf)))
  all_goals refine Fin_pure rfl (B_eq ?_) trivial
  all_goals first | (simp_all [rectL]; done) | (simp_all [rectL]; omega)
theorem vec_sq {v : VecT} (h : vecIn v = true) : (-4503599627370496 ≤ v.1 * v.1 ∧ v.1 * v.1 ≤ 4503599627370496) ∧ (-4503599627370496 ≤ v.2.1 * v.2.1 ∧ v.2.1 * v.2.1 ≤ 4503599627370496) ∧ (-4503599627370496 ≤ v.2.2 * v.2.2 ∧ v.2.2 * v.2.2 ≤ 4503599627370496) := by
  rw [vecIn_iff] at h
  exact ⟨mul_bd (A := 67108864) (B := 67108864) (by omega) (by omega), mul_bd (A := 67108864) (B := 67108864) (by omega) (by omega), mul_bd (A := 67108864) (B := 67108864) (by omega) (by omega)⟩
theorem segVector_x (v : VecT) : PureX Tryz.prog 182 [.a [I v.1, I v.2.1, I v.2.2]] (B (vecB v)) := by
  cases h : vecIn v with
  | true =>
    obtain ⟨q1, q2, q3⟩ := vec_sq h
    have h' := vecIn_iff.1 h
    refine PureX.of Tryz.func182 rfl tabOk rfl rfl rfl (by simp [SV.wfs, SV.wf]) (by simp [SV.wfs, SV.wf]) fun w => ?_
    (conv=>whnf);repeat' (first|((with_reducible refine isW ?_;first|refine xwr_ok (by omega) (by omega) ?_|refine xwr_raw ?_);conv=>whnf)|with_reducible exact rfl|((with_reducible first|refine xif_kt (by assumption) ?_|refine xif_kf (by assumption) ?_);conv=>whnf)|((with_reducible refine xif_s ?_ ?_)<;>(intro hb;(try simp (disch:=omega) only [hbS] at hb)<;>conv=>whnf)))
    all_goals try (exfalso; omega)
    all_goals refine Fin_pure rfl (B_eq ?_) trivial
    all_goals simp [vecB, h]
    all_goals rfl
  | false =>
    have h' := (Bool.eq_false_iff.1 h)
    rw [ne_eq, vecIn_iff] at h'
    refine PureX.of Tryz.func182 rfl tabOk rfl rfl rfl (by simp [SV.wfs, SV.wf]) (by simp [SV.wfs, SV.wf]) fun w => ?_
    (conv=>whnf);repeat' (first|((with_reducible refine isW ?_;first|refine xwr_ok (by omega) (by omega) ?_|refine xwr_raw ?_);conv=>whnf)|with_reducible exact rfl|((with_reducible first|refine xif_kt (by assumption) ?_|refine xif_kf (by assumption) ?_);conv=>whnf)|((with_reducible refine xif_s ?_ ?_)<;>(intro hb;(try simp (disch:=omega) only [hbS] at hb)<;>conv=>whnf)))
    all_goals try (exfalso; omega)
    all_goals refine Fin_pure rfl (B_eq ?_) trivial
    all_goals simp [vecB, h]
def lessB (a b : Int × Int) : Bool := decide (a.1 * b.2 < b.1 * a.2)
def frB (a : Int × Int) : Prop := -8388608 ≤ a.1 ∧ a.1 ≤ 8388608 ∧ 1 ≤ a.2 ∧ a.2 ≤ 67108864
theorem less_x (a b : Int × Int) (ha : frB a) (hb' : frB b) : PureX Tryz.prog 191 [.a [I a.1, I a.2], .a [I b.1, I b.2]] (B (lessB a b)) := by
  obtain ⟨a1, a2, a3, a4⟩ := ha
  obtain ⟨b1, b2, b3, b4⟩ := hb'
  have h1 := mul_bd (a := a.1) (b := b.2) (A := 8388608) (B := 67108864) (by omega) (by omega)
  have h2 := mul_bd (a := b.1) (b := a.2) (A := 8388608) (B := 67108864) (by omega) (by omega)
  refine PureX.of Tryz.func191 rfl tabOk rfl rfl rfl (by simp [SV.wfs, SV.wf]) (by simp [SV.wfs, SV.wf]) fun w => ?_
  (conv=>whnf);repeat' (first|((with_reducible refine isW ?_;first|refine xwr_ok (by omega) (by omega) ?_|refine xwr_raw ?_);conv=>whnf)|with_reducible exact rfl|((with_reducible first|refine xif_kt (by assumption) ?_|refine xif_kf (by assumption) ?_);conv=>whnf)|((with_reducible refine xif_s ?_ ?_)<;>(intro hb;(try simp (disch:=omega) only [hbS] at hb)<;>conv=>whnf)))
  exact Fin_pure rfl rfl trivial
theorem less_e (n1 d1 n2 d2 : Int) (h : -8388608 ≤ n1 ∧ n1 ≤ 8388608 ∧ 1 ≤ d1 ∧ d1 ≤ 67108864 ∧ -8388608 ≤ n2 ∧ n2 ≤ 8388608 ∧ 1 ≤ d2 ∧ d2 ≤ 67108864) : PureX Tryz.prog 191 [.a [I n1, I d1], .a [I n2, I d2]] (B (lessB (n1, d1) (n2, d2))) :=
  less_x (n1, d1) (n2, d2) ⟨h.1, h.2.1, h.2.2.1, h.2.2.2.1⟩ ⟨h.2.2.2.2.1, h.2.2.2.2.2.1, h.2.2.2.2.2.2.1, h.2.2.2.2.2.2.2⟩
def slabLo (p d a b : Int) : Int × Int := if d < 0 then (p - b, 0 - d) else (a - p, d)
def slabHi (p d a b : Int) : Int × Int := if d < 0 then (p - a, 0 - d) else (b - p, d)
def maxF (s l : Int × Int) : Int × Int := if lessB s l then l else s
def minF (s h : Int × Int) : Int × Int := if lessB h s then h else s
def slabF (s : SpT) (p d a b : Int) : SpT × Bool :=
  if d = 0 then (s, decide (a ≤ p) && decide (p ≤ b)) else
  (((maxF (s.1, s.2.1) (slabLo p d a b)).1, (maxF (s.1, s.2.1) (slabLo p d a b)).2, (minF (s.2.2.1, s.2.2.2) (slabHi p d a b)).1, (minF (s.2.2.1, s.2.2.2) (slabHi p d a b)).2),
    !lessB (minF (s.2.2.1, s.2.2.2) (slabHi p d a b)) (maxF (s.1, s.2.1) (slabLo p d a b)))
def spB (s : SpT) : Prop := frB (s.1, s.2.1) ∧ frB (s.2.2.1, s.2.2.2)
theorem slabLo_fr {p d a b : Int} (hp : -2097152 ≤ p ∧ p ≤ 2097152) (ha : -2097152 ≤ a ∧ a ≤ 2097152) (hb : -2097152 ≤ b ∧ b ≤ 2097152) (hd : -67108864 ≤ d ∧ d ≤ 67108864) (h0 : d ≠ 0) : frB (slabLo p d a b) := by
  unfold slabLo frB
  split <;> dsimp only <;> omega
theorem slabHi_fr {p d a b : Int} (hp : -2097152 ≤ p ∧ p ≤ 2097152) (ha : -2097152 ≤ a ∧ a ≤ 2097152) (hb : -2097152 ≤ b ∧ b ≤ 2097152) (hd : -67108864 ≤ d ∧ d ≤ 67108864) (h0 : d ≠ 0) : frB (slabHi p d a b) := by
  unfold slabHi frB
  split <;> dsimp only <;> omega
theorem maxF_fr {s l : Int × Int} (h1 : frB s) (h2 : frB l) : frB (maxF s l) := by
  unfold maxF
  split <;> assumption
theorem minF_fr {s l : Int × Int} (h1 : frB s) (h2 : frB l) : frB (minF s l) := by
  unfold minF
  split <;> assumption
theorem slab_m (s : SpT) (p d a b : Int) (hs : spB s) (hp : -2097152 ≤ p ∧ p ≤ 2097152) (ha : -2097152 ≤ a ∧ a ≤ 2097152) (hb0 : -2097152 ≤ b ∧ b ≤ 2097152) (hd : -67108864 ≤ d ∧ d ≤ 67108864) :
    CallM Tryz.prog 183 [.p 0 0, I p, I d, I a, I b] (fun _ _ => True) [.box 198 [I s.1, I s.2.1, I s.2.2.1, I s.2.2.2]] (fun _ : Unit => B (slabF s p d a b).2) (fun _ => [.box 198 [I (slabF s p d a b).1.1, I (slabF s p d a b).1.2.1, I (slabF s p d a b).1.2.2.1, I (slabF s p d a b).1.2.2.2]]) := by
  refine CallM.of (m := 1) Tryz.func183 rfl tabOk rfl rfl rfl rfl (by simp [SV.wfs, SV.wf]) fun w M π _ => ?_
  by_cases h0 : d = 0
  · subst h0
    (conv=>whnf);repeat' (first|((with_reducible refine isW ?_;first|refine xwr_ok (by omega) (by omega) ?_|refine xwr_raw ?_);conv=>whnf)|((first|refine DrawX_s tabOk folOk ?_|refine DrawS_i (by kernel_rfl) ?_|with_reducible refine andX_i ?_ ?_)<;>conv=>whnf)|with_reducible exact rfl|((with_reducible first|refine xif_kt (by assumption) ?_|refine xif_kf (by assumption) ?_);conv=>whnf)|((with_reducible refine xif_s ?_ ?_)<;>(intro hb;(try simp (disch:=omega) only [hbS] at hb)<;>conv=>whnf)))
    all_goals refine Fin_m () [0] ⟨?_, by simp [SV.wf, SV.wfs]⟩ ⟨⟨rfl, rfl, by simp [SV.wf, SV.wfs]⟩, trivial⟩ (by decide) rfl
    all_goals refine B_eq ?_
    all_goals simp [slabF, hb]
    try omega
  · obtain ⟨⟨s1, s2, s3, s4⟩, s5, s6, s7, s8⟩ := hs
    dsimp only at s1 s2 s3 s4 s5 s6 s7 s8
    by_cases hn : d < 0
    all_goals (conv=>whnf);repeat' (first|((with_reducible refine isC ?_);first|((with_reducible refine CallX_pure (less_e _ _ _ _ ?_) ?_)<;>first|omega|with_reducible refine isP ?_|conv=>whnf))|((with_reducible refine isW ?_;first|refine xwr_ok (by omega) (by omega) ?_|refine xwr_raw ?_);conv=>whnf)|((first|refine DrawX_s tabOk folOk ?_|refine DrawS_i (by kernel_rfl) ?_|with_reducible refine andX_i ?_ ?_)<;>conv=>whnf)|with_reducible exact rfl|((with_reducible first|refine xif_kt (by assumption) ?_|refine xif_kf (by assumption) ?_);conv=>whnf)|((with_reducible refine xif_s ?_ ?_)<;>(intro hb;(try simp (disch:=omega) only [hbS] at hb)<;>conv=>whnf)))
    all_goals try (exfalso; omega)
    all_goals
      rename_i hb1
      simp only [slabF, slabLo, slabHi, h0, hn, if_false, if_true, maxF, minF, hb1, hb, Bool.false_eq_true]
      exact Fin_m () [0] ⟨rfl, by simp [SV.wf, SV.wfs]⟩ ⟨⟨rfl, rfl, by simp [SV.wf, SV.wfs]⟩, trivial⟩ (by decide) rfl
end Go.Proofs.YtadichckbogcjaaGreatDoor.En
namespace Go.Proofs.YtadichckbogcjaaGreatDoor.En
open Go.RowKit
set_option maxRecDepth 100000
theorem slabF_sp {s : SpT} {p d a b : Int} (hs : spB s) (hp : -2097152 ≤ p ∧ p ≤ 2097152) (ha : -2097152 ≤ a ∧ a ≤ 2097152) (hb : -2097152 ≤ b ∧ b ≤ 2097152) (hd : -67108864 ≤ d ∧ d ≤ 67108864) : spB (slabF s p d a b).1 := by
  unfold slabF
  split
  · exact hs
  · rename_i h0
    exact ⟨maxF_fr hs.1 (slabLo_fr hp ha hb hd h0), minF_fr hs.2 (slabHi_fr hp ha hb hd h0)⟩
def sp0 : SpT := (0, 1, 8388608, 1)
theorem sp0_sp : spB sp0 := by
  unfold spB frB sp0
  decide
def argsB (p : PtT) (v : VecT) (r : RectT) : Bool := ptL p && vecB v && rectL r
def throughF (p : PtT) (v : VecT) (r : RectT) : SpT × Bool :=
  if argsB p v r then
    if (slabF sp0 p.1 v.1 r.1 r.2.2.1).2 then
      if (slabF (slabF sp0 p.1 v.1 r.1 r.2.2.1).1 p.2 v.2.1 r.2.1 r.2.2.2).2 then ((slabF (slabF sp0 p.1 v.1 r.1 r.2.2.1).1 p.2 v.2.1 r.2.1 r.2.2.2).1, true) else ((0, 0, 0, 0), false)
    else ((0, 0, 0, 0), false)
  else ((0, 0, 0, 0), false)
theorem args_bd {p : PtT} {v : VecT} {r : RectT} (h : argsB p v r = true) : ((-2097152 ≤ p.1 ∧ p.1 ≤ 2097152) ∧ (-2097152 ≤ p.2 ∧ p.2 ≤ 2097152)) ∧ ((-67108864 ≤ v.1 ∧ v.1 ≤ 67108864) ∧ (-67108864 ≤ v.2.1 ∧ v.2.1 ≤ 67108864) ∧ 1 ≤ v.2.2 ∧ v.2.2 ≤ 67108864) ∧
    ((-2097152 ≤ r.1 ∧ r.1 ≤ 2097152) ∧ (-2097152 ≤ r.2.1 ∧ r.2.1 ≤ 2097152) ∧ (-2097152 ≤ r.2.2.1 ∧ r.2.2.1 ≤ 2097152) ∧ (-2097152 ≤ r.2.2.2 ∧ r.2.2.2 ≤ 2097152)) := by
  simp only [argsB, ptL, vecB, rectL, Bool.and_eq_true, nearL_iff, vecIn_iff, decide_eq_true_eq] at h
  omega
set_option maxHeartbeats 1000000 in
theorem through_x (p : PtT) (v : VecT) (r : RectT) : PureX Tryz.prog 158 [.a [I p.1, I p.2], .a [I v.1, I v.2.1, I v.2.2], .a [I r.1, I r.2.1, I r.2.2.1, I r.2.2.2]] (.t [.a [I (throughF p v r).1.1, I (throughF p v r).1.2.1, I (throughF p v r).1.2.2.1, I (throughF p v r).1.2.2.2], B (throughF p v r).2]) := by
  cases h : argsB p v r with
  | false =>
    have e : throughF p v r = ((0, 0, 0, 0), false) := by simp only [throughF, h, Bool.false_eq_true, if_false]
    rw [e]
    refine PureX.of Tryz.func158 rfl tabOk rfl rfl rfl (by simp [SV.wfs, SV.wf]) (by simp [SV.wfs, SV.wf]) fun w => ?_
    (conv=>whnf);repeat' (first|((with_reducible refine isC ?_);first|((first|with_reducible refine CallX_pure (segPoint_x (_, _)) ?_|with_reducible refine CallX_pure (segVector_x (_, _, _)) ?_|with_reducible refine CallX_pure (ValidRect_x (_, _, _, _)) ?_)<;>first|omega|with_reducible refine isP ?_|conv=>whnf))|with_reducible exact rfl|((with_reducible first|refine xif_kt (by assumption) ?_|refine xif_kf (by assumption) ?_);conv=>whnf)|((with_reducible refine xif_s ?_ ?_)<;>(intro hb;(try simp (disch:=omega) only [hbS] at hb)<;>conv=>whnf)))
    all_goals first
      | exact Fin_pure rfl rfl (by simp [SV.wf, SV.wfs])
      | (exfalso; simp_all [argsB]; done)
      | trace_state
  | true =>
    obtain ⟨⟨p1, p2⟩, ⟨v1, v2, v3, v4⟩, r1, r2, r3, r4⟩ := args_bd h
    have c1 := slab_m sp0 p.1 v.1 r.1 r.2.2.1 sp0_sp p1 r1 r3 v1
    have hs1 := slabF_sp (s := sp0) sp0_sp p1 r1 r3 v1
    have c2 := slab_m (slabF sp0 p.1 v.1 r.1 r.2.2.1).1 p.2 v.2.1 r.2.1 r.2.2.2 hs1 p2 r2 r4 v2
    unfold throughF
    rw [h, if_pos rfl]
    generalize slabF sp0 p.1 v.1 r.1 r.2.2.1 = s1 at *
    generalize slabF s1.1 p.2 v.2.1 r.2.1 r.2.2.2 = s2 at *
    simp only [argsB, Bool.and_eq_true] at h
    obtain ⟨⟨g1, g2⟩, g3⟩ := h
    refine PureX.of Tryz.func158 rfl tabOk rfl rfl rfl (by simp [SV.wfs, SV.wf]) (by simp [SV.wfs, SV.wf]) fun w => ?_
    (conv=>whnf);repeat' (first|((with_reducible refine isC ?_);first|((first|with_reducible refine CallX_pure (segPoint_x (_, _)) ?_|with_reducible refine CallX_pure (segVector_x (_, _, _)) ?_|with_reducible refine CallX_pure (ValidRect_x (_, _, _, _)) ?_)<;>first|omega|with_reducible refine isP ?_|conv=>whnf)|(refine CallX_m c1 [4] rfl ⟨⟨rfl, rfl, by simp [SV.wf, SV.wfs]⟩, trivial⟩ (by decide) (fun _ _ _ _ => trivial) ?_; intro p; conv => whnf)|(refine CallX_m c2 [4] rfl ⟨⟨rfl, rfl, by simp [SV.wf, SV.wfs]⟩, trivial⟩ (by decide) (fun _ _ _ _ => trivial) ?_; intro p; conv => whnf))|with_reducible exact rfl|((with_reducible first|refine xif_kt (by assumption) ?_|refine xif_kf (by assumption) ?_);conv=>whnf)|((with_reducible refine xif_s ?_ ?_)<;>(intro hb;(try simp (disch:=omega) only [hbS] at hb)<;>conv=>whnf)))
    · exact (Bool.false_ne_true (hb.symm.trans g1)).elim
    · exact (Bool.false_ne_true (hb.symm.trans g2)).elim
    · exact (Bool.false_ne_true (hb.symm.trans g3)).elim
    · simp only [hb, Bool.false_eq_true, if_false]
      exact Fin_pure rfl rfl (by simp [SV.wf, SV.wfs])
    · rename_i h1
      simp only [h1, hb, Bool.false_eq_true, if_false, if_true]
      exact Fin_pure rfl rfl (by simp [SV.wf, SV.wfs])
    · rename_i h1
      simp only [h1, hb, if_true]
      exact Fin_pure rfl rfl (by simp [SV.wf, SV.wfs])
def meetsS (p : PtT) (v : VecT) (lo hi : Int) (r : RectT) : Bool :=
  decide (0 ≤ lo) && decide (lo ≤ hi) && decide (hi ≤ 65536) && (throughF p v r).2 && decide (lo * (throughF p v r).1.2.2.2 ≤ (throughF p v r).1.2.2.1 * v.2.2) && decide ((throughF p v r).1.1 * v.2.2 ≤ hi * (throughF p v r).1.2.1)
theorem through_bd {p : PtT} {v : VecT} {r : RectT} (h : (throughF p v r).2 = true) : spB (throughF p v r).1 ∧ argsB p v r = true := by
  cases h0 : argsB p v r with
  | false => simp only [throughF, h0, Bool.false_eq_true, if_false] at h
  | true =>
    obtain ⟨⟨p1, p2⟩, ⟨v1, v2, v3, v4⟩, r1, r2, r3, r4⟩ := args_bd h0
    have hs1 := slabF_sp (s := sp0) sp0_sp p1 r1 r3 v1
    have hs2 := slabF_sp (s := (slabF sp0 p.1 v.1 r.1 r.2.2.1).1) hs1 p2 r2 r4 v2
    refine ⟨?_, rfl⟩
    unfold throughF at h ⊢
    rw [h0, if_pos rfl] at h ⊢
    split
    · rename_i h1
      rw [if_pos h1] at h
      split
      · exact hs2
      · rename_i h2
        rw [if_neg h2] at h
        cases h
    · rename_i h1
      rw [if_neg h1] at h
      cases h
theorem Meets_x (p : PtT) (v : VecT) (lo hi : Int) (r : RectT) : PureX Tryz.prog 138 [.a [I p.1, I p.2], .a [I v.1, I v.2.1, I v.2.2], I lo, I hi, .a [I r.1, I r.2.1, I r.2.2.1, I r.2.2.2]] (B (meetsS p v lo hi r)) := by
  have ht := through_x p v r
  unfold meetsS
  by_cases hg : 0 ≤ lo ∧ lo ≤ hi ∧ hi ≤ 65536
  · obtain ⟨g1, g2, g3⟩ := hg
    cases h : (throughF p v r).2 with
    | false =>
      rw [h] at ht
      refine PureX.of Tryz.func138 rfl tabOk rfl rfl rfl (by simp [SV.wfs, SV.wf]) (by simp [SV.wfs, SV.wf]) fun w => ?_
      (conv=>whnf);repeat' (first|((with_reducible refine isC ?_);first|((with_reducible refine CallX_pure (ht) ?_)<;>first|omega|with_reducible refine isP ?_|conv=>whnf))|((with_reducible refine isW ?_;first|refine xwr_ok (by omega) (by omega) ?_|refine xwr_raw ?_);conv=>whnf)|with_reducible exact rfl|((with_reducible first|refine xif_kt (by assumption) ?_|refine xif_kf (by assumption) ?_);conv=>whnf)|((with_reducible refine xif_s ?_ ?_)<;>(intro hb;(try simp (disch:=omega) only [hbS] at hb)<;>conv=>whnf)))
      all_goals try (exfalso; omega)
      exact Fin_pure rfl (by simp) trivial
    | true =>
      obtain ⟨⟨⟨b1, b2, b3, b4⟩, b5, b6, b7, b8⟩, hab⟩ := through_bd h
      obtain ⟨_, ⟨_, _, v3, v4⟩, _⟩ := args_bd hab
      rw [h] at ht
      generalize (throughF p v r).1 = s at *
      dsimp only at b1 b2 b3 b4 b5 b6 b7 b8
      have m1 := mul_bd (a := lo) (b := s.2.2.2) (A := 65536) (B := 67108864) (by omega) (by omega)
      have m2 := mul_bd (a := s.2.2.1) (b := v.2.2) (A := 8388608) (B := 67108864) (by omega) (by omega)
      have m3 := mul_bd (a := s.1) (b := v.2.2) (A := 8388608) (B := 67108864) (by omega) (by omega)
      have m4 := mul_bd (a := hi) (b := s.2.1) (A := 65536) (B := 67108864) (by omega) (by omega)
      refine PureX.of Tryz.func138 rfl tabOk rfl rfl rfl (by simp [SV.wfs, SV.wf]) (by simp [SV.wfs, SV.wf]) fun w => ?_
      (conv=>whnf);repeat' (first|((with_reducible refine isC ?_);first|((with_reducible refine CallX_pure (ht) ?_)<;>first|omega|with_reducible refine isP ?_|conv=>whnf))|((with_reducible refine isW ?_;first|refine xwr_ok (by omega) (by omega) ?_|refine xwr_raw ?_);conv=>whnf)|with_reducible exact rfl|((with_reducible first|refine xif_kt (by assumption) ?_|refine xif_kf (by assumption) ?_);conv=>whnf)|((with_reducible refine xif_s ?_ ?_)<;>(intro hb;(try simp (disch:=omega) only [hbS] at hb)<;>conv=>whnf)))
      all_goals try (exfalso; omega)
      all_goals refine Fin_pure rfl (B_eq ?_) trivial
      all_goals first | (simp [g1, g2, g3, hb]; done) | (simp [g1, g2, g3, hb]; omega)
  · refine PureX.of Tryz.func138 rfl tabOk rfl rfl rfl (by simp [SV.wfs, SV.wf]) (by simp [SV.wfs, SV.wf]) fun w => ?_
    (conv=>whnf);repeat' (first|((with_reducible refine isW ?_;first|refine xwr_ok (by omega) (by omega) ?_|refine xwr_raw ?_);conv=>whnf)|with_reducible exact rfl|((with_reducible first|refine xif_kt (by assumption) ?_|refine xif_kf (by assumption) ?_);conv=>whnf)|((with_reducible refine xif_s ?_ ?_)<;>(intro hb;(try simp (disch:=omega) only [hbS] at hb)<;>conv=>whnf)))
    all_goals first
      | (refine Fin_pure rfl (B_eq ?_) trivial; symm; rw [Bool.eq_false_iff]; intro hx; simp only [Bool.and_eq_true, decide_eq_true_eq] at hx; omega)
      | (exfalso; omega)
theorem Minus_x (q r : RectT) (h1 : rectL q = true) (h2 : rectL r = true) : PureX Tryz.prog 136 [.a [I q.1, I q.2.1, I q.2.2.1, I q.2.2.2], .a [I r.1, I r.2.1, I r.2.2.1, I r.2.2.2]]
    (if rectL (q.1 - r.2.2.1, q.2.1 - r.2.2.2, q.2.2.1 - r.1, q.2.2.2 - r.2.1) then .t [.a [I (q.1 - r.2.2.1), I (q.2.1 - r.2.2.2), I (q.2.2.1 - r.1), I (q.2.2.2 - r.2.1)], B true] else .t [.a [I 0, I 0, I 0, I 0], B false]) := by
  have b1 := h1
  have b2 := h2
  simp only [rectL, Bool.and_eq_true, nearL_iff, decide_eq_true_eq] at b1 b2
  cases h : rectL (q.1 - r.2.2.1, q.2.1 - r.2.2.2, q.2.2.1 - r.1, q.2.2.2 - r.2.1) with
  | true =>
    rw [if_pos rfl]
    refine PureX.of Tryz.func136 rfl tabOk rfl rfl rfl (by simp [SV.wfs, SV.wf]) (by simp [SV.wfs, SV.wf]) fun w => ?_
    (conv=>whnf);repeat' (first|((with_reducible refine isC ?_);first|((with_reducible refine CallX_pure (ValidRect_x (_, _, _, _)) ?_)<;>first|omega|with_reducible refine isP ?_|conv=>whnf))|((with_reducible refine isW ?_;first|refine xwr_ok (by omega) (by omega) ?_|refine xwr_raw ?_);conv=>whnf)|with_reducible exact rfl|((with_reducible first|refine xif_kt (by assumption) ?_|refine xif_kf (by assumption) ?_);conv=>whnf)|((with_reducible refine xif_s ?_ ?_)<;>(intro hb;(try simp (disch:=omega) only [hbS] at hb)<;>conv=>whnf)))
    all_goals first
      | exact Fin_pure rfl rfl (by simp [SV.wf, SV.wfs])
      | exact (Bool.false_ne_true (hb.symm.trans h1)).elim
      | exact (Bool.false_ne_true (hb.symm.trans h2)).elim
      | exact (Bool.false_ne_true (hb.symm.trans h)).elim
  | false =>
    rw [if_neg (by simp)]
    refine PureX.of Tryz.func136 rfl tabOk rfl rfl rfl (by simp [SV.wfs, SV.wf]) (by simp [SV.wfs, SV.wf]) fun w => ?_
    (conv=>whnf);repeat' (first|((with_reducible refine isC ?_);first|((with_reducible refine CallX_pure (ValidRect_x (_, _, _, _)) ?_)<;>first|omega|with_reducible refine isP ?_|conv=>whnf))|((with_reducible refine isW ?_;first|refine xwr_ok (by omega) (by omega) ?_|refine xwr_raw ?_);conv=>whnf)|with_reducible exact rfl|((with_reducible first|refine xif_kt (by assumption) ?_|refine xif_kf (by assumption) ?_);conv=>whnf)|((with_reducible refine xif_s ?_ ?_)<;>(intro hb;(try simp (disch:=omega) only [hbS] at hb)<;>conv=>whnf)))
    all_goals first
      | exact Fin_pure rfl rfl (by simp [SV.wf, SV.wfs])
      | exact (Bool.false_ne_true (hb.symm.trans h1)).elim
      | exact (Bool.false_ne_true (hb.symm.trans h2)).elim
      | exact (Bool.false_ne_true (h.symm.trans hb)).elim
end Go.Proofs.YtadichckbogcjaaGreatDoor.En
end
