import Derived.Test.YtadichckbogcjaaGreatDoorZToolsFirst12
import Derived.Test.YtadichckbogcjaaGreatDoorZToolsFirst09
set_option linter.all false
section
namespace Go.Proofs.YtadichckbogcjaaGreatDoor.En
open Go.RowKit
set_option maxRecDepth 100000
theorem floor_t {a b : Int} (h : 0 < b) : (a.tmod b < 0 → a.tdiv b - 1 = a / b) ∧ (0 ≤ a.tmod b → a.tdiv b = a / b) := by
  have e1 := Int.mul_tdiv_add_tmod a b
  have e2 := Int.mul_ediv_add_emod a b
  have r1 := Int.emod_nonneg a (show b ≠ 0 by omega)
  have r2 := Int.emod_lt_of_pos a h
  have t1 := Int.tmod_lt_of_pos a h
  have t2 : -b < a.tmod b := Int.lt_tmod_of_pos a h
  constructor
  · intro hn
    have h3 : b * (a.tdiv b - 1 - a / b) = (a % b) - (a.tmod b + b) := by
      rw [Int.mul_sub, Int.mul_sub]; omega
    have h4 : -b < b * (a.tdiv b - 1 - a / b) ∧ b * (a.tdiv b - 1 - a / b) < b := by omega
    have h5 : a.tdiv b - 1 - a / b = 0 := by
      generalize a.tdiv b - 1 - a / b = z at h4
      rcases Int.lt_trichotomy z 0 with hz | hz | hz
      · have : b * z ≤ b * (-1) := Int.mul_le_mul_of_nonneg_left (by omega) (by omega)
        omega
      · exact hz
      · have : b * 1 ≤ b * z := Int.mul_le_mul_of_nonneg_left (by omega) (by omega)
        omega
    omega
  · intro hn
    have h3 : b * (a.tdiv b - a / b) = (a % b) - a.tmod b := by
      rw [Int.mul_sub]; omega
    have h4 : -b < b * (a.tdiv b - a / b) ∧ b * (a.tdiv b - a / b) < b := by omega
    have h5 : a.tdiv b - a / b = 0 := by
      generalize a.tdiv b - a / b = z at h4
      rcases Int.lt_trichotomy z 0 with hz | hz | hz
      · have : b * z ≤ b * (-1) := Int.mul_le_mul_of_nonneg_left (by omega) (by omega)
        omega
      · exact hz
      · have : b * 1 ≤ b * z := Int.mul_le_mul_of_nonneg_left (by omega) (by omega)
        omega
    omega
theorem ediv_bd {a b M : Int} (h : 1 ≤ b) (h1 : -M ≤ a) (h2 : a ≤ M) : -M ≤ a / b ∧ a / b ≤ M := by
  have e2 := Int.mul_ediv_add_emod a b
  have r1 := Int.emod_nonneg a (show b ≠ 0 by omega)
  have r2 := Int.emod_lt_of_pos a (show 0 < b by omega)
  constructor
  · refine Int.not_lt.1 fun hn => ?_
    have : b * (a / b) ≤ b * (-M - 1) := Int.mul_le_mul_of_nonneg_left (by omega) (by omega)
    have e : b * (-M - 1) = -(b * M) - b := by grind
    have : 1 * M ≤ b * M := Int.mul_le_mul_of_nonneg_right h (by omega)
    omega
  · refine Int.not_lt.1 fun hn => ?_
    have : b * (M + 1) ≤ b * (a / b) := Int.mul_le_mul_of_nonneg_left (by omega) (by omega)
    have e : b * (M + 1) = b * M + b := by grind
    have : 1 * M ≤ b * M := Int.mul_le_mul_of_nonneg_right h (by omega)
    omega
theorem down_x (a b : Int) (h : -4611686018427387904 ≤ a ∧ a ≤ 4611686018427387904 ∧ 1 ≤ b) : PureX Tryz.prog 156 [I a, I b] (I (a / b)) := by
  obtain ⟨h1, h2, h3⟩ := h
  have hf := floor_t (a := a) (b := b) (by omega)
  by_cases h0 : 0 ≤ a
  · have hm := Int.emod_nonneg a (show b ≠ 0 by omega)
    refine PureX.of Tryz.func156 rfl tabOk rfl rfl rfl (by simp [SV.wfs, SV.wf]) (by simp [SV.wfs, SV.wf]) fun w => ?_
    (conv=>whnf);repeat' (first|((with_reducible refine isW ?_;first|refine xwr_ok (by omega) (by omega) ?_|refine xwr_raw ?_);conv=>whnf)|((with_reducible refine isQ ?_;first|refine xquo_nn (by omega) (by omega) (by omega) ?_|refine xquo_ok (by omega) (by omega) (by omega) ?_|refine xquo_raw (by omega) ?_);conv=>whnf)|((with_reducible refine isR ?_;first|refine xrem_nn (by omega) (by omega) ?_|refine xrem_raw (by omega) ?_);conv=>whnf)|((with_reducible refine need_i ?_ ?_)<;>first|omega|conv=>whnf)|with_reducible exact rfl|((with_reducible first|refine xif_kt (by assumption) ?_|refine xif_kf (by assumption) ?_);conv=>whnf)|((with_reducible refine xif_s ?_ ?_)<;>(intro hb;(try simp (disch:=omega) only [hbS] at hb)<;>conv=>whnf)))
    all_goals try (exfalso; omega)
    exact Fin_pure rfl rfl trivial
  · have hq : -4611686018427387904 ≤ a.tdiv b ∧ a.tdiv b ≤ 4611686018427387904 := by
      have l1 : (a.tdiv b).natAbs ≤ a.natAbs := by rw [Int.natAbs_tdiv]; exact Nat.div_le_self _ _
      omega
    refine PureX.of Tryz.func156 rfl tabOk rfl rfl rfl (by simp [SV.wfs, SV.wf]) (by simp [SV.wfs, SV.wf]) fun w => ?_
    (conv=>whnf);repeat' (first|((with_reducible refine isW ?_;first|refine xwr_ok (by omega) (by omega) ?_|refine xwr_raw ?_);conv=>whnf)|((with_reducible refine isQ ?_;first|refine xquo_nn (by omega) (by omega) (by omega) ?_|refine xquo_ok (by omega) (by omega) (by omega) ?_|refine xquo_raw (by omega) ?_);conv=>whnf)|((with_reducible refine isR ?_;first|refine xrem_nn (by omega) (by omega) ?_|refine xrem_raw (by omega) ?_);conv=>whnf)|((with_reducible refine need_i ?_ ?_)<;>first|omega|conv=>whnf)|with_reducible exact rfl|((with_reducible first|refine xif_kt (by assumption) ?_|refine xif_kf (by assumption) ?_);conv=>whnf)|((with_reducible refine xif_s ?_ ?_)<;>(intro hb;(try simp (disch:=omega) only [hbS] at hb)<;>conv=>whnf)))
    · refine Fin_pure rfl (I_eq ?_) trivial
      exact hf.1 hb
    · refine Fin_pure rfl (I_eq ?_) trivial
      exact hf.2 hb
theorem pwithin_x (n m : Int) (h : -9000000000000000000 ≤ m ∧ m ≤ 9000000000000000000) : PureX Tryz.prog 133 [I n, I m] (B (szB n m)) := by
  refine PureX.of Tryz.func133 rfl tabOk rfl rfl rfl (by simp [SV.wfs, SV.wf]) (by simp [SV.wfs, SV.wf]) fun w => ?_
  (conv=>whnf);repeat' (first|((with_reducible refine isW ?_;first|refine xwr_ok (by omega) (by omega) ?_|refine xwr_raw ?_);conv=>whnf)|with_reducible exact rfl|((with_reducible first|refine xif_kt (by assumption) ?_|refine xif_kf (by assumption) ?_);conv=>whnf)|((with_reducible refine xif_s ?_ ?_)<;>(intro hb;(try simp (disch:=omega) only [hbS] at hb)<;>conv=>whnf)))
  all_goals refine Fin_pure rfl ?_ trivial
  all_goals simp [szB]
  all_goals omega
theorem pPoint_x (p : PtT) : PureX Tryz.prog 97 [.a [I p.1, I p.2]] (B (szB p.1 1048576 && szB p.2 1048576)) := by
  refine PureX.of Tryz.func97 rfl tabOk rfl rfl rfl (by simp [SV.wfs, SV.wf]) (by simp [SV.wfs, SV.wf]) fun w => ?_
  (conv=>whnf);repeat' (first|((with_reducible refine isC ?_);first|((with_reducible refine CallX_pure (pwithin_x _ _ ?_) ?_)<;>first|omega|with_reducible refine isP ?_|conv=>whnf))|with_reducible exact rfl|((with_reducible first|refine xif_kt (by assumption) ?_|refine xif_kf (by assumption) ?_);conv=>whnf)|((with_reducible refine xif_s ?_ ?_)<;>(intro hb;(try simp (disch:=omega) only [hbS] at hb)<;>conv=>whnf)))
  all_goals refine Fin_pure rfl (B_eq ?_) trivial
  all_goals simp [hb]
theorem vecIn_sz (v : VecT) : vecIn v = (decide (1 ≤ v.2.2) && decide (v.2.2 ≤ 67108864) && szB v.1 v.2.2 && szB v.2.1 v.2.2) := by
  rw [Bool.eq_iff_iff, vecIn_iff]
  simp only [szB, Bool.and_eq_true, decide_eq_true_eq]
  omega
theorem pVector_x (v : VecT) : PureX Tryz.prog 98 [.a [I v.1, I v.2.1, I v.2.2]] (B (vecB v)) := by
  have hsz := vecIn_sz v
  cases h : vecIn v with
  | true =>
    obtain ⟨q1, q2, q3⟩ := vec_sq h
    have h' := vecIn_iff.1 h
    rw [h] at hsz
    simp only [Bool.true_eq, Bool.and_eq_true, decide_eq_true_eq] at hsz
    obtain ⟨⟨_, s1⟩, s2⟩ := hsz
    refine PureX.of Tryz.func98 rfl tabOk rfl rfl rfl (by simp [SV.wfs, SV.wf]) (by simp [SV.wfs, SV.wf]) fun w => ?_
    (conv=>whnf);repeat' (first|((with_reducible refine isC ?_);first|((with_reducible refine CallX_pure (pwithin_x _ _ ?_) ?_)<;>first|omega|with_reducible refine isP ?_|conv=>whnf))|((with_reducible refine isW ?_;first|refine xwr_ok (by omega) (by omega) ?_|refine xwr_raw ?_);conv=>whnf)|with_reducible exact rfl|((with_reducible first|refine xif_kt (by assumption) ?_|refine xif_kf (by assumption) ?_);conv=>whnf)|((with_reducible refine xif_s ?_ ?_)<;>(intro hb;(try simp (disch:=omega) only [hbS] at hb)<;>conv=>whnf)))
    all_goals try (exfalso; omega)
    all_goals try exact (Bool.false_ne_true (hb.symm.trans s1)).elim
    all_goals try exact (Bool.false_ne_true (hb.symm.trans s2)).elim
    all_goals refine Fin_pure rfl (B_eq ?_) trivial
    all_goals simp [vecB, h]
    all_goals rfl
  | false =>
    have h' : ¬ (1 ≤ v.2.2 ∧ v.2.2 ≤ 67108864 ∧ szB v.1 v.2.2 = true ∧ szB v.2.1 v.2.2 = true) := by
      rintro ⟨a1, a2, a3, a4⟩
      rw [h] at hsz
      simp [a1, a2, a3, a4] at hsz
    refine PureX.of Tryz.func98 rfl tabOk rfl rfl rfl (by simp [SV.wfs, SV.wf]) (by simp [SV.wfs, SV.wf]) fun w => ?_
    (conv=>whnf);repeat' (first|((with_reducible refine isC ?_);first|((with_reducible refine CallX_pure (pwithin_x _ _ ?_) ?_)<;>first|omega|with_reducible refine isP ?_|conv=>whnf))|((with_reducible refine isW ?_;first|refine xwr_ok (by omega) (by omega) ?_|refine xwr_raw ?_);conv=>whnf)|with_reducible exact rfl|((with_reducible first|refine xif_kt (by assumption) ?_|refine xif_kf (by assumption) ?_);conv=>whnf)|((with_reducible refine xif_s ?_ ?_)<;>(intro hb;(try simp (disch:=omega) only [hbS] at hb)<;>conv=>whnf)))
    all_goals first
      | (refine Fin_pure rfl (B_eq ?_) trivial; simp [vecB, h]; done)
      | exact (h' ⟨by omega, by omega, by assumption, by assumption⟩).elim
theorem span_x (a b : Int) (h : -1000000000000 ≤ a ∧ a ≤ 1000000000000 ∧ -1000000000000 ≤ b ∧ b ≤ 1000000000000) : PureX Tryz.prog 135 [I a, I b] (.t [I (0 - (0 - a) / 64 - 1), I (b / 64)]) := by
  obtain ⟨h1, h2, h3, h4⟩ := h
  refine PureX.of Tryz.func135 rfl tabOk rfl rfl rfl (by simp [SV.wfs, SV.wf]) (by simp [SV.wfs, SV.wf]) fun w => ?_
  (conv=>whnf);repeat' (first|((with_reducible refine isC ?_);first|((with_reducible refine CallX_pure (down_x _ _ ?_) ?_)<;>first|omega|with_reducible refine isP ?_|conv=>whnf))|((with_reducible refine isW ?_;first|refine xwr_ok (by omega) (by omega) ?_|refine xwr_raw ?_);conv=>whnf)|with_reducible exact rfl|((with_reducible first|refine xif_kt (by assumption) ?_|refine xif_kf (by assumption) ?_);conv=>whnf)|((with_reducible refine xif_s ?_ ?_)<;>(intro hb;(try simp (disch:=omega) only [hbS] at hb)<;>conv=>whnf)))
  exact Fin_pure rfl rfl (by simp [SV.wf, SV.wfs])
theorem square_x (c : CellT) (h : -1000000000000 ≤ c.1 ∧ c.1 ≤ 1000000000000 ∧ -1000000000000 ≤ c.2 ∧ c.2 ≤ 1000000000000) : PureX Tryz.prog 137 [.a [I c.1, I c.2]] (.a [I (c.1 * 64), I (c.2 * 64), I (c.1 * 64 + 64), I (c.2 * 64 + 64)]) := by
  obtain ⟨h1, h2, h3, h4⟩ := h
  refine PureX.of Tryz.func137 rfl tabOk rfl rfl rfl (by simp [SV.wfs, SV.wf]) (by simp [SV.wfs, SV.wf]) fun w => ?_
  (conv=>whnf);repeat' (first|((with_reducible refine isW ?_;first|refine xwr_ok (by omega) (by omega) ?_|refine xwr_raw ?_);conv=>whnf)|((first|refine DrawX_s tabOk folOk ?_|refine DrawS_i (by kernel_rfl) ?_|with_reducible refine andX_i ?_ ?_)<;>conv=>whnf)|with_reducible exact rfl|((with_reducible first|refine xif_kt (by assumption) ?_|refine xif_kf (by assumption) ?_);conv=>whnf)|((with_reducible refine xif_s ?_ ?_)<;>(intro hb;(try simp (disch:=omega) only [hbS] at hb)<;>conv=>whnf)))
  exact Fin_pure rfl rfl (by simp [SV.wf, SV.wfs])
def reachF (a b n d lo hi : Int) : Int × Int := (a + min (lo * n) (hi * n) / d, b + max (lo * n) (hi * n) / d + 1)
theorem mul_sc {s n d : Int} (hs : 0 ≤ s) (h1 : -d ≤ n) (h2 : n ≤ d) : -(s * d) ≤ s * n ∧ s * n ≤ s * d := by
  have a1 : s * (-d) ≤ s * n := Int.mul_le_mul_of_nonneg_left h1 hs
  have a2 : s * n ≤ s * d := Int.mul_le_mul_of_nonneg_left h2 hs
  rw [Int.mul_neg] at a1
  exact ⟨a1, a2⟩
theorem div_sc {x s d : Int} (hd : 1 ≤ d) (h1 : -(s * d) ≤ x) (h2 : x ≤ s * d) : -s ≤ x / d ∧ x / d ≤ s := by
  constructor
  · refine (Int.le_ediv_iff_mul_le (by omega)).2 ?_
    rw [Int.neg_mul]
    exact h1
  · have : x / d < s + 1 := Int.ediv_lt_of_lt_mul (by omega) (by rw [Int.add_mul]; omega)
    omega
theorem reach_bd {a b n d lo hi : Int} (hd : 1 ≤ d) (h1 : -d ≤ n) (h2 : n ≤ d) (h3 : 0 ≤ lo) (h4 : lo ≤ hi) : a - hi ≤ (reachF a b n d lo hi).1 ∧ (reachF a b n d lo hi).1 ≤ a + hi ∧ b - hi + 1 ≤ (reachF a b n d lo hi).2 ∧ (reachF a b n d lo hi).2 ≤ b + hi + 1 := by
  have a1 := mul_sc (s := lo) h3 h1 h2
  have a2 := mul_sc (s := hi) (by omega) h1 h2
  have a3 : lo * d ≤ hi * d := Int.mul_le_mul_of_nonneg_right h4 (by omega)
  have b1 := div_sc (x := min (lo * n) (hi * n)) (s := hi) hd (by omega) (by omega)
  have b2 := div_sc (x := max (lo * n) (hi * n)) (s := hi) hd (by omega) (by omega)
  unfold reachF
  dsimp only
  omega
theorem reach_x (a b n d lo hi : Int) (h : -1000000000000 ≤ a ∧ a ≤ 1000000000000 ∧ -1000000000000 ≤ b ∧ b ≤ 1000000000000 ∧ 1 ≤ d ∧ d ≤ 67108864 ∧ -d ≤ n ∧ n ≤ d ∧ 0 ≤ lo ∧ lo ≤ hi ∧ hi ≤ 100000) : PureX Tryz.prog 134 [I a, I b, I n, I d, I lo, I hi] (.t [I (reachF a b n d lo hi).1, I (reachF a b n d lo hi).2]) := by
  obtain ⟨h1, h2, h3, h4, h5, h6, h7, h8, h9, h10, h11⟩ := h
  have m1 := mul_bd (a := lo) (b := n) (A := 100000) (B := 67108864) (by omega) (by omega)
  have m2 := mul_bd (a := hi) (b := n) (A := 100000) (B := 67108864) (by omega) (by omega)
  have b1 := ediv_bd (a := min (lo * n) (hi * n)) (M := 100000 * 67108864) h5 (by omega) (by omega)
  have b2 := ediv_bd (a := max (lo * n) (hi * n)) (M := 100000 * 67108864) h5 (by omega) (by omega)
  refine PureX.of Tryz.func134 rfl tabOk rfl rfl rfl (by simp [SV.wfs, SV.wf]) (by simp [SV.wfs, SV.wf]) fun w => ?_
  (conv=>whnf);repeat' (first|((with_reducible refine isC ?_);first|((with_reducible refine CallX_pure (down_x _ _ ?_) ?_)<;>first|omega|with_reducible refine isP ?_|conv=>whnf))|((with_reducible refine isW ?_;first|refine xwr_ok (by omega) (by omega) ?_|refine xwr_raw ?_);conv=>whnf)|with_reducible exact rfl|((with_reducible first|refine xif_kt (by assumption) ?_|refine xif_kf (by assumption) ?_);conv=>whnf)|((with_reducible refine xif_s ?_ ?_)<;>(intro hb;(try simp (disch:=omega) only [hbS] at hb)<;>conv=>whnf)))
  exact Fin_pure rfl rfl (by simp [SV.wf, SV.wfs])
end Go.Proofs.YtadichckbogcjaaGreatDoor.En
namespace Go.Proofs.YtadichckbogcjaaGreatDoor.En
open Go.RowKit
set_option maxRecDepth 100000
def encC (c : CellT) : List Value := [.int .i64 c.1, .int .i64 c.2]
def c0 : CellT := (0, 0)
def sqR (c : CellT) : RectT := (c.1 * 64, c.2 * 64, c.1 * 64 + 64, c.2 * 64 + 64)
def subR (q r : RectT) : RectT := (q.1 - r.2.2.1, q.2.1 - r.2.2.2, q.2.2.1 - r.1, q.2.2.2 - r.2.1)
def hitR (r : RectT) (v : VecT) (lo hi : Int) (c : CellT) : Bool := rectL (subR (sqR c) r) && meetsS (0, 0) v lo hi (subR (sqR c) r)
def spanF (b : Int × Int) : Int × Int := (0 - (0 - b.1) / 64 - 1, b.2 / 64)
def swX (r : RectT) (v : VecT) (lo hi : Int) : Int × Int := spanF (reachF r.1 r.2.2.1 v.1 v.2.2 lo hi)
def swY (r : RectT) (v : VecT) (lo hi : Int) : Int × Int := spanF (reachF r.2.1 r.2.2.2 v.2.1 v.2.2 lo hi)
section
variable (p : CellT → Bool) (x0 y0 : Int)
def rowK (y : Int) (j : Nat) : List CellT := ((List.range j).map fun i : Nat => (x0 + (i : Int), y)).filter p
def outK (w : Nat) (k : Nat) : List CellT := (List.range k).flatMap fun i : Nat => rowK p x0 (y0 + (i : Int)) w
theorem rowK_succ (y : Int) (j : Nat) : rowK p x0 y (j + 1) = rowK p x0 y j ++ if p (x0 + (j : Int), y) then [(x0 + (j : Int), y)] else [] := by
  unfold rowK
  rw [List.range_succ, List.map_append, List.filter_append]
  simp only [List.map_cons, List.map_nil, List.filter_cons, List.filter_nil]
theorem outK_succ (w k : Nat) : outK p x0 y0 w (k + 1) = outK p x0 y0 w k ++ rowK p x0 (y0 + (k : Int)) w := by
  unfold outK
  rw [List.range_succ, List.flatMap_append]
  simp
theorem rowK_len (y : Int) (j : Nat) : (rowK p x0 y j).length ≤ j := by
  unfold rowK
  refine Nat.le_trans (List.length_filter_le _ _) ?_
  simp
theorem outK_len (w : Nat) (hw : w ≤ 100) : ∀ k, (outK p x0 y0 w k).length ≤ k * 100
  | 0 => by simp [outK]
  | k + 1 => by
    rw [outK_succ, List.length_append]
    have h1 := outK_len w hw k
    have h2 := rowK_len p x0 (y0 + (k : Int)) w
    omega
end
def sweepL (r : RectT) (v : VecT) (lo hi : Int) : List CellT :=
  outK (hitR r v lo hi) (swX r v lo hi).1 (swY r v lo hi).1 ((swX r v lo hi).2 - (swX r v lo hi).1 + 1).toNat ((swY r v lo hi).2 - (swY r v lo hi).1 + 1).toNat
def swOk (r : RectT) (v : VecT) (lo hi : Int) : Prop := -1048576 ≤ r.1 ∧ r.1 ≤ r.2.2.1 ∧ r.2.2.1 ≤ 1048576 ∧ -1048576 ≤ r.2.1 ∧ r.2.1 ≤ r.2.2.2 ∧ r.2.2.2 ≤ 1048576 ∧ r.2.2.1 - r.1 ≤ 1024 ∧ r.2.2.2 - r.2.1 ≤ 1024 ∧ vecB v = true ∧ 0 ≤ lo ∧ lo ≤ hi ∧ hi ≤ 2048
theorem sw_bd {r : RectT} {v : VecT} {lo hi : Int} (h : swOk r v lo hi) :
    r.1 - 2200 ≤ (swX r v lo hi).1 * 64 ∧ (swX r v lo hi).2 * 64 ≤ r.2.2.1 + 2100 ∧ (swX r v lo hi).2 - (swX r v lo hi).1 ≤ 90 ∧ r.2.1 - 2200 ≤ (swY r v lo hi).1 * 64 ∧ (swY r v lo hi).2 * 64 ≤ r.2.2.2 + 2100 ∧ (swY r v lo hi).2 - (swY r v lo hi).1 ≤ 90 := by
  obtain ⟨h1, h2, h3, h4, h5, h6, h7, h8, hv, h9, h10, h11⟩ := h
  simp only [vecB, Bool.and_eq_true, vecIn_iff] at hv
  have b1 := reach_bd (a := r.1) (b := r.2.2.1) (n := v.1) (d := v.2.2) (lo := lo) (hi := hi) (by omega) (by omega) (by omega) h9 h10
  have b2 := reach_bd (a := r.2.1) (b := r.2.2.2) (n := v.2.1) (d := v.2.2) (lo := lo) (hi := hi) (by omega) (by omega) (by omega) h9 h10
  unfold swX swY spanF
  dsimp only
  omega
theorem sub_rect {r : RectT} {v : VecT} {lo hi : Int} (h : swOk r v lo hi) {c : CellT} (hx : (swX r v lo hi).1 ≤ c.1 ∧ c.1 ≤ (swX r v lo hi).2) (hy : (swY r v lo hi).1 ≤ c.2 ∧ c.2 ≤ (swY r v lo hi).2) : rectL (sqR c) = true ∧ rectL r = true ∧ rectL (subR (sqR c) r) = true := by
  have hb := sw_bd h
  obtain ⟨h1, h2, h3, h4, h5, h6, h7, h8, hv, h9, h10, h11⟩ := h
  dsimp only [sqR, subR]
  simp only [rectL, Bool.and_eq_true, nearL_iff, decide_eq_true_eq]
  omega
set_option maxHeartbeats 2000000 in
theorem sweep_r (r : RectT) (v : VecT) (lo hi : Int) (hok : swOk r v lo hi) :
    CallR Tryz.prog 99 [.a [I r.1, I r.2.1, I r.2.2.1, I r.2.2.2], .a [I v.1, I v.2.1, I v.2.2], I lo, I hi] (fun _ => True) 25 2 ((sweepL r v lo hi).map encC) (fun A c => .v (.slice A ((sweepL r v lo hi).map encC).length c)) := by
  have hb0 := sw_bd hok
  have hsub := fun c => sub_rect (c := c) hok
  have hok' := hok
  obtain ⟨h1, h2, h3, h4, h5, h6, h7, h8, hv, h9, h10, h11⟩ := hok
  have hv' := hv
  simp only [vecB, Bool.and_eq_true, vecIn_iff] at hv'
  obtain ⟨⟨v1, v2, v3, v4, v5, v6⟩, _⟩ := hv'
  have r1 := reach_x r.1 r.2.2.1 v.1 v.2.2 lo hi (by omega)
  have r2 := reach_x r.2.1 r.2.2.2 v.2.1 v.2.2 lo hi (by omega)
  have b1 := reach_bd (a := r.1) (b := r.2.2.1) (n := v.1) (d := v.2.2) (lo := lo) (hi := hi) (by omega) (by omega) (by omega) h9 h10
  have b2 := reach_bd (a := r.2.1) (b := r.2.2.2) (n := v.2.1) (d := v.2.2) (lo := lo) (hi := hi) (by omega) (by omega) (by omega) h9 h10
  have s1 : PureX Tryz.prog 135 [I (reachF r.1 r.2.2.1 v.1 v.2.2 lo hi).1, I (reachF r.1 r.2.2.1 v.1 v.2.2 lo hi).2] (.t [I (swX r v lo hi).1, I (swX r v lo hi).2]) := span_x _ _ (by omega)
  have s2 : PureX Tryz.prog 135 [I (reachF r.2.1 r.2.2.2 v.2.1 v.2.2 lo hi).1, I (reachF r.2.1 r.2.2.2 v.2.1 v.2.2 lo hi).2] (.t [I (swY r v lo hi).1, I (swY r v lo hi).2]) := span_x _ _ (by omega)
  have hmin : ∀ c : CellT, (swX r v lo hi).1 ≤ c.1 ∧ c.1 ≤ (swX r v lo hi).2 → (swY r v lo hi).1 ≤ c.2 ∧ c.2 ≤ (swY r v lo hi).2 →
      PureX Tryz.prog 136 [.a [I (c.1 * 64), I (c.2 * 64), I (c.1 * 64 + 64), I (c.2 * 64 + 64)], .a [I r.1, I r.2.1, I r.2.2.1, I r.2.2.2]] (.t [.a [I (subR (sqR c) r).1, I (subR (sqR c) r).2.1, I (subR (sqR c) r).2.2.1, I (subR (sqR c) r).2.2.2], B true]) ∧
      PureX Tryz.prog 138 [.a [I 0, I 0], .a [I v.1, I v.2.1, I v.2.2], I lo, I hi, .a [I (subR (sqR c) r).1, I (subR (sqR c) r).2.1, I (subR (sqR c) r).2.2.1, I (subR (sqR c) r).2.2.2]] (B (hitR r v lo hi c)) := by
    intro c hx hy
    obtain ⟨q1, q2, q3⟩ := hsub c hx hy
    have m1 := Minus_x (sqR c) r q1 q2
    have m2 := Meets_x (0, 0) v lo hi (subR (sqR c) r)
    unfold hitR
    rw [q3, Bool.true_and]
    refine ⟨?_, m2⟩
    have q3' : rectL ((sqR c).1 - r.2.2.1, (sqR c).2.1 - r.2.2.2, (sqR c).2.2.1 - r.1, (sqR c).2.2.2 - r.2.1) = true := q3
    rw [q3', if_pos rfl] at m1
    exact m1
  unfold sweepL
  generalize hp : hitR r v lo hi = p at *
  generalize swX r v lo hi = X at *
  generalize swY r v lo hi = Y at *
  generalize reachF r.1 r.2.2.1 v.1 v.2.2 lo hi = RX at *
  generalize reachF r.2.1 r.2.2.2 v.2.1 v.2.2 lo hi = RY at *
  have hout := outK_len p X.1 Y.1 (X.2 - X.1 + 1).toNat (by omega)
  refine CallR.of Tryz.func99 rfl tabOk rfl rfl rfl (by simp [SV.wfs, SV.wf]) (by intro _ _; simp [SV.wfs, SV.wf]) ?_ ?_ ?_ fun w hpre => ?_
  · have := hout (Y.2 - Y.1 + 1).toNat
    rw [List.length_map]
    omega
  · intro q hq
    obtain ⟨e, _, rfl⟩ := List.mem_map.1 hq
    rfl
  · intro q hq
    obtain ⟨l, hl, hql⟩ := List.mem_flatten.1 hq
    obtain ⟨e, _, rfl⟩ := List.mem_map.1 hl
    simp [encC] at hql
    rcases hql with rfl | rfl <;> rfl
  (conv=>whnf);repeat' (first|((with_reducible refine isC ?_);first|((first|with_reducible refine CallX_pure (r1) ?_|with_reducible refine CallX_pure (r2) ?_|with_reducible refine CallX_pure (s1) ?_|with_reducible refine CallX_pure (s2) ?_)<;>first|omega|with_reducible refine isP ?_|conv=>whnf))|((with_reducible refine isO ?_);first|((first|(refine OpX_build0 tabOk rfl rfl rfl ?_);intro bN|(refine OpX_build tabOk rfl rfl rfl rfl rfl ?_);intro bN);conv=>whnf))|((with_reducible refine isW ?_;first|refine xwr_ok (by omega) (by omega) ?_|refine xwr_raw ?_);conv=>whnf)|((first|refine DrawX_s tabOk folOk ?_|refine DrawS_i (by kernel_rfl) ?_|with_reducible refine andX_i ?_ ?_)<;>conv=>whnf)|with_reducible exact rfl|((with_reducible first|refine xif_kt (by assumption) ?_|refine xif_kf (by assumption) ?_);conv=>whnf)|((with_reducible refine xif_s ?_ ?_)<;>(intro hb;(try simp (disch:=omega) only [hbS] at hb)<;>conv=>whnf)))
  refine LoopX_addNil 25 2 ?_
  conv => whnf
  refine LoopX_inv tabOk (α := Nat × Option Addr × Nat) (fun s => (s.1 : Int) ≤ max 0 (Y.2 - Y.1 + 1)) (fun s => [(2, I lo), (3, I hi), (4, .p 0 0), (5, .p 1 0), (13, I X.1), (14, I X.2), (16, I Y.2), (17, .v (.slice s.2.1 (outK p X.1 Y.1 (X.2 - X.1 + 1).toNat s.1).length s.2.2)), (18, I (Y.1 + (s.1 : Int)))])
    (fun s => [.box 113 [I r.1, I r.2.1, I r.2.2.1, I r.2.2.2], .box 100 [I v.1, I v.2.1, I v.2.2], .row 25 2 s.2.1 (outK p X.1 Y.1 (X.2 - X.1 + 1).toNat s.1).length s.2.2 ((outK p X.1 Y.1 (X.2 - X.1 + 1).toNat s.1).map encC)]) (fun s => (Y.2 - Y.1 + 1).toNat - s.1) (0, none, 0) [0, 1, 2] (by (try dsimp only); omega) ?_ ?_
  · ((refine ⟨?_, ?_, ?_, ?_⟩) <;> (repeat' ((conv => whnf); apply And.intro)) <;> (try (first | exact trivial | decide)))
    all_goals first | rfl | exact fun _ _ h => h | exact I_eq (by simp) | simp [SV.wf, SV.wfs]
  · rintro ⟨k, A, c⟩ hk
    dsimp only at hk ⊢
    have hlen := hout k
    by_cases hy : Y.1 + (k : Int) ≤ Y.2
    · (conv=>whnf);repeat' (first|((with_reducible refine isO ?_);first|((first|(refine OpX_build0 tabOk rfl rfl rfl ?_);intro bN|(refine OpX_build tabOk rfl rfl rfl rfl rfl ?_);intro bN);conv=>whnf))|((with_reducible refine isW ?_;first|refine xwr_ok (by omega) (by omega) ?_|refine xwr_raw ?_);conv=>whnf)|((first|refine DrawX_s tabOk folOk ?_|refine DrawS_i (by kernel_rfl) ?_|with_reducible refine andX_i ?_ ?_)<;>conv=>whnf)|with_reducible exact rfl|((with_reducible first|refine xif_kt (by assumption) ?_|refine xif_kf (by assumption) ?_);conv=>whnf)|((with_reducible refine xif_s ?_ ?_)<;>(intro hb;(try simp (disch:=omega) only [hbS] at hb)<;>conv=>whnf)))
      all_goals try (exfalso; omega)
      generalize hO : outK p X.1 Y.1 (X.2 - X.1 + 1).toNat k = O at *
      refine LoopX_inv tabOk (α := Nat × Option Addr × Nat) (fun s => (s.1 : Int) ≤ max 0 (X.2 - X.1 + 1)) (fun s => [(2, I lo), (3, I hi), (4, .p 0 0), (5, .p 1 0), (13, I X.1), (14, I X.2), (16, I Y.2), (17, .v (.slice s.2.1 (O ++ rowK p X.1 (Y.1 + (k : Int)) s.1).length s.2.2)), (18, I (Y.1 + (k : Int))), (19, I (X.1 + (s.1 : Int)))])
        (fun s => [.box 113 [I r.1, I r.2.1, I r.2.2.1, I r.2.2.2], .box 100 [I v.1, I v.2.1, I v.2.2], .row 25 2 s.2.1 (O ++ rowK p X.1 (Y.1 + (k : Int)) s.1).length s.2.2 ((O ++ rowK p X.1 (Y.1 + (k : Int)) s.1).map encC)]) (fun s => (X.2 - X.1 + 1).toNat - s.1) (0, A, c) [0, 1, 2] (by (try dsimp only); omega) ?_ ?_
      · dsimp only
        rw [show rowK p X.1 (Y.1 + (k : Int)) 0 = [] from rfl, List.append_nil]
        ((refine ⟨?_, ?_, ?_, ?_⟩) <;> (repeat' ((conv => whnf); apply And.intro)) <;> (try (first | exact trivial | decide)))
        all_goals first | rfl | exact fun _ _ h => h | exact I_eq (by simp) | simp [SV.wf, SV.wfs]
      · rintro ⟨j, A2, c2⟩ hj
        dsimp only at hj ⊢
        have hlj := rowK_len p X.1 (Y.1 + (k : Int)) j
        have hL : (O ++ rowK p X.1 (Y.1 + (k : Int)) j).length ≤ 1000000 := by
          rw [List.length_append]
          omega
        by_cases hx : X.1 + (j : Int) ≤ X.2
        · obtain ⟨m1, m2⟩ := hmin (X.1 + (j : Int), Y.1 + (k : Int)) (by dsimp only; omega) (by dsimp only; omega)
          have hsq := square_x (X.1 + (j : Int), Y.1 + (k : Int)) (by dsimp only; omega)
          have hsucc := rowK_succ p X.1 (Y.1 + (k : Int)) j
          generalize hLL : O ++ rowK p X.1 (Y.1 + (k : Int)) j = L at *
          (conv=>whnf);repeat' (first|((with_reducible refine isC ?_);first|((first|with_reducible refine CallX_pure (hsq) ?_|with_reducible refine CallX_pure (m1) ?_|with_reducible refine CallX_pure (m2) ?_)<;>first|omega|with_reducible refine isP ?_|conv=>whnf))|((with_reducible refine isO ?_);first|((refine OpX_append 2 tabOk rfl rfl rfl rfl (ArgSl.row 5 rfl) (by decide) ?_ ?_ ?_)<;>first|omega|(dsimp only;omega)|(intro A' c';conv=>whnf))|((first|(refine OpX_build0 tabOk rfl rfl rfl ?_);intro bN|(refine OpX_build tabOk rfl rfl rfl rfl rfl ?_);intro bN);conv=>whnf))|((with_reducible refine isW ?_;first|refine xwr_ok (by omega) (by omega) ?_|refine xwr_raw ?_);conv=>whnf)|((first|refine DrawX_s tabOk folOk ?_|refine DrawS_i (by kernel_rfl) ?_|with_reducible refine andX_i ?_ ?_)<;>conv=>whnf)|with_reducible exact rfl|((with_reducible first|refine xif_kt (by assumption) ?_|refine xif_kf (by assumption) ?_);conv=>whnf)|((with_reducible refine xif_s ?_ ?_)<;>(intro hb;(try simp (disch:=omega) only [hbS] at hb)<;>conv=>whnf)))
          all_goals try (exfalso; omega)
          · refine ⟨(j + 1, A', c'), [0, 1, 2], by (try dsimp only); omega, ?_, by (try dsimp only); omega⟩
            dsimp only
            rw [hsucc, if_pos hb, ← List.append_assoc, hLL, List.length_append, List.map_append]
            ((refine ⟨?_, ?_, ?_, ?_⟩) <;> (repeat' ((conv => whnf); apply And.intro)) <;> (try (first | exact trivial | decide)))
            all_goals first | rfl | exact fun _ _ h => h | exact I_eq (by simp; omega) | (simp [SV.wf, SV.wfs]; done) | trace_state
          · refine ⟨(j + 1, A2, c2), [0, 1, 2], by (try dsimp only); omega, ?_, by (try dsimp only); omega⟩
            dsimp only
            rw [hsucc, if_neg (by rw [hb]; simp), List.append_nil, hLL]
            ((refine ⟨?_, ?_, ?_, ?_⟩) <;> (repeat' ((conv => whnf); apply And.intro)) <;> (try (first | exact trivial | decide)))
            all_goals first | rfl | exact fun _ _ h => h | exact I_eq (by simp; omega) | (simp [SV.wf, SV.wfs]; done) | trace_state
        · have hw : (X.2 - X.1 + 1).toNat = j := by omega
          (conv=>whnf);repeat' (first|((with_reducible refine isO ?_);first|((first|(refine OpX_build0 tabOk rfl rfl rfl ?_);intro bN|(refine OpX_build tabOk rfl rfl rfl rfl rfl ?_);intro bN);conv=>whnf))|((with_reducible refine isW ?_;first|refine xwr_ok (by omega) (by omega) ?_|refine xwr_raw ?_);conv=>whnf)|((first|refine DrawX_s tabOk folOk ?_|refine DrawS_i (by kernel_rfl) ?_|with_reducible refine andX_i ?_ ?_)<;>conv=>whnf)|with_reducible exact rfl|((with_reducible first|refine xif_kt (by assumption) ?_|refine xif_kf (by assumption) ?_);conv=>whnf)|((with_reducible refine xif_s ?_ ?_)<;>(intro hb;(try simp (disch:=omega) only [hbS] at hb)<;>conv=>whnf)))
          all_goals try (exfalso; omega)
          refine ⟨(k + 1, A2, c2), [0, 1, 2], by (try dsimp only); omega, ?_, by (try dsimp only); omega⟩
          dsimp only
          rw [outK_succ, hO, hw]
          ((refine ⟨?_, ?_, ?_, ?_⟩) <;> (repeat' ((conv => whnf); apply And.intro)) <;> (try (first | exact trivial | decide)))
          all_goals first | rfl | exact fun _ _ h => h | exact I_eq (by simp; omega) | (simp [SV.wf, SV.wfs]; done) | trace_state
    · have hw : (Y.2 - Y.1 + 1).toNat = k := by omega
      (conv=>whnf);repeat' (first|((with_reducible refine isO ?_);first|((first|(refine OpX_build0 tabOk rfl rfl rfl ?_);intro bN|(refine OpX_build tabOk rfl rfl rfl rfl rfl ?_);intro bN);conv=>whnf))|((with_reducible refine isW ?_;first|refine xwr_ok (by omega) (by omega) ?_|refine xwr_raw ?_);conv=>whnf)|((first|refine DrawX_s tabOk folOk ?_|refine DrawS_i (by kernel_rfl) ?_|with_reducible refine andX_i ?_ ?_)<;>conv=>whnf)|with_reducible exact rfl|((with_reducible first|refine xif_kt (by assumption) ?_|refine xif_kf (by assumption) ?_);conv=>whnf)|((with_reducible refine xif_s ?_ ?_)<;>(intro hb;(try simp (disch:=omega) only [hbS] at hb)<;>conv=>whnf)))
      all_goals try (exfalso; omega)
      rw [hw]
      exact Fin_rowN 2 rfl (by simp) rfl (by simp) (by simp [SV.wf, SV.wfs])
def ptR (p : PtT) : RectT := (p.1, p.2, p.1, p.2)
def tracedL (p : PtT) (v : VecT) (lo hi : Int) : List CellT := sweepL (ptR p) v lo hi
theorem Traced_r (p : PtT) (v : VecT) (lo hi : Int) (h1 : -1048576 ≤ p.1 ∧ p.1 ≤ 1048576 ∧ -1048576 ≤ p.2 ∧ p.2 ≤ 1048576) (hv : vecB v = true) (h2 : 0 ≤ lo ∧ lo ≤ hi ∧ hi ≤ 2048) :
    CallR Tryz.prog 55 [.a [I p.1, I p.2], .a [I v.1, I v.2.1, I v.2.2], I lo, I hi] (fun _ => True) 25 2 ((tracedL p v lo hi).map encC) (fun A c => .t [.v (.slice A ((tracedL p v lo hi).map encC).length c), I 0]) := by
  obtain ⟨p1, p2, p3, p4⟩ := h1
  obtain ⟨l1, l2, l3⟩ := h2
  have hs := sweep_r (ptR p) v lo hi ⟨p1, Int.le_refl _, p2, p3, Int.le_refl _, p4, by simp [ptR], by simp [ptR], hv, l1, l2, l3⟩
  have hpt : (szB p.1 1048576 && szB p.2 1048576) = true := by simp [szB]; omega
  have hpx := pPoint_x p
  rw [hpt] at hpx
  have hvx := pVector_x v
  rw [hv] at hvx
  have hs' := hs
  obtain ⟨_, _, g1, g2, g3, _⟩ := hs'
  refine CallR.of Tryz.func55 rfl tabOk rfl rfl rfl (by simp [SV.wfs, SV.wf]) (by intro _ _; simp [SV.wfs, SV.wf]) ?_ ?_ ?_ fun w hpre => ?_
  · exact g1
  · exact g2
  · exact g3
  (conv=>whnf);repeat' (first|((with_reducible refine isC ?_);first|((first|with_reducible refine CallX_pure (hpx) ?_|with_reducible refine CallX_pure (hvx) ?_)<;>first|omega|with_reducible refine isP ?_|conv=>whnf)|(refine CallX_r hs (fun _ _ _ _ => trivial) ?_; intro A c; conv => whnf))|with_reducible exact rfl|((with_reducible first|refine xif_kt (by assumption) ?_|refine xif_kf (by assumption) ?_);conv=>whnf)|((with_reducible refine xif_s ?_ ?_)<;>(intro hb;(try simp (disch:=omega) only [hbS] at hb)<;>conv=>whnf)))
  all_goals try (exfalso; omega)
  exact Fin_row 2 rfl rfl rfl (by simp [SV.wf, SV.wfs])
end Go.Proofs.YtadichckbogcjaaGreatDoor.En
end
