/- The cells that a beam meets and ends in, as geometry: a cell is traced exactly if a parameter of the ray leads into its closed square; a beam meets the cells around its position and ends in one to four cells; plain Lean -/
import Derived.Test.YtodaijlclbngbaaGreatMe
import Derived.Test.YtodaijlclbngbaaGreatOl
set_option linter.all false
namespace Go.Proofs.YtodaijlclbngbaaGreat.En
open Go.RowKit
set_option maxRecDepth 100000

/-- the point of the parameter t on a ray from p is in the closed square of the cell c -/
def inC (p : PtT) (v : VecT) (c : CellT) (t : Int × Int) : Prop :=
  (c.1 * 64 * t.2 ≤ p.1 * t.2 + t.1 * v.1 ∧ p.1 * t.2 + t.1 * v.1 ≤ (c.1 * 64 + 64) * t.2) ∧ c.2 * 64 * t.2 ≤ p.2 * t.2 + t.1 * v.2.1 ∧ p.2 * t.2 + t.1 * v.2.1 ≤ (c.2 * 64 + 64) * t.2
theorem inD_sub {a b d x t1 t2 : Int} : inD 0 d (a - x) (b - x) (t1, t2) ↔ a * t2 ≤ x * t2 + t1 * d ∧ x * t2 + t1 * d ≤ b * t2 := by
  unfold inD
  dsimp only
  rw [Int.sub_mul, Int.sub_mul, Int.zero_mul]
  omega
theorem inR_inC {p : PtT} {v : VecT} {c : CellT} {t : Int × Int} : inR (0, 0) v (subR (sqR c) (ptR p)) t ↔ inC p v c t := by
  unfold inR inC subR sqR ptR
  exact and_congr inD_sub inD_sub
/-- an axis of the sweep -/
theorem axis_in {x a D lo hi n e k : Int} (hD : 1 ≤ D) (he : 0 < e) (h1 : lo * e ≤ n * D) (h2 : n * D ≤ hi * e)
    (g1 : k * 64 * e ≤ x * e + n * a) (g2 : x * e + n * a ≤ (k * 64 + 64) * e) :
    (spanF (reachF x x a D lo hi)).1 ≤ k ∧ k ≤ (spanF (reachF x x a D lo hi)).2 := by
  have hm : min (lo * a) (hi * a) * e ≤ n * a * D ∧ n * a * D ≤ max (lo * a) (hi * a) * e := by
    rcases Int.le_total 0 a with h | h
    · have e1 : lo * e * a ≤ n * D * a := Int.mul_le_mul_of_nonneg_right h1 h
      have e2 : n * D * a ≤ hi * e * a := Int.mul_le_mul_of_nonneg_right h2 h
      have e3 : min (lo * a) (hi * a) * e ≤ lo * a * e := Int.mul_le_mul_of_nonneg_right (Int.min_le_left _ _) (by omega)
      have e4 : hi * a * e ≤ max (lo * a) (hi * a) * e := Int.mul_le_mul_of_nonneg_right (Int.le_max_right _ _) (by omega)
      rw [show n * a * D = n * D * a by ac_rfl]
      rw [show lo * a * e = lo * e * a by ac_rfl] at e3
      rw [show hi * a * e = hi * e * a by ac_rfl] at e4
      omega
    · have e1 : n * D * a ≤ lo * e * a := Int.mul_le_mul_of_nonpos_right h1 h
      have e2 : hi * e * a ≤ n * D * a := Int.mul_le_mul_of_nonpos_right h2 h
      have e3 : min (lo * a) (hi * a) * e ≤ hi * a * e := Int.mul_le_mul_of_nonneg_right (Int.min_le_right _ _) (by omega)
      have e4 : lo * a * e ≤ max (lo * a) (hi * a) * e := Int.mul_le_mul_of_nonneg_right (Int.le_max_left _ _) (by omega)
      rw [show n * a * D = n * D * a by ac_rfl]
      rw [show lo * a * e = lo * e * a by ac_rfl] at e4
      rw [show hi * a * e = hi * e * a by ac_rfl] at e3
      omega
  have f1 : min (lo * a) (hi * a) ≤ (k * 64 + 64 - x) * D := by
    refine Int.le_of_mul_le_mul_right (a := e) ?_ he
    refine Int.le_trans hm.1 ?_
    have : n * a ≤ (k * 64 + 64 - x) * e := by rw [Int.sub_mul]; omega
    have := Int.mul_le_mul_of_nonneg_right this (show 0 ≤ D by omega)
    rw [show (k * 64 + 64 - x) * D * e = (k * 64 + 64 - x) * e * D by ac_rfl]
    exact this
  have f2 : (k * 64 - x) * D ≤ max (lo * a) (hi * a) := by
    refine Int.le_of_mul_le_mul_right (a := e) ?_ he
    refine Int.le_trans ?_ hm.2
    have : (k * 64 - x) * e ≤ n * a := by rw [Int.sub_mul]; omega
    have := Int.mul_le_mul_of_nonneg_right this (show 0 ≤ D by omega)
    rw [show (k * 64 - x) * D * e = (k * 64 - x) * e * D by ac_rfl]
    exact this
  have q1 : min (lo * a) (hi * a) / D ≤ k * 64 + 64 - x := Int.ediv_le_of_le_mul (by omega) f1
  have q2 : k * 64 - x ≤ max (lo * a) (hi * a) / D := (Int.le_ediv_iff_mul_le (by omega)).2 f2
  unfold spanF reachF
  dsimp only
  omega
theorem mem_traced {p : PtT} {v : VecT} {lo hi : Int} (hp : -1048576 ≤ p.1 ∧ p.1 ≤ 1048576 ∧ -1048576 ≤ p.2 ∧ p.2 ≤ 1048576) (hv : vecB v = true) (h : 0 ≤ lo ∧ lo ≤ hi ∧ hi ≤ 2048) {c : CellT} :
    c ∈ tracedL p v lo hi ↔ ∃ t : Int × Int, 0 < t.2 ∧ 0 ≤ t.1 ∧ inC p v c t ∧ lo * t.2 ≤ t.1 * v.2.2 ∧ t.1 * v.2.2 ≤ hi * t.2 := by
  have hok : swOk (ptR p) v lo hi := ⟨hp.1, Int.le_refl _, hp.2.1, hp.2.2.1, Int.le_refl _, hp.2.2.2, by simp [ptR], by simp [ptR], hv, h.1, h.2.1, h.2.2⟩
  have hD : 1 ≤ v.2.2 := by
    have := hv
    simp only [vecB, Bool.and_eq_true, vecIn_iff] at this
    exact this.1.1
  have hargs : ∀ {r : RectT}, rectL r = true → argsB (0, 0) v r = true := by
    intro r hr
    simp only [argsB, hv, hr, ptL, nearL, Bool.and_true]
    decide
  unfold tracedL
  rw [mem_sweep]
  unfold hitR
  rw [Bool.and_eq_true]
  constructor
  · rintro ⟨⟨h1, h2⟩, -, -⟩
    obtain ⟨t, a1, a2, a3, a4⟩ := (meets_iff (hargs h1) h.1 h.2.1 (by omega)).1 h2
    exact ⟨t, a1, a2, inR_inC.1 a3, a4⟩
  · rintro ⟨t, a1, a2, a3, a4⟩
    have hx : (swX (ptR p) v lo hi).1 ≤ c.1 ∧ c.1 ≤ (swX (ptR p) v lo hi).2 := axis_in hD a1 a4.1 a4.2 a3.1.1 a3.1.2
    have hy : (swY (ptR p) v lo hi).1 ≤ c.2 ∧ c.2 ≤ (swY (ptR p) v lo hi).2 := axis_in hD a1 a4.1 a4.2 a3.2.1 a3.2.2
    have hr := (sub_rect hok hx hy).2.2
    exact ⟨⟨hr, (meets_iff (hargs hr) h.1 h.2.1 (by omega)).2 ⟨t, a1, a2, inR_inC.2 a3, a4⟩⟩, hx, hy⟩

def allC (_ : CellT) : Bool := true
/-! ### the ends of a beam, and what it meets -/
def ptB (p : PtT) : Prop := -1048576 ≤ p.1 ∧ p.1 ≤ 1048576 ∧ -1048576 ≤ p.2 ∧ p.2 ≤ 1048576
theorem vec_pos {v : VecT} (hv : vecB v = true) : 1 ≤ v.2.2 := by
  simp only [vecB, Bool.and_eq_true, vecIn_iff] at hv
  exact hv.1.1
theorem reachB_bd {b : BeamT} (hb : -1 ≤ b.2 ∧ b.2 ≤ 1024) : 0 ≤ reachB b ∧ reachB b ≤ 2048 := by
  unfold reachB
  split <;> omega
theorem mem_met {p : PtT} {v : VecT} {b : BeamT} (hp : ptB p) (hv : vecB v = true) (hb : -1 ≤ b.2 ∧ b.2 ≤ 1024) {c : CellT} :
    c ∈ metL p v b ↔ ∃ t : Int × Int, 0 < t.2 ∧ 0 ≤ t.1 ∧ inC p v c t ∧ 0 * t.2 ≤ t.1 * v.2.2 ∧ t.1 * v.2.2 ≤ reachB b * t.2 :=
  mem_traced hp hv ⟨Int.le_refl _, (reachB_bd hb).1, (reachB_bd hb).2⟩
theorem mem_ends {p : PtT} {v : VecT} {b : BeamT} (hp : ptB p) (hv : vecB v = true) (hb : -1 ≤ b.2 ∧ b.2 ≤ 1024) {c : CellT} :
    c ∈ endsL p v b ↔ 0 ≤ b.2 ∧ ∃ t : Int × Int, 0 < t.2 ∧ 0 ≤ t.1 ∧ inC p v c t ∧ b.2 * t.2 ≤ t.1 * v.2.2 ∧ t.1 * v.2.2 ≤ b.2 * t.2 := by
  unfold endsL
  split
  · simp only [List.not_mem_nil, false_iff]
    omega
  · rw [mem_traced hp hv ⟨by omega, Int.le_refl _, by omega⟩]
    exact ⟨fun h => ⟨by omega, h⟩, fun h => h.2⟩
theorem ends_met {p : PtT} {v : VecT} {b : BeamT} (hp : ptB p) (hv : vecB v = true) (hb : -1 ≤ b.2 ∧ b.2 ≤ 1024) {c : CellT} (hc : c ∈ endsL p v b) : c ∈ metL p v b := by
  obtain ⟨h0, t, a1, a2, a3, a4, a5⟩ := (mem_ends hp hv hb).1 hc
  refine (mem_met hp hv hb).2 ⟨t, a1, a2, a3, ?_, ?_⟩
  · rw [Int.zero_mul]
    exact Int.mul_nonneg a2 (by have := vec_pos hv; omega)
  · rw [show reachB b = b.2 by unfold reachB; split <;> omega]
    exact a5
theorem around_met {p : PtT} {v : VecT} {b : BeamT} (hp : ptB p) (hv : vecB v = true) (hb : -1 ≤ b.2 ∧ b.2 ≤ 1024) {c : CellT} (h1 : c.1 * 64 ≤ p.1 ∧ p.1 ≤ c.1 * 64 + 64) (h2 : c.2 * 64 ≤ p.2 ∧ p.2 ≤ c.2 * 64 + 64) : c ∈ metL p v b := by
  refine (mem_met hp hv hb).2 ⟨(0, 1), by decide, by decide, ?_, by simp, by simpa using (reachB_bd hb).1⟩
  unfold inC
  simp only [Int.mul_one, Int.zero_mul, Int.add_zero]
  exact ⟨h1, h2⟩
theorem met_ne {p : PtT} {v : VecT} {b : BeamT} (hp : ptB p) (hv : vecB v = true) (hb : -1 ≤ b.2 ∧ b.2 ≤ 1024) : (p.1 / 64, p.2 / 64) ∈ metL p v b :=
  around_met hp hv hb (by dsimp only; omega) (by dsimp only; omega)
/-- the only parameter of an end -/
theorem end_axis {x a D r n e k : Int} (hD : 1 ≤ D) (he : 0 < e) (hr : n * D = r * e) : (k * 64 * e ≤ x * e + n * a ↔ k * 64 * D ≤ x * D + r * a) ∧ (x * e + n * a ≤ (k * 64 + 64) * e ↔ x * D + r * a ≤ (k * 64 + 64) * D) := by
  have hw : (x * e + n * a) * D = (x * D + r * a) * e := by
    rw [Int.add_mul, Int.add_mul, show n * a * D = n * D * a by ac_rfl, hr]
    ac_rfl
  constructor
  · rw [← mul_pos_le (a := k * 64 * e) (t := D) (by omega), hw, show k * 64 * e * D = k * 64 * D * e by ac_rfl]
    exact mul_pos_le he
  · rw [← mul_pos_le (b := (k * 64 + 64) * e) (t := D) (by omega), hw, show (k * 64 + 64) * e * D = (k * 64 + 64) * D * e by ac_rfl]
    exact mul_pos_le he
theorem ends_iff {p : PtT} {v : VecT} {b : BeamT} (hp : ptB p) (hv : vecB v = true) (hb : -1 ≤ b.2 ∧ b.2 ≤ 1024) {c : CellT} :
    c ∈ endsL p v b ↔ 0 ≤ b.2 ∧ (c.1 * 64 * v.2.2 ≤ p.1 * v.2.2 + b.2 * v.1 ∧ p.1 * v.2.2 + b.2 * v.1 ≤ (c.1 * 64 + 64) * v.2.2) ∧ c.2 * 64 * v.2.2 ≤ p.2 * v.2.2 + b.2 * v.2.1 ∧ p.2 * v.2.2 + b.2 * v.2.1 ≤ (c.2 * 64 + 64) * v.2.2 := by
  have hD := vec_pos hv
  rw [mem_ends hp hv hb]
  refine and_congr_right fun h0 => ⟨?_, fun h => ⟨(b.2, v.2.2), by dsimp only; omega, h0, h, Int.le_refl _, Int.le_refl _⟩⟩
  rintro ⟨t, a1, a2, a3, a4, a5⟩
  have hr : t.1 * v.2.2 = b.2 * t.2 := by omega
  exact ⟨⟨(end_axis hD a1 hr).1.1 a3.1.1, (end_axis hD a1 hr).2.1 a3.1.2⟩, (end_axis hD a1 hr).1.1 a3.2.1, (end_axis hD a1 hr).2.1 a3.2.2⟩
theorem end_quo {w D k : Int} (hD : 1 ≤ D) : (k * 64 * D ≤ w ∧ w ≤ (k * 64 + 64) * D → k = w / (64 * D) ∨ k = w / (64 * D) - 1) ∧ (k = w / (64 * D) → k * 64 * D ≤ w ∧ w ≤ (k * 64 + 64) * D) := by
  have h1 := Int.mul_ediv_add_emod w (64 * D)
  have h2 := Int.emod_nonneg w (b := 64 * D) (by omega)
  have h3 := Int.emod_lt_of_pos w (b := 64 * D) (by omega)
  constructor
  · rintro ⟨a, b⟩
    have e1 : k ≤ w / (64 * D) := by
      rw [Int.le_ediv_iff_mul_le (by omega), ← Int.mul_assoc]
      exact a
    have e2 : w / (64 * D) ≤ k + 1 := by
      refine Int.ediv_le_of_le_mul (by omega) ?_
      rw [show (k + 1) * (64 * D) = (k * 64 + 64) * D by rw [← Int.mul_assoc, Int.add_mul, Int.one_mul]]
      exact b
    omega
  · intro e
    rw [← e] at h1
    have e1 : k * 64 * D = 64 * D * k := by ac_rfl
    have e2 : (k * 64 + 64) * D = 64 * D * k + 64 * D := by rw [Int.add_mul, e1]
    rw [e1, e2]
    omega
theorem nodup_sub_len {l : List CellT} (hl : l.Nodup) : ∀ {m : List CellT}, (∀ c ∈ l, c ∈ m) → l.length ≤ m.length := by
  induction l with
  | nil => exact fun _ => Nat.zero_le _
  | cons x l ih =>
    intro m h
    rw [List.nodup_cons] at hl
    have hx := h x (List.mem_cons_self ..)
    have := ih hl.2 (m := m.erase x) fun c hc => by
      refine (List.mem_erase_of_ne ?_).2 (h c (List.mem_cons_of_mem _ hc))
      rintro rfl
      exact hl.1 hc
    rw [List.length_erase_of_mem hx] at this
    have := List.length_pos_of_mem hx
    simp only [List.length_cons]
    omega
theorem ends_nodup (p : PtT) (v : VecT) (b : BeamT) : (endsL p v b).Nodup := by
  unfold endsL
  split
  · exact List.nodup_nil
  · exact traced_nodup _ _ _ _
theorem ends_le {p : PtT} {v : VecT} {b : BeamT} (hp : ptB p) (hv : vecB v = true) (hb : -1 ≤ b.2 ∧ b.2 ≤ 1024) : (endsL p v b).length ≤ 4 := by
  have hD := vec_pos hv
  refine nodup_sub_len (ends_nodup p v b) (m := [((p.1 * v.2.2 + b.2 * v.1) / (64 * v.2.2), (p.2 * v.2.2 + b.2 * v.2.1) / (64 * v.2.2)), ((p.1 * v.2.2 + b.2 * v.1) / (64 * v.2.2) - 1, (p.2 * v.2.2 + b.2 * v.2.1) / (64 * v.2.2)),
    ((p.1 * v.2.2 + b.2 * v.1) / (64 * v.2.2), (p.2 * v.2.2 + b.2 * v.2.1) / (64 * v.2.2) - 1), ((p.1 * v.2.2 + b.2 * v.1) / (64 * v.2.2) - 1, (p.2 * v.2.2 + b.2 * v.2.1) / (64 * v.2.2) - 1)]) fun c hc => ?_
  obtain ⟨-, h1, h2⟩ := (ends_iff hp hv hb).1 hc
  obtain ⟨c1, c2⟩ := c
  rcases (end_quo hD).1 h1 with e1 | e1 <;> rcases (end_quo hD).1 h2 with e2 | e2 <;> dsimp only at e1 e2 <;> rw [e1, e2] <;> simp only [List.mem_cons, true_or, or_true]
theorem ends_ne {p : PtT} {v : VecT} {b : BeamT} (hp : ptB p) (hv : vecB v = true) (hb : -1 ≤ b.2 ∧ b.2 ≤ 1024) (h0 : 0 ≤ b.2) : 1 ≤ (endsL p v b).length := by
  have hD := vec_pos hv
  refine List.length_pos_of_mem (a := ((p.1 * v.2.2 + b.2 * v.1) / (64 * v.2.2), (p.2 * v.2.2 + b.2 * v.2.1) / (64 * v.2.2))) ((ends_iff hp hv hb).2 ⟨h0, ?_, ?_⟩)
  · exact (end_quo hD).2 rfl
  · exact (end_quo hD).2 rfl
theorem ends_nil {p : PtT} {v : VecT} {b : BeamT} (h0 : b.2 < 0) : endsL p v b = [] := by
  unfold endsL
  rw [if_pos h0]
end Go.Proofs.YtodaijlclbngbaaGreat.En
