/- What segment.Meets computes, as geometry: a ray from the origin meets a closed rectangle at a distance from lo to hi exactly if a parameter n/e of the ray leads there; plain Lean -/
import Derived.Test.YtodaijlclbngbaaGreatPn
set_option linter.all false
namespace Go.Proofs.YtodaijlclbngbaaGreat.En
open Go.RowKit
set_option maxRecDepth 100000

/-- an order of fractions with positive denominators -/
def frLe (a b : Int × Int) : Prop := a.1 * b.2 ≤ b.1 * a.2
theorem frLe_trans {a b c : Int × Int} (ha : 0 < a.2) (hb : 0 < b.2) (hc : 0 < c.2) (h1 : frLe a b) (h2 : frLe b c) : frLe a c := by
  unfold frLe at *
  have e1 : a.1 * b.2 * c.2 ≤ b.1 * a.2 * c.2 := Int.mul_le_mul_of_nonneg_right h1 (by omega)
  have e2 : b.1 * c.2 * a.2 ≤ c.1 * b.2 * a.2 := Int.mul_le_mul_of_nonneg_right h2 (by omega)
  have e3 : a.1 * c.2 * b.2 ≤ c.1 * a.2 * b.2 := by
    rw [show a.1 * c.2 * b.2 = a.1 * b.2 * c.2 by ac_rfl, show c.1 * a.2 * b.2 = c.1 * b.2 * a.2 by ac_rfl]
    refine Int.le_trans e1 ?_
    rw [show b.1 * a.2 * c.2 = b.1 * c.2 * a.2 by ac_rfl]
    exact e2
  exact Int.le_of_mul_le_mul_right e3 hb
theorem frLe_total (a b : Int × Int) : frLe a b ∨ frLe b a := by unfold frLe; omega
theorem lessB_iff {a b : Int × Int} : lessB a b = true ↔ ¬ frLe b a := by
  simp only [lessB, frLe, decide_eq_true_eq]; omega
theorem lessB_not {a b : Int × Int} : lessB a b = false ↔ frLe b a := by
  simp only [lessB, frLe, decide_eq_false_iff_not]; omega
theorem maxF_le {s l t : Int × Int} (hs : 0 < s.2) (hl : 0 < l.2) (ht : 0 < t.2) : frLe (maxF s l) t ↔ frLe s t ∧ frLe l t := by
  unfold maxF
  split
  · rename_i h
    rw [lessB_iff] at h
    exact ⟨fun q => ⟨frLe_trans hs hl ht ((frLe_total s l).resolve_right h) q, q⟩, fun q => q.2⟩
  · rename_i h
    rw [Bool.not_eq_true, lessB_not] at h
    exact ⟨fun q => ⟨q, frLe_trans hl hs ht h q⟩, fun q => q.1⟩
theorem minF_le {s l t : Int × Int} (hs : 0 < s.2) (hl : 0 < l.2) (ht : 0 < t.2) : frLe t (minF s l) ↔ frLe t s ∧ frLe t l := by
  unfold minF
  split
  · rename_i h
    rw [lessB_iff] at h
    exact ⟨fun q => ⟨frLe_trans ht hl hs q ((frLe_total s l).resolve_left fun c => h c), q⟩, fun q => q.2⟩
  · rename_i h
    rw [Bool.not_eq_true, lessB_not] at h
    exact ⟨fun q => ⟨q, frLe_trans ht hs hl q h⟩, fun q => q.1⟩
/-- a parameter in a span -/
def inS (s : SpT) (t : Int × Int) : Prop := frLe (s.1, s.2.1) t ∧ frLe t (s.2.2.1, s.2.2.2)
/-- a parameter in a slab -/
def inD (p d a b : Int) (t : Int × Int) : Prop := a * t.2 ≤ p * t.2 + t.1 * d ∧ p * t.2 + t.1 * d ≤ b * t.2
theorem slab_in {p d a b : Int} (hd : d ≠ 0) (t : Int × Int) : frLe (slabLo p d a b) t ∧ frLe t (slabHi p d a b) ↔ inD p d a b t := by
  unfold slabLo slabHi frLe inD
  split
  · dsimp only
    rw [Int.sub_mul, Int.sub_mul, Int.mul_sub]; omega
  · dsimp only
    rw [Int.sub_mul, Int.sub_mul]; omega
theorem slabLo_pos {p d a b : Int} (hd : d ≠ 0) : 0 < (slabLo p d a b).2 := by unfold slabLo; split <;> dsimp only <;> omega
theorem slabHi_pos {p d a b : Int} (hd : d ≠ 0) : 0 < (slabHi p d a b).2 := by unfold slabHi; split <;> dsimp only <;> omega
def spP (s : SpT) : Prop := 0 < s.2.1 ∧ 0 < s.2.2.2
theorem maxF_pos {s l : Int × Int} (h1 : 0 < s.2) (h2 : 0 < l.2) : 0 < (maxF s l).2 := by unfold maxF; split <;> assumption
theorem minF_pos {s l : Int × Int} (h1 : 0 < s.2) (h2 : 0 < l.2) : 0 < (minF s l).2 := by unfold minF; split <;> assumption
theorem slabF_pos {s : SpT} {p d a b : Int} (h : spP s) : spP (slabF s p d a b).1 := by
  unfold slabF
  split
  · exact h
  · rename_i h0
    exact ⟨maxF_pos h.1 (slabLo_pos h0), minF_pos h.2 (slabHi_pos h0)⟩
theorem mul_pos_le {a b t : Int} (ht : 0 < t) : a * t ≤ b * t ↔ a ≤ b :=
  ⟨fun h => Int.le_of_mul_le_mul_right h ht, fun h => Int.mul_le_mul_of_nonneg_right h (by omega)⟩
/-- behind a slab: the span is the common part, and empty if the slab says so -/
theorem slabF_in {s : SpT} {p d a b : Int} (h : spP s) {t : Int × Int} (ht : 0 < t.2) :
    ((slabF s p d a b).2 = true → inS (slabF s p d a b).1 t → inS s t ∧ inD p d a b t) ∧ (inS s t ∧ inD p d a b t → (slabF s p d a b).2 = true ∧ inS (slabF s p d a b).1 t) := by
  unfold slabF
  split
  · rename_i h0
    subst h0
    simp only [inD, Int.mul_zero, Int.add_zero, mul_pos_le ht, Bool.and_eq_true, decide_eq_true_eq]
    exact ⟨fun q r => ⟨r, q⟩, fun q => ⟨q.2, q.1⟩⟩
  · rename_i h0
    have hl := slabLo_pos (p := p) (a := a) (b := b) h0
    have hh := slabHi_pos (p := p) (a := a) (b := b) h0
    refine ⟨fun _ q => ?_, fun q => ?_⟩
    · obtain ⟨q1, q2⟩ := q
      replace q1 := (maxF_le (s := (s.1, s.2.1)) h.1 hl ht).1 q1
      replace q2 := (minF_le (s := (s.2.2.1, s.2.2.2)) h.2 hh ht).1 q2
      exact ⟨⟨q1.1, q2.1⟩, (slab_in h0 t).1 ⟨q1.2, q2.2⟩⟩
    · obtain ⟨⟨q1, q2⟩, q3⟩ := q
      have q4 := (slab_in h0 t).2 q3
      have g1 := (maxF_le (s := (s.1, s.2.1)) h.1 hl ht).2 ⟨q1, q4.1⟩
      have g2 := (minF_le (s := (s.2.2.1, s.2.2.2)) h.2 hh ht).2 ⟨q2, q4.2⟩
      refine ⟨?_, g1, g2⟩
      rw [Bool.not_eq_true', lessB_not]
      exact frLe_trans (maxF_pos (s := (s.1, s.2.1)) h.1 hl) ht (minF_pos (s := (s.2.2.1, s.2.2.2)) h.2 hh) g1 g2
theorem sp0_pos : spP sp0 := by unfold spP sp0; decide
/-- the ray is in the rectangle at the parameter t -/
def inR (p : PtT) (v : VecT) (r : RectT) (t : Int × Int) : Prop := inD p.1 v.1 r.1 r.2.2.1 t ∧ inD p.2 v.2.1 r.2.1 r.2.2.2 t
theorem sp0_in {t : Int × Int} : inS sp0 t ↔ 0 ≤ t.1 ∧ t.1 ≤ 8388608 * t.2 := by
  unfold inS frLe sp0; dsimp only; omega
theorem through_in {p : PtT} {v : VecT} {r : RectT} (ha : argsB p v r = true) {t : Int × Int} (ht : 0 < t.2) :
    ((throughF p v r).2 = true → inS (throughF p v r).1 t → inS sp0 t ∧ inR p v r t) ∧ (inS sp0 t ∧ inR p v r t → (throughF p v r).2 = true ∧ inS (throughF p v r).1 t) := by
  unfold throughF
  rw [if_pos ha]
  have a1 := slabF_in (s := sp0) (p := p.1) (d := v.1) (a := r.1) (b := r.2.2.1) sp0_pos ht
  have a2 := slabF_in (s := (slabF sp0 p.1 v.1 r.1 r.2.2.1).1) (p := p.2) (d := v.2.1) (a := r.2.1) (b := r.2.2.2) (slabF_pos sp0_pos) ht
  refine ⟨fun q w => ?_, fun q => ?_⟩
  · split at q
    · rename_i h1
      rw [if_pos h1] at w
      split at q
      · rename_i h2
        rw [if_pos h2] at w
        have b2 := a2.1 h2 w
        have b1 := a1.1 h1 b2.1
        exact ⟨b1.1, b1.2, b2.2⟩
      · cases q
    · cases q
  · have b1 := a1.2 ⟨q.1, q.2.1⟩
    have b2 := a2.2 ⟨b1.2, q.2.2⟩
    rw [if_pos b1.1, if_pos b2.1]
    exact ⟨rfl, b2.2⟩
theorem through_pos {p : PtT} {v : VecT} {r : RectT} (h : (throughF p v r).2 = true) : spP (throughF p v r).1 ∧ argsB p v r = true ∧ frLe ((throughF p v r).1.1, (throughF p v r).1.2.1) ((throughF p v r).1.2.2.1, (throughF p v r).1.2.2.2) := by
  have h0 := through_bd h
  refine ⟨⟨h0.1.1.2.2.1, h0.1.2.2.2.1⟩, h0.2, ?_⟩
  have hn : ∀ {s : SpT} {p d a b : Int}, frLe (s.1, s.2.1) (s.2.2.1, s.2.2.2) → (slabF s p d a b).2 = true → frLe ((slabF s p d a b).1.1, (slabF s p d a b).1.2.1) ((slabF s p d a b).1.2.2.1, (slabF s p d a b).1.2.2.2) := by
    intro s p d a b hs
    unfold slabF
    split
    · exact fun _ => hs
    · intro q
      rw [Bool.not_eq_true', lessB_not] at q
      exact q
  unfold throughF at h ⊢
  rw [h0.2, if_pos rfl] at h ⊢
  split
  · rename_i h1
    rw [if_pos h1] at h
    split
    · rename_i h2
      exact hn (hn (by unfold frLe sp0; decide) h1) h2
    · rename_i h2
      rw [if_neg h2] at h
      cases h
  · rename_i h1
    rw [if_neg h1] at h
    cases h
/-- what Meets computes, as geometry -/
theorem meets_iff {p : PtT} {v : VecT} {lo hi : Int} {r : RectT} (ha : argsB p v r = true) (h1 : 0 ≤ lo) (h2 : lo ≤ hi) (h3 : hi ≤ 65536) :
    meetsS p v lo hi r = true ↔ ∃ t : Int × Int, 0 < t.2 ∧ 0 ≤ t.1 ∧ inR p v r t ∧ lo * t.2 ≤ t.1 * v.2.2 ∧ t.1 * v.2.2 ≤ hi * t.2 := by
  have hv : 1 ≤ v.2.2 := (args_bd ha).2.1.2.2.1
  unfold meetsS
  simp only [Bool.and_eq_true, decide_eq_true_eq, h1, h2, h3, true_and]
  constructor
  · rintro ⟨⟨q1, q2⟩, q3⟩
    obtain ⟨⟨g1, g2⟩, -, g3⟩ := through_pos q1
    have key : ∀ t : Int × Int, 0 < t.2 → inS (throughF p v r).1 t → frLe (lo, v.2.2) t → frLe t (hi, v.2.2) → ∃ t : Int × Int, 0 < t.2 ∧ 0 ≤ t.1 ∧ inR p v r t ∧ lo * t.2 ≤ t.1 * v.2.2 ∧ t.1 * v.2.2 ≤ hi * t.2 := by
      intro t ht hs hl hh
      have hr := (through_in ha ht).1 q1 hs
      exact ⟨t, ht, (sp0_in.1 hr.1).1, hr.2, hl, hh⟩
    have l2 : frLe (lo, v.2.2) ((throughF p v r).1.2.2.1, (throughF p v r).1.2.2.2) := q2
    have l3 : frLe ((throughF p v r).1.1, (throughF p v r).1.2.1) (hi, v.2.2) := q3
    by_cases hc : frLe ((throughF p v r).1.1, (throughF p v r).1.2.1) (lo, v.2.2)
    · refine key (lo, v.2.2) (by dsimp only; omega) ⟨hc, l2⟩ (by unfold frLe; exact Int.le_refl _) ?_
      unfold frLe
      exact Int.mul_le_mul_of_nonneg_right h2 (by omega)
    · exact key ((throughF p v r).1.1, (throughF p v r).1.2.1) g1 ⟨by unfold frLe; exact Int.le_refl _, g3⟩ ((frLe_total _ _).resolve_left hc) l3
  · rintro ⟨t, ht, t0, hr, hl, hh⟩
    have hs0 : inS sp0 t := by
      rw [sp0_in]
      refine ⟨t0, ?_⟩
      have e1 : t.1 * 1 ≤ t.1 * v.2.2 := Int.mul_le_mul_of_nonneg_left hv t0
      have e2 : hi * t.2 ≤ 65536 * t.2 := Int.mul_le_mul_of_nonneg_right h3 (by omega)
      omega
    obtain ⟨k1, k2, k3⟩ := (through_in ha ht).2 ⟨hs0, hr⟩
    obtain ⟨⟨g1, g2⟩, -, -⟩ := through_pos k1
    refine ⟨⟨k1, ?_⟩, ?_⟩
    · exact frLe_trans (a := (lo, v.2.2)) (b := t) (c := ((throughF p v r).1.2.2.1, (throughF p v r).1.2.2.2)) (by dsimp only; omega) ht g2 hl k3
    · exact frLe_trans (a := ((throughF p v r).1.1, (throughF p v r).1.2.1)) (b := t) (c := (hi, v.2.2)) g1 ht (by dsimp only; omega) k2 hh
end Go.Proofs.YtodaijlclbngbaaGreat.En
