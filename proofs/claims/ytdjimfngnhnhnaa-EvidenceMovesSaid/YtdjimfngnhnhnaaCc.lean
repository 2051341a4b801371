/- Plain: sums of lists. -/
import Derived.Test.YtdjimfngnhnhnaaCb
set_option linter.all false
namespace Go.Proofs.Ytdjimfngnhnhnaa.En
open Go.RowKit

theorem comb_def {f : Int} {a b : List EntT} (ha : vE a = true) (hb : vE b = true) :
    combE f a b = if (lstF (combL f a b)).any fun e => !countB e then ([], 2) else if (lstF (combL f a b)).length > 1048576 then ([], 6) else (lstF (combL f a b), 0) := by
  unfold combE
  rw [ha, hb]
  rfl
theorem comb_len (f : Int) (a b : List EntT) : (combE f a b).1.length ≤ 1048576 := by
  unfold combE
  split
  · split
    · simp
    · split
      · simp
      · dsimp only
        omega
  · simp
theorem comb_code {f : Int} {a b : List EntT} (h : (combE f a b).2 = 0) : vE a = true ∧ vE b = true ∧ (combE f a b).1 = lstF (combL f a b) ∧ (∀ e ∈ lstF (combL f a b), countB e = true) ∧ (lstF (combL f a b)).length ≤ 1048576 := by
  unfold combE at h ⊢
  split at h
  · rename_i h1
    rw [Bool.and_eq_true] at h1
    rw [if_pos (by rw [h1.1, h1.2]; rfl)]
    split at h
    · cases h
    · rename_i h2
      split at h
      · cases h
      · rename_i h3
        rw [if_neg h2, if_neg h3]
        refine ⟨h1.1, h1.2, rfl, fun e he => ?_, by omega⟩
        cases hc : countB e with
        | true => rfl
        | false => exact (h2 (List.any_eq_true.2 ⟨e, he, by simp [hc]⟩)).elim
  · cases h
theorem comb_bad {f : Int} {a b : List EntT} (h : (combE f a b).2 ≠ 0) : (combE f a b).1 = [] := by
  unfold combE at h ⊢
  split
  · rename_i h1
    rw [if_pos h1] at h
    split
    · rfl
    · rename_i h2
      rw [if_neg h2] at h
      split
      · rfl
      · rename_i h3
        rw [if_neg h3] at h
        exact (h rfl).elim
  · rfl
theorem comb_rep {f : Int} {a b : List EntT} (h : (combE f a b).2 = 0) : Rep (sumV f a b) (combE f a b).1 := by
  obtain ⟨h1, h2, h3, _⟩ := comb_code h
  rw [h3]
  exact rep_comb f h1 h2
theorem cell_lim {l : List EntT} (h : vE l = true) {c : CellT} (hc : valT l c ≠ (0, 0)) : szB c.1 16384 = true ∧ szB c.2 16384 = true := by
  rcases getT_mem (L := l) (c := c) with ⟨h1, h2⟩ | ⟨h1, _⟩
  · have := vE_good h h1
    simp only [goodB, Bool.and_eq_true] at this
    rw [← h2]
    exact ⟨this.1.2, this.2⟩
  · exact (hc (by unfold valT; rw [h1]; rfl)).elim
/-- what comes out is valid -/
theorem comb_vE {f : Int} {a b : List EntT} (h : (combE f a b).2 = 0) : vE (combE f a b).1 = true := by
  have hr := comb_rep h
  obtain ⟨h1, h2, h3, h4, h5⟩ := comb_code h
  refine asc_vE hr.1 (fun e he => ?_) (by rw [h3]; exact h5)
  have hcnt := h4 e (by rw [← h3]; exact he)
  obtain ⟨hz, hv⟩ := (hr.2 e).1 he
  have hlim : szB e.cell.1 16384 = true ∧ szB e.cell.2 16384 = true := by
    by_cases ha : valT a e.cell = (0, 0)
    · by_cases hb : valT b e.cell = (0, 0)
      · unfold sumV at hv
        rw [ha, hb] at hv
        simp at hv
        simp [zeroE, ← hv.1, ← hv.2] at hz
      · exact cell_lim h2 hb
    · exact cell_lim h1 ha
  have e1 : szB e.1 16384 = true := hlim.1
  have e2 : szB e.2.1 16384 = true := hlim.2
  simp only [zeroE] at hz
  simp only [goodB, hcnt, hz, e1, e2]
  rfl
theorem comb_val {f : Int} {a b : List EntT} (h : (combE f a b).2 = 0) (c : CellT) : valT (combE f a b).1 c = sumV f a b c := (comb_rep h).val c
theorem comb_sym (a b : List EntT) : combE 1 a b = combE 1 b a := by
  cases ha : vE a with
  | false => unfold combE; rw [ha]; simp
  | true =>
    cases hb : vE b with
    | false => unfold combE; rw [hb]; simp
    | true =>
      have e : lstF (combL 1 a b) = lstF (combL 1 b a) := (rep_comb 1 ha hb).unique (rep_comb 1 hb ha) fun c => by
        unfold sumV
        simp only [Int.one_mul]
        rw [Int.add_comm (valT a c).1, Int.add_comm (valT a c).2]
      rw [comb_def ha hb, comb_def hb ha, e]
theorem comb_assoc {a b c : List EntT} (h1 : (combE 1 a b).2 = 0) (h2 : (combE 1 b c).2 = 0) (h3 : (combE 1 (combE 1 a b).1 c).2 = 0) (h4 : (combE 1 a (combE 1 b c).1).2 = 0) :
    (combE 1 (combE 1 a b).1 c).1 = (combE 1 a (combE 1 b c).1).1 := by
  refine (comb_rep h3).unique (comb_rep h4) fun x => ?_
  unfold sumV
  rw [comb_val h1, comb_val h2]
  unfold sumV
  simp only [Int.one_mul]
  refine Prod.ext ?_ ?_ <;> (dsimp only; omega)
theorem vE_nil : vE [] = true := by decide
theorem comb_of_rep {f : Int} {a b l : List EntT} (ha : vE a = true) (hb : vE b = true) (hl : vE l = true) (h : ∀ c, sumV f a b c = valT l c) : combE f a b = (l, 0) := by
  have e : lstF (combL f a b) = l := (rep_comb f ha hb).unique (rep_vE hl) h
  rw [comb_def ha hb, e]
  have h1 : (l.any fun e => !countB e) = false := by
    rw [List.any_eq_false]
    intro x hx
    have := vE_good hl hx
    simp only [goodB, Bool.and_eq_true] at this
    simp [this.1.1.1]
  rw [h1, if_neg (by simp), if_neg (by have := vE_length hl; omega)]
theorem comb_nil {a : List EntT} (ha : vE a = true) : combE 1 a [] = (a, 0) := by
  refine comb_of_rep ha vE_nil ha fun c => ?_
  unfold sumV
  rw [valT_none (L := []) (by simp)]
  simp
theorem comb_inv {f : Int} {a b : List EntT} (h : vE a = false) : combE f a b = ([], 1) := by
  unfold combE
  rw [h]
  rfl
/-- subtracting what was added -/
theorem comb_back {a b : List EntT} (h : (combE 1 a b).2 = 0) : combE (-1) (combE 1 a b).1 b = (a, 0) := by
  obtain ⟨ha, hb, _⟩ := comb_code h
  refine comb_of_rep (comb_vE h) hb ha fun c => ?_
  unfold sumV
  rw [comb_val h]
  unfold sumV
  refine Prod.ext ?_ ?_ <;> (dsimp only; omega)
theorem comb_self {a : List EntT} (ha : vE a = true) : combE (-1) a a = ([], 0) := by
  refine comb_of_rep ha ha vE_nil fun c => ?_
  unfold sumV
  rw [valT_none (L := []) (by simp)]
  refine Prod.ext ?_ ?_ <;> (dsimp only; omega)
/-- the negative of a list -/
def negL (a : List EntT) : List EntT := a.map fun e => (e.1, e.2.1, -e.2.2.1, -e.2.2.2)
theorem neg_vE {a : List EntT} (ha : vE a = true) : vE (negL a) = true ∧ ∀ c, valT (negL a) c = (-(valT a c).1, -(valT a c).2) := by
  have hasc := vE_pairwise ha
  have hasc' : asc (negL a) := by
    unfold asc negL
    rw [List.pairwise_map]
    exact hasc
  have hv : vE (negL a) = true := by
    refine asc_vE hasc' (fun e he => ?_) (by unfold negL; rw [List.length_map]; exact vE_length ha)
    obtain ⟨x, hx, rfl⟩ := List.mem_map.1 he
    have := vE_good ha hx
    simp only [goodB, countB, szB, Bool.and_eq_true, decide_eq_true_eq, Bool.not_eq_true', Bool.and_eq_false_iff, decide_eq_false_iff_not] at this ⊢
    omega
  refine ⟨hv, fun c => ?_⟩
  rcases getT_mem (L := a) (c := c) with ⟨h1, h2⟩ | ⟨h1, h2⟩
  · have h3 : ((getT a c).1, (getT a c).2.1, -(getT a c).2.2.1, -(getT a c).2.2.2) ∈ negL a := List.mem_map_of_mem (f := fun e : EntT => (e.1, e.2.1, -e.2.2.1, -e.2.2.2)) h1
    have h4 := mem_val (asc_ne hasc') h3
    have h5 : EntT.cell ((getT a c).1, (getT a c).2.1, -(getT a c).2.2.1, -(getT a c).2.2.2) = c := h2
    rw [h5] at h4
    exact h4
  · rw [valT_none h2, valT_none (L := negL a) (fun x hx => by
      obtain ⟨y, hy, rfl⟩ := List.mem_map.1 hx
      exact h2 y hy)]
    rfl
/-- b less a + b is the negative of a -/
theorem comb_less {a b : List EntT} (h : (combE 1 a b).2 = 0) : combE (-1) b (combE 1 a b).1 = (negL a, 0) := by
  obtain ⟨ha, hb, _⟩ := comb_code h
  obtain ⟨n1, n2⟩ := neg_vE ha
  refine comb_of_rep hb (comb_vE h) n1 fun c => ?_
  rw [n2]
  unfold sumV
  rw [comb_val h]
  unfold sumV
  refine Prod.ext ?_ ?_ <;> (dsimp only; omega)
theorem comb_neg {a : List EntT} (ha : vE a = true) : combE 1 (negL a) a = ([], 0) := by
  obtain ⟨n1, n2⟩ := neg_vE ha
  refine comb_of_rep n1 ha vE_nil fun c => ?_
  unfold sumV
  rw [n2, valT_none (L := []) (by simp)]
  refine Prod.ext ?_ ?_ <;> (dsimp only; omega)
theorem negL_len (a : List EntT) : (negL a).length = a.length := by simp [negL]
end Go.Proofs.Ytdjimfngnhnhnaa.En
