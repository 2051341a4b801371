/- The reference's Entries by the executor. -/
import Derived.Test.YtbjkbjiglcomkaaFt
set_option linter.all false
namespace Go.Proofs.Ytbjkbjiglcomkaa.En
open Go.RowKit Go.Sort
set_option maxRecDepth 100000

/-! ### plain: insertion -/
def insAt (ys : List EntT) (j : Nat) (x : EntT) : List EntT := ys.take j ++ x :: ys.drop j
theorem insAt_len {ys : List EntT} {j : Nat} {x : EntT} (hj : j ≤ ys.length) : (insAt ys j x).length = ys.length + 1 := by
  simp [insAt]
  omega
theorem insAt_at {ys : List EntT} {j : Nat} {x : EntT} (hj : j ≤ ys.length) : (insAt ys j x).getD j e0 = x := by
  simp [insAt, List.getElem?_append_right, Nat.min_eq_left hj]
theorem insAt_pre {ys : List EntT} {j : Nat} {x : EntT} (h1 : 1 ≤ j) (hj : j ≤ ys.length) : (insAt ys j x).getD (j - 1) e0 = ys.getD (j - 1) e0 := by
  simp only [insAt, List.getD_eq_getElem?_getD]
  rw [List.getElem?_append_left (by simp; omega), List.getElem?_take_of_lt (by omega)]
theorem insAt_all (ys : List EntT) (x : EntT) : insAt ys ys.length x = ys ++ [x] := by simp [insAt]
theorem insAt_swap {ys : List EntT} {j : Nat} {x : EntT} (h1 : 1 ≤ j) (hj : j ≤ ys.length) : ((insAt ys j x).set j (ys.getD (j - 1) e0)).set (j - 1) x = insAt ys (j - 1) x := by
  apply List.ext_getElem?
  intro i
  simp only [List.getElem?_set, insAt, List.length_set, List.length_append, List.length_take, List.length_cons, List.length_drop, List.getElem?_append, List.getElem?_take, List.getElem?_cons, List.getElem?_drop, List.getD_eq_getElem?_getD]
  by_cases e1 : i = j - 1
  · subst e1
    simp [Nat.min_eq_left hj, show min (j - 1) ys.length = j - 1 by omega]
    omega
  · by_cases e2 : i = j
    · subst e2
      have h3 : min (i - 1) ys.length = i - 1 := by omega
      have h4 : i - (i - 1) = 1 := by omega
      simp [h3, h4, show ¬ i - 1 = i by omega, show ¬ i < i - 1 by omega, show i - 1 < ys.length by omega]
      omega
    · by_cases e3 : i < j - 1
      · have h5 : min j ys.length = j := by omega
        have h6 : min (j - 1) ys.length = j - 1 := by omega
        simp [h5, h6, show ¬ j - 1 = i by omega, show ¬ j = i by omega, show i < j by omega, show i < ys.length by omega, e3]
      · have h5 : min j ys.length = j := by omega
        have h6 : min (j - 1) ys.length = j - 1 := by omega
        simp only [h5, h6, show ¬ j - 1 = i by omega, show ¬ j = i by omega, show ¬ i < j by omega, e3, if_false, show ¬ i - j = 0 by omega, show ¬ i - (j - 1) = 0 by omega]
        congr 1
        omega
theorem insAt_perm (ys : List EntT) (j : Nat) (x : EntT) : (insAt ys j x).Perm (ys ++ [x]) := by
  have h1 : (insAt ys j x).Perm (x :: (ys.take j ++ ys.drop j)) := List.perm_middle
  rw [List.take_append_drop] at h1
  exact h1.trans (List.perm_append_singleton x ys).symm
/-- in order, equal cells allowed -/
def wk (l : List EntT) : Prop := l.Pairwise fun a b => befB b.cell a.cell = false
theorem befB_asym {a b : CellT} (h : befB a b = true) : befB b a = false := by
  rw [befB_iff] at h
  rw [befB_false]
  omega
theorem befB_le {a b c : CellT} (h1 : befB b a = false) (h2 : befB c b = false) : befB c a = false := by
  rw [befB_false] at *
  omega
theorem insAt_wk {ys : List EntT} {j : Nat} {x : EntT} (hj : j ≤ ys.length) (hw : wk ys) (hd : ∀ y ∈ ys.drop j, befB x.cell y.cell = true) (hp : j ≠ 0 → befB x.cell (ys.getD (j - 1) e0).cell = false) : wk (insAt ys j x) := by
  unfold wk insAt at *
  rw [← List.take_append_drop j ys] at hw
  rw [List.pairwise_append] at hw ⊢
  obtain ⟨w1, w2, w3⟩ := hw
  refine ⟨w1, ?_, ?_⟩
  · rw [List.pairwise_cons]
    exact ⟨fun y hy => befB_asym (hd y hy), w2⟩
  · intro a ha b hb
    rcases List.mem_cons.1 hb with rfl | hb
    · obtain ⟨i, hi, rfl⟩ := List.getElem_of_mem ha
      have hi' : i < j := by
        simp at hi
        omega
      have h0 := hp (by omega)
      by_cases e : i = j - 1
      · subst e
        simpa [hj, show j - 1 < ys.length by omega] using h0
      · have h4 := (List.pairwise_iff_getElem.1 w1) i (j - 1) hi (by simp; omega) (by omega)
        have h5 : befB b.cell ((ys.take j)[j - 1]'(by simp; omega)).cell = false := by simpa [show j - 1 < ys.length by omega] using h0
        exact befB_le h4 h5
    · exact w3 a ha b hb
theorem wk_get {ys : List EntT} (h : wk ys) : ∀ i k, i < k → k < ys.length → befB (ys.getD k e0).cell (ys.getD i e0).cell = false := by
  intro i k h1 h2
  have := (List.pairwise_iff_getElem.1 h) i k (by omega) h2 h1
  simpa [h2, show i < ys.length by omega] using this
end Go.Proofs.Ytbjkbjiglcomkaa.En
