/- Plain: images of small lists by near frames. -/
import Derived.Test.YtdjimfngnhnhnaaFn
import Derived.Test.YtdjimfngnhnhnaaFt
set_option linter.all false
namespace Go.Proofs.Ytdjimfngnhnhnaa.En
open Go.RowKit

def nearF2 (f : FrT) : Prop := -1000 ≤ f.2.1 ∧ f.2.1 ≤ 1000 ∧ -1000 ≤ f.2.2 ∧ f.2.2 ≤ 1000
theorem cellR_small {f : FrT} {c : CellT} (hf : nearF2 f) (h1 : szB c.1 1000 = true) (h2 : szB c.2 1000 = true) : (cellR f c).2 = 0 := by
  have g1 := szB_bd h1
  have g2 := szB_bd h2
  obtain ⟨f1, f2, f3, f4⟩ := hf
  have t1 := tXY_bd (q := f.1 % 4) (x := c.1) (y := c.2) (m := 1000) (by omega)
  have t2 := tXY_bd (q := f.1 % 4) (x := c.1 + 1) (y := c.2 + 1) (m := 1001) (by omega)
  unfold cellR
  rw [if_pos (by simp only [szB, Bool.and_eq_true, decide_eq_true_eq]; omega), if_pos (by simp only [szB, Bool.and_eq_true, decide_eq_true_eq]; omega)]
theorem orI_zeros : ∀ {l : List Int}, (∀ x ∈ l, x = 0) → orI l = 0
  | [], _ => rfl
  | x :: l, h => by
    unfold orI
    rw [if_pos (h x (by simp))]
    exact orI_zeros fun y hy => h y (by simp [hy])
theorem smB_vE {l : List EntT} (h : smB l = true) : vE l = true := by
  simp only [smB, Bool.and_eq_true] at h
  exact h.2
theorem smB_near {l : List EntT} (h : smB l = true) {e : EntT} (he : e ∈ l) : szB e.1 1000 = true ∧ szB e.2.1 1000 = true := by
  simp only [smB, Bool.and_eq_true, List.all_eq_true] at h
  have := h.1 e he
  simpa [nearB] using this
theorem small_code {f : FrT} {l : List EntT} (hf : nearF2 f) (h : smB l = true) : codeF f l = 0 := by
  obtain ⟨f1, f2, f3, f4⟩ := hf
  have hok : okF f l = true := by
    have a1 : szB f.2.1 8192 = true := by simp only [szB, Bool.and_eq_true, decide_eq_true_eq]; omega
    have a2 : szB f.2.2 8192 = true := by simp only [szB, Bool.and_eq_true, decide_eq_true_eq]; omega
    simp only [okF, smB_vE h, a1, a2, Bool.and_self]
  simp only [codeF, hok, if_true]
  refine orI_zeros fun x hx => ?_
  obtain ⟨e, he, rfl⟩ := List.mem_map.1 hx
  obtain ⟨h1, h2⟩ := smB_near h he
  exact cellR_small ⟨f1, f2, f3, f4⟩ h1 h2
end Go.Proofs.Ytdjimfngnhnhnaa.En
