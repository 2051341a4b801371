/- Lists of entries in plain Lean: valid lists, cells in order. -/
import Derived.Test.YtodaijlclbngbaaFr1
set_option linter.all false
namespace Go.Proofs.Ytodaijlclbngbaa.En
open Go.RowKit

/-- an entry: X, Y, hits, passes -/
abbrev EntT := Int × Int × Int × Int
abbrev CellT := Int × Int
def EntT.cell (e : EntT) : CellT := (e.1, e.2.1)
def e0 : EntT := (0, 0, 0, 0)
def encE (e : EntT) : List Value := [.int .i64 e.1, .int .i64 e.2.1, .int .i64 e.2.2.1, .int .i64 e.2.2.2]

/-- the first cell stands before the second one by (Y, X) -/
def befB (a b : CellT) : Bool := decide (a.2 < b.2) || (decide (a.2 = b.2) && decide (a.1 < b.1))
theorem befB_iff (a b : CellT) : befB a b = true ↔ a.2 < b.2 ∨ (a.2 = b.2 ∧ a.1 < b.1) := by simp [befB]
theorem befB_false (a b : CellT) : befB a b = false ↔ ¬ (a.2 < b.2 ∨ (a.2 = b.2 ∧ a.1 < b.1)) := by rw [← befB_iff]; simp
theorem befB_trans {a b c : CellT} (h1 : befB a b = true) (h2 : befB b c = true) : befB a c = true := by rw [befB_iff] at *; omega
theorem befB_irr (a : CellT) : befB a a = false := by rw [befB_false]; omega
theorem befB_total {a b : CellT} (h1 : befB a b = false) (h2 : befB b a = false) : a = b := by
  rw [befB_false] at *
  exact Prod.ext (by omega) (by omega)

def countB (e : EntT) : Bool := szB e.2.2.1 1099511627776 && szB e.2.2.2 1099511627776
def goodB (e : EntT) : Bool := countB e && !(decide (e.2.2.1 = 0) && decide (e.2.2.2 = 0)) && szB e.1 16384 && szB e.2.1 16384
/-- the entry i of a list is as it may be -/
def okAt (l : List EntT) (i : Nat) : Bool := goodB (l.getD i e0) && (decide (i = 0) || befB (l.getD (i - 1) e0).cell (l.getD i e0).cell)
def vE (l : List EntT) : Bool := decide (l.length ≤ 1048576) && (List.range l.length).all fun i => okAt l i
theorem vE_bad {l : List EntT} {k : Nat} (hk : k < l.length) (h : okAt l k = false) : vE l = false := by
  rw [vE, Bool.and_eq_false_iff]
  right
  rw [List.all_eq_false]
  exact ⟨k, by simpa using hk, by simp [h]⟩
theorem vE_end {l : List EntT} (h : ∀ j, j < l.length → okAt l j = true) : vE l = decide (l.length ≤ 1048576) := by
  rw [vE, show ((List.range l.length).all fun i => okAt l i) = true from List.all_eq_true.2 fun j hj => h j (by simpa using hj)]
  simp
theorem vE_long {l : List EntT} (h : ¬ l.length ≤ 1048576) : vE l = false := by simp [vE, h]
theorem vE_at {l : List EntT} (h : vE l = true) {i : Nat} (hi : i < l.length) : okAt l i = true := by
  simp only [vE, Bool.and_eq_true, List.all_eq_true, List.mem_range] at h
  exact h.2 i hi
theorem vE_good {l : List EntT} (h : vE l = true) {e : EntT} (he : e ∈ l) : goodB e = true := by
  obtain ⟨i, hi, rfl⟩ := List.getElem_of_mem he
  have := vE_at h hi
  simp [okAt, hi] at this
  exact this.1
/-- a valid list is ascending -/
theorem vE_asc {l : List EntT} (h : vE l = true) : ∀ {j i : Nat}, i < j → (hj : j < l.length) → befB (l.getD i e0).cell (l.getD j e0).cell = true
  | 0, i, h1, _ => by omega
  | j + 1, i, h1, hj => by
    have h2 := vE_at h hj
    simp only [okAt, Bool.and_eq_true, Bool.or_eq_true, decide_eq_true_eq, Nat.add_sub_cancel] at h2
    have h3 : befB (l.getD j e0).cell (l.getD (j + 1) e0).cell = true := by
      rcases h2.2 with h4 | h4
      · omega
      · exact h4
    by_cases e : i = j
    · rw [e]; exact h3
    · exact befB_trans (vE_asc h (by omega) (by omega)) h3
theorem vE_pairwise {l : List EntT} (h : vE l = true) : l.Pairwise fun a b => befB a.cell b.cell = true := by
  rw [List.pairwise_iff_getElem]
  intro i j hi hj hij
  have := vE_asc h hij hj
  simpa [hi, hj] using this

/-- two ascending lists with the same elements are one -/
theorem asc_unique : ∀ {l m : List EntT}, (l.Pairwise fun a b => befB a.cell b.cell = true) → (m.Pairwise fun a b => befB a.cell b.cell = true) → l.Perm m → l = m
  | [], m, _, _, h => (List.nil_perm.1 h).symm
  | a :: l, [], _, _, h => (by have := h.length_eq; simp at this)
  | a :: l, b :: m, h1, h2, h => by
    rw [List.pairwise_cons] at h1 h2
    have hab : a = b := by
      have ha : a ∈ b :: m := h.mem_iff.1 (by simp)
      have hb : b ∈ a :: l := h.mem_iff.2 (by simp)
      rcases List.mem_cons.1 ha with e | ha
      · exact e
      · rcases List.mem_cons.1 hb with e | hb
        · exact e.symm
        · have := befB_trans (h2.1 a ha) (h1.1 b hb)
          rw [befB_irr] at this
          cases this
    subst hab
    rw [asc_unique h1.2 h2.2 h.cons_inv]
end Go.Proofs.Ytodaijlclbngbaa.En
