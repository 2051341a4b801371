/- Comparing two lists of entries: the merge, the double loop, and that both count the same (plain). -/
import Derived.Test.YtadichckbogcjaaDoorOv
set_option linter.all false
namespace Go.Proofs.YtadichckbogcjaaDoor.En
open Go.RowKit

def occE (e : EntT) : Bool := decide (128 ≤ valueF e)
theorem occ_none (c : CellT) : occE (c.1, c.2, 0, 0) = false := by simp [occE, valueF]
abbrev D4 := Nat × Nat × Nat × Nat
def ad4 (x y : D4) : D4 := (x.1 + y.1, x.2.1 + y.2.1, x.2.2.1 + y.2.2.1, x.2.2.2 + y.2.2.2)
theorem ad4_assoc (x y z : D4) : ad4 (ad4 x y) z = ad4 x (ad4 y z) := by simp [ad4, Nat.add_assoc]
def b2n (b : Bool) : Nat := if b then 1 else 0
/-- what one step of the merge counts: is the head of the first, of the second list taken -/
def stp (f s : Bool) (x y : EntT) : D4 :=
  (b2n ((f && occE x) && (s && occE y)), b2n ((f && occE x) && !(s && occE y)), b2n (!(f && occE x) && (s && occE y)), b2n (f && s))
def mergeD : Nat → List EntT → List EntT → D4
  | 0, _, _ => (0, 0, 0, 0)
  | _ + 1, [], [] => (0, 0, 0, 0)
  | t + 1, x :: xs, [] => ad4 (stp true false x e0) (mergeD t xs [])
  | t + 1, [], y :: ys => ad4 (stp false true e0 y) (mergeD t [] ys)
  | t + 1, x :: xs, y :: ys =>
    if befB y.cell x.cell then ad4 (stp false true x y) (mergeD t (x :: xs) ys)
    else if befB x.cell y.cell then ad4 (stp true false x y) (mergeD t xs (y :: ys))
    else ad4 (stp true true x y) (mergeD t xs ys)
def ascE (l : List EntT) : Prop := l.Pairwise fun a b => befB a.cell b.cell = true
def qB (b : List EntT) (x : EntT) : Bool := occE x && occE (getF b x.cell)
def qF (b : List EntT) (x : EntT) : Bool := occE x && !occE (getF b x.cell)
def qK (x y : EntT) : Bool := decide (x.cell = y.cell)
def kn (a b : List EntT) : Nat := (a.map fun x => b.countP (qK x)).sum
def refD (a b : List EntT) : D4 := (a.countP (qB b), a.countP (qF b), b.countP (qF a), kn a b)
theorem bef_ne {a b : CellT} (h : befB a b = true) : a ≠ b := by
  rintro rfl
  rw [befB_irr] at h
  cases h
theorem getF_cons (y : EntT) (l : List EntT) (c : CellT) : getF (y :: l) c = if y.cell = c then y else getF l c := by
  unfold getF
  rw [List.find?_cons]
  by_cases h : y.cell = c <;> simp [h]
theorem getF_skip {y : EntT} {l : List EntT} {c : CellT} (h : y.cell ≠ c) : getF (y :: l) c = getF l c := by rw [getF_cons, if_neg h]
theorem getF_none {l : List EntT} {c : CellT} (h : ∀ e ∈ l, e.cell ≠ c) : occE (getF l c) = false := by
  rcases getF_mem l c with ⟨h1, h2⟩ | ⟨h1, _⟩
  · exact absurd h2 (h _ h1)
  · rw [h1]; exact occ_none c
theorem cnt_cons (p : EntT → Bool) (x : EntT) (l : List EntT) : (x :: l).countP p = b2n (p x) + l.countP p := by
  rw [List.countP_cons]
  unfold b2n
  omega
theorem cnt_congr {p q : EntT → Bool} {l : List EntT} (h : ∀ x ∈ l, p x = q x) : l.countP p = l.countP q := by
  apply List.countP_congr
  intro x hx
  rw [h x hx]
theorem kn_cons (x : EntT) (xs ys : List EntT) : kn (x :: xs) ys = ys.countP (qK x) + kn xs ys := by simp [kn]
theorem kn_skip {y : EntT} {xs ys : List EntT} (h : ∀ e ∈ xs, e.cell ≠ y.cell) : kn xs (y :: ys) = kn xs ys := by
  unfold kn
  congr 1
  apply List.map_congr_left
  intro x hx
  rw [cnt_cons, show qK x y = false by simp [qK, h x hx]]
  simp [b2n]
theorem cnt_none {x : EntT} {ys : List EntT} (h : ∀ e ∈ ys, x.cell ≠ e.cell) : ys.countP (qK x) = 0 := by
  rw [List.countP_eq_zero]
  intro e he
  simp [qK, h e he]
theorem cnt_qF_nil (l : List EntT) : l.countP (qF []) = l.countP occE := cnt_congr fun x _ => by simp [qF, getF_none]
theorem cnt_qB_nil (l : List EntT) : l.countP (qB []) = 0 := by
  rw [List.countP_eq_zero]
  intro e _
  simp [qB, getF_none]
theorem kn_nil (l : List EntT) : kn l [] = 0 := by
  induction l with
  | nil => rfl
  | cons x l ih => rw [kn_cons, ih]; rfl
theorem merge_ref : ∀ (t : Nat) {a b : List EntT}, a.length + b.length ≤ t → ascE a → ascE b → mergeD t a b = refD a b
  | 0, a, b, h, _, _ => by
    obtain rfl : a = [] := List.eq_nil_of_length_eq_zero (by omega)
    obtain rfl : b = [] := List.eq_nil_of_length_eq_zero (by omega)
    rfl
  | t + 1, [], [], _, _, _ => rfl
  | t + 1, x :: xs, [], h, ha, hb => by
    rw [mergeD, merge_ref t (by simp at h ⊢; omega) (List.Pairwise.of_cons ha) hb]
    unfold refD ad4 stp
    rw [cnt_cons, cnt_cons, kn_cons, cnt_qB_nil, kn_nil]
    simp [qB, qF, getF_none, b2n]
  | t + 1, [], y :: ys, h, ha, hb => by
    rw [mergeD, merge_ref t (by simp at h ⊢; omega) ha (List.Pairwise.of_cons hb)]
    unfold refD ad4 stp
    rw [cnt_cons]
    simp [qF, getF_none, b2n, kn]
  | t + 1, x :: xs, y :: ys, h, ha, hb => by
    have hxs := (List.pairwise_cons.1 ha).1
    have hys := (List.pairwise_cons.1 hb).1
    rw [mergeD]
    split
    · rename_i hyx
      rw [merge_ref t (by simp at h ⊢; omega) ha (List.Pairwise.of_cons hb)]
      have hall : ∀ e ∈ x :: xs, e.cell ≠ y.cell := by
        intro e he
        rcases List.mem_cons.1 he with rfl | he
        · exact (bef_ne hyx).symm
        · exact (bef_ne (befB_trans hyx (hxs e he))).symm
      have e1 : (x :: xs).countP (qB (y :: ys)) = (x :: xs).countP (qB ys) := cnt_congr fun e he => by simp only [qB]; rw [getF_skip (hall e he).symm]
      have e2 : (x :: xs).countP (qF (y :: ys)) = (x :: xs).countP (qF ys) := cnt_congr fun e he => by simp only [qF]; rw [getF_skip (hall e he).symm]
      unfold refD ad4 stp
      rw [e1, e2, cnt_cons _ y, kn_skip hall]
      simp [qF, getF_none hall, b2n]
    · rename_i hyx
      split
      · rename_i hxy
        rw [merge_ref t (by simp at h ⊢; omega) (List.Pairwise.of_cons ha) hb]
        have hall : ∀ e ∈ y :: ys, e.cell ≠ x.cell := by
          intro e he
          rcases List.mem_cons.1 he with rfl | he
          · exact (bef_ne hxy).symm
          · exact (bef_ne (befB_trans hxy (hys e he))).symm
        have e1 : (y :: ys).countP (qF (x :: xs)) = (y :: ys).countP (qF xs) := cnt_congr fun e he => by simp only [qF]; rw [getF_skip (hall e he).symm]
        unfold refD ad4 stp
        rw [e1, cnt_cons _ x, cnt_cons _ x, kn_cons, cnt_none fun e he => (hall e he).symm]
        simp [qF, qB, getF_none hall, b2n]
      · rename_i hxy
        rw [merge_ref t (by simp at h ⊢; omega) (List.Pairwise.of_cons ha) (List.Pairwise.of_cons hb)]
        have he : x.cell = y.cell := befB_total (by simpa using hxy) (by simpa using hyx)
        have h1 : ∀ e ∈ xs, e.cell ≠ y.cell := fun e h => he ▸ (bef_ne (hxs e h)).symm
        have h2 : ∀ e ∈ ys, e.cell ≠ x.cell := fun e h => he ▸ (bef_ne (hys e h)).symm
        have e1 : xs.countP (qB (y :: ys)) = xs.countP (qB ys) := cnt_congr fun e he => by simp only [qB]; rw [getF_skip (h1 e he).symm]
        have e2 : xs.countP (qF (y :: ys)) = xs.countP (qF ys) := cnt_congr fun e he => by simp only [qF]; rw [getF_skip (h1 e he).symm]
        have e3 : ys.countP (qF (x :: xs)) = ys.countP (qF xs) := cnt_congr fun e he => by simp only [qF]; rw [getF_skip (h2 e he).symm]
        unfold refD ad4 stp
        rw [cnt_cons _ x, cnt_cons _ x, cnt_cons _ y, kn_cons, e1, e2, e3, cnt_cons _ y, cnt_none fun e he => (h2 e he).symm, kn_skip h1]
        simp only [qF, qB, qK, getF_cons, he, if_true, decide_true, Bool.true_and, Bool.and_true]
        refine Prod.ext rfl (Prod.ext rfl (Prod.ext ?_ ?_))
        · simp only; cases occE x <;> cases occE y <;> simp [b2n]
        · simp [b2n]
theorem merge_fuel : ∀ (t : Nat) (a b : List EntT), a.length + b.length ≤ t → mergeD (t + 1) a b = mergeD t a b
  | 0, a, b, h => by
    obtain rfl : a = [] := List.eq_nil_of_length_eq_zero (by omega)
    obtain rfl : b = [] := List.eq_nil_of_length_eq_zero (by omega)
    rfl
  | t + 1, [], [], _ => rfl
  | t + 1, x :: xs, [], h => by rw [mergeD, mergeD, merge_fuel t xs [] (by simp at h ⊢; omega)]
  | t + 1, [], y :: ys, h => by rw [mergeD, mergeD, merge_fuel t [] ys (by simp at h ⊢; omega)]
  | t + 1, x :: xs, y :: ys, h => by
    rw [mergeD, mergeD, merge_fuel t (x :: xs) ys (by simp at h ⊢; omega), merge_fuel t xs (y :: ys) (by simp at h ⊢; omega), merge_fuel t xs ys (by simp at h ⊢; omega)]
/-- exchanged lists exchange First and Second -/
theorem merge_swap : ∀ (t : Nat) (a b : List EntT), mergeD t b a = ((mergeD t a b).1, (mergeD t a b).2.2.1, (mergeD t a b).2.1, (mergeD t a b).2.2.2)
  | 0, _, _ => rfl
  | t + 1, [], [] => rfl
  | t + 1, x :: xs, [] => by
    rw [mergeD, mergeD, merge_swap t xs []]
    simp [ad4, stp, b2n]
  | t + 1, [], y :: ys => by
    rw [mergeD, mergeD, merge_swap t [] ys]
    simp [ad4, stp, b2n]
  | t + 1, x :: xs, y :: ys => by
    rw [mergeD, mergeD]
    by_cases h1 : befB y.cell x.cell = true
    · have h2 : ¬ befB x.cell y.cell = true := fun h => by have := befB_trans h1 h; rw [befB_irr] at this; cases this
      rw [if_neg h2, if_pos h1, if_pos h1, merge_swap t (x :: xs) ys]
      simp [ad4, stp, b2n]
    · by_cases h2 : befB x.cell y.cell = true
      · rw [if_pos h2, if_neg h1, if_pos h2, merge_swap t xs (y :: ys)]
        simp [ad4, stp, b2n]
      · rw [if_neg h2, if_neg h1, if_neg h1, if_neg h2, merge_swap t xs ys]
        simp only [ad4, stp]
        cases occE x <;> cases occE y <;> simp [b2n]
/-- Both and First together: what is occupied in the first list -/
theorem ref_sum (a b : List EntT) : (refD a b).1 + (refD a b).2.1 = a.countP occE := by
  unfold refD
  induction a with
  | nil => rfl
  | cons x a ih =>
    simp only at ih ⊢
    rw [cnt_cons, cnt_cons, cnt_cons, ← ih]
    simp only [qB, qF]
    cases occE x <;> cases occE (getF b x.cell) <;> simp [b2n] <;> omega
theorem ref_self {a : List EntT} (h : ascE a) : refD a a = (a.countP occE, 0, 0, a.length) := by
  rw [← merge_ref _ (Nat.le_refl _) h h]
  suffices ∀ (t : Nat) {a : List EntT}, a.length ≤ t → mergeD t a a = (a.countP occE, 0, 0, a.length) from this _ (by omega)
  intro t
  induction t with
  | zero =>
    intro a h
    obtain rfl : a = [] := List.eq_nil_of_length_eq_zero (by omega)
    rfl
  | succ t ih =>
    intro a h
    match a, h with
    | [], _ => rfl
    | x :: xs, h =>
      rw [mergeD, befB_irr, if_neg (by simp), if_neg (by simp), ih (by simp at h; omega), cnt_cons]
      simp only [ad4, stp]
      cases occE x <;> simp [b2n] <;> omega
theorem asc_of {l : List EntT} (h : vE l = true) : ascE l := vE_pairwise h
theorem vE_le {l : List EntT} (h : vE l = true) : l.length ≤ 1048576 := by
  simp only [vE, Bool.and_eq_true, decide_eq_true_eq] at h
  exact h.1
theorem cnt_take (p : EntT → Bool) {l : List EntT} {k : Nat} (hk : k < l.length) : (l.take (k + 1)).countP p = (l.take k).countP p + b2n (p (l.getD k e0)) := by
  rw [List.take_succ_eq_append_getElem hk, List.countP_append]
  simp [hk, List.countP_cons, b2n]
theorem kn_take {a b : List EntT} {i : Nat} (hi : i < a.length) : kn (a.take (i + 1)) b = kn (a.take i) b + b.countP (qK (a.getD i e0)) := by
  unfold kn
  rw [List.take_succ_eq_append_getElem hi, List.map_append, List.sum_append]
  simp [hi]
theorem kn_le {b : List EntT} (hb : b.length ≤ 1048576) : ∀ a : List EntT, kn a b ≤ a.length * 1048576
  | [] => by simp [kn]
  | x :: xs => by
    have h1 := kn_le hb xs
    have h2 : b.countP (qK x) ≤ b.length := List.countP_le_length
    rw [kn_cons, List.length_cons]
    omega
theorem cnt_le (p : EntT → Bool) (l : List EntT) (k : Nat) : (l.take k).countP p ≤ k := by
  have := List.countP_le_length (p := p) (l := l.take k)
  rw [List.length_take] at this
  omega
/-- what Compare returns -/
def cmpD (a b : List EntT) : D4 := if vE a && vE b then refD a b else (0, 0, 0, 0)
end Go.Proofs.YtadichckbogcjaaDoor.En
