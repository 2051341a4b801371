/- The field of a list, in plain Lean -/
import Derived.Test.YtdjimfngnhnhnaaEr
set_option linter.all false
namespace Go.Proofs.Ytdjimfngnhnhnaa.En
open Go.RowKit
set_option maxRecDepth 100000

def seenL (l : List EntT) : List EntT := l.filter fun e => decide (0 < valueF e)
/-- low x, high x, low y, high y -/
abbrev BbT := Int × Int × Int × Int
def bbS (b : BbT) (e : EntT) : BbT := (min b.1 e.1, max b.2.1 e.1, min b.2.2.1 e.2.1, max b.2.2.2 e.2.1)
def bb1 (e : EntT) : BbT := (e.1, e.1, e.2.1, e.2.1)
def bbF : List EntT → BbT
  | [] => (0, 0, 0, 0)
  | e :: r => (e :: r).foldl bbS (bb1 e)
/-- the value at place i of a field whose rows have W places -/
def gB (l : List EntT) (x0 y0 W : Int) (i : Nat) : Int := valueF (getF l (x0 + (i : Int) % W, y0 + (i : Int) / W))
def fW (b : BbT) : Int := b.2.1 - b.1 + 1
def fH (b : BbT) : Int := b.2.2.2 - b.2.2.1 + 1
def fldE (l : List EntT) : (Int × Int × Int × Int) × List Int × Int :=
  if vE l then
    if seenL l = [] then ((0, 0, 0, 0), [], 0)
    else if 64 < fW (bbF (seenL l)) ∨ 64 < fH (bbF (seenL l)) then ((0, 0, 0, 0), [], 6)
    else (((bbF (seenL l)).1, (bbF (seenL l)).2.2.1, fW (bbF (seenL l)), fH (bbF (seenL l))), (List.range (fW (bbF (seenL l)) * fH (bbF (seenL l))).toNat).map (gB l (bbF (seenL l)).1 (bbF (seenL l)).2.2.1 (fW (bbF (seenL l)))), 0)
  else ((0, 0, 0, 0), [], 1)
theorem bbS_in {b : BbT} {e : EntT} : (bbS b e).1 ≤ b.1 ∧ b.2.1 ≤ (bbS b e).2.1 ∧ (bbS b e).2.2.1 ≤ b.2.2.1 ∧ b.2.2.2 ≤ (bbS b e).2.2.2 ∧ (bbS b e).1 ≤ e.1 ∧ e.1 ≤ (bbS b e).2.1 ∧ (bbS b e).2.2.1 ≤ e.2.1 ∧ e.2.1 ≤ (bbS b e).2.2.2 := by
  unfold bbS
  dsimp only
  omega
theorem bbfold_in : ∀ (l : List EntT) (b : BbT), ((l.foldl bbS b).1 ≤ b.1 ∧ b.2.1 ≤ (l.foldl bbS b).2.1 ∧ (l.foldl bbS b).2.2.1 ≤ b.2.2.1 ∧ b.2.2.2 ≤ (l.foldl bbS b).2.2.2) ∧ ∀ e ∈ l, (l.foldl bbS b).1 ≤ e.1 ∧ e.1 ≤ (l.foldl bbS b).2.1 ∧ (l.foldl bbS b).2.2.1 ≤ e.2.1 ∧ e.2.1 ≤ (l.foldl bbS b).2.2.2
  | [], b => by simp
  | x :: l, b => by
    obtain ⟨h1, h2⟩ := bbfold_in l (bbS b x)
    have h3 := bbS_in (b := b) (e := x)
    rw [List.foldl_cons]
    refine ⟨by omega, fun e he => ?_⟩
    rcases List.mem_cons.1 he with rfl | he
    · omega
    · exact h2 e he
theorem bbF_in {l : List EntT} {e : EntT} (he : e ∈ l) : (bbF l).1 ≤ e.1 ∧ e.1 ≤ (bbF l).2.1 ∧ (bbF l).2.2.1 ≤ e.2.1 ∧ e.2.1 ≤ (bbF l).2.2.2 := by
  cases l with
  | nil => cases he
  | cons x l => exact (bbfold_in (x :: l) (bb1 x)).2 e he
/-- corners of entries that are near -/
theorem bbfold_bd {m : Int} : ∀ (l : List EntT) (b : BbT), ((-m ≤ b.1 ∧ b.1 ≤ m) ∧ (-m ≤ b.2.1 ∧ b.2.1 ≤ m) ∧ (-m ≤ b.2.2.1 ∧ b.2.2.1 ≤ m) ∧ -m ≤ b.2.2.2 ∧ b.2.2.2 ≤ m) → (∀ e ∈ l, (-m ≤ e.1 ∧ e.1 ≤ m) ∧ -m ≤ e.2.1 ∧ e.2.1 ≤ m) →
    (-m ≤ (l.foldl bbS b).1 ∧ (l.foldl bbS b).1 ≤ m) ∧ (-m ≤ (l.foldl bbS b).2.1 ∧ (l.foldl bbS b).2.1 ≤ m) ∧ (-m ≤ (l.foldl bbS b).2.2.1 ∧ (l.foldl bbS b).2.2.1 ≤ m) ∧ -m ≤ (l.foldl bbS b).2.2.2 ∧ (l.foldl bbS b).2.2.2 ≤ m
  | [], _, h, _ => h
  | x :: l, b, h, hl => by
    rw [List.foldl_cons]
    refine bbfold_bd l _ ?_ fun e he => hl e (List.mem_cons_of_mem _ he)
    have := hl x (List.mem_cons_self ..)
    unfold bbS
    dsimp only
    omega
theorem seen_take {l : List EntT} {k : Nat} (hk : k < l.length) : seenL (l.take (k + 1)) = seenL (l.take k) ++ if 0 < valueF (l.getD k e0) then [l.getD k e0] else [] := by
  have e : l.getD k e0 = l[k] := by simp [hk]
  rw [List.take_succ_eq_append_getElem hk, e]
  unfold seenL
  rw [List.filter_append]
  congr 1
  rw [List.filter_cons]
  by_cases h : 0 < valueF l[k]
  · simp [h]
  · simp [h]
/-- the corners, one entry more -/
def bbN (b : BbT) (s : List EntT) (e : EntT) : BbT := if s = [] then bb1 e else bbS b e
theorem bbF_snoc (s : List EntT) (e : EntT) : bbF (s ++ [e]) = bbN (bbF s) s e := by
  unfold bbN
  cases s with
  | nil =>
    rw [if_pos rfl]
    simp only [List.nil_append, bbF, List.foldl_cons, List.foldl_nil, bbS, bb1]
    simp
  | cons x s =>
    rw [if_neg (by simp)]
    simp only [List.cons_append, bbF]
    rw [← List.cons_append, List.foldl_append]
    rfl
theorem value_zero (c : CellT) : valueF (c.1, c.2, 0, 0) = 0 := by
  unfold valueF
  rw [if_neg (by simp)]
theorem getF_snoc_ne {l : List EntT} {e : EntT} {c : CellT} (h : e.cell ≠ c) : getF (l ++ [e]) c = getF l c := by
  unfold getF
  rw [List.find?_append]
  cases l.find? fun e => decide (e.cell = c) with
  | some x => rfl
  | none => simp [h]
theorem getF_snoc_eq {l : List EntT} {e : EntT} (h : ∀ x ∈ l, x.cell ≠ e.cell) : getF (l ++ [e]) e.cell = e := by
  unfold getF
  rw [List.find?_append]
  have : (l.find? fun x => decide (x.cell = e.cell)) = none := by
    rw [List.find?_eq_none]
    intro x hx
    simpa using h x hx
  rw [this]
  simp
/-- what has no value needs no place -/
theorem seen_val {l : List EntT} (h : neT l) (c : CellT) : valueF (getF (seenL l) c) = valueF (getF l c) := by
  induction l with
  | nil => rfl
  | cons x l ih =>
    have ih := ih (List.Pairwise.of_cons h)
    have hx := (List.pairwise_cons.1 h).1
    unfold seenL at *
    rw [List.filter_cons]
    by_cases hv : 0 < valueF x
    · rw [if_pos (by simpa using hv)]
      unfold getF at *
      rw [List.find?_cons, List.find?_cons]
      by_cases hc : x.cell = c
      · simp [hc]
      · simpa [hc] using ih
    · rw [if_neg (by simpa using hv), ih]
      unfold getF
      rw [List.find?_cons]
      by_cases hc : x.cell = c
      · have hn : (l.find? fun e => decide (e.cell = c)) = none := by
          rw [List.find?_eq_none]
          intro y hy
          have := hx y hy
          simpa [hc] using fun h => this (hc.trans h.symm)
        rw [hn]
        have := value_bd x
        simp only [hc, decide_true, Option.getD_some, Option.getD_none, value_zero]
        omega
      · simp [hc]
/-- the values with one entry more -/
theorem gB_set {s : List EntT} {e : EntT} {x0 y0 W H : Int} (hW : 1 ≤ W) (hx : x0 ≤ e.1 ∧ e.1 < x0 + W) (hy : y0 ≤ e.2.1 ∧ e.2.1 < y0 + H) (hn : ∀ x ∈ s, x.cell ≠ e.cell) :
    0 ≤ (e.2.1 - y0) * W + e.1 - x0 ∧ (e.2.1 - y0) * W + e.1 - x0 < W * H ∧ (List.range (W * H).toNat).map (gB (s ++ [e]) x0 y0 W) = ((List.range (W * H).toNat).map (gB s x0 y0 W)).set ((e.2.1 - y0) * W + e.1 - x0).toNat (valueF e) := by
  have h1 : 0 ≤ (e.2.1 - y0) * W := Int.mul_nonneg (by omega) (by omega)
  have h2 : (e.2.1 - y0 + 1) * W ≤ H * W := Int.mul_le_mul_of_nonneg_right (by omega) (by omega)
  rw [Int.add_mul, Int.one_mul, Int.mul_comm H W] at h2
  have h3 : 0 ≤ (e.2.1 - y0) * W + e.1 - x0 := by omega
  refine ⟨h3, by omega, ?_⟩
  have e1 : ((e.2.1 - y0) * W + e.1 - x0) % W = e.1 - x0 := by
    rw [show (e.2.1 - y0) * W + e.1 - x0 = e.1 - x0 + W * (e.2.1 - y0) by rw [Int.mul_comm W]; omega, Int.add_mul_emod_self_left]
    exact Int.emod_eq_of_lt (by omega) (by omega)
  have e2 : ((e.2.1 - y0) * W + e.1 - x0) / W = e.2.1 - y0 := by
    rw [show (e.2.1 - y0) * W + e.1 - x0 = e.1 - x0 + W * (e.2.1 - y0) by rw [Int.mul_comm W]; omega, Int.add_mul_ediv_left _ _ (by omega), Int.ediv_eq_zero_of_lt (by omega) (by omega)]
    omega
  refine List.ext_getElem? fun i => ?_
  rw [List.getElem?_set]
  simp only [List.getElem?_map, List.length_map, List.length_range]
  by_cases hi : i < (W * H).toNat
  · rw [List.getElem?_range hi]
    by_cases hq : ((e.2.1 - y0) * W + e.1 - x0).toNat = i
    · rw [if_pos hq, if_pos (by omega)]
      have hc : (i : Int) = (e.2.1 - y0) * W + e.1 - x0 := by omega
      simp only [Option.map_some, Option.some.injEq]
      unfold gB
      rw [hc, e1, e2, show (x0 + (e.1 - x0), y0 + (e.2.1 - y0)) = e.cell from Prod.ext (by show x0 + (e.1 - x0) = e.1; omega) (by show y0 + (e.2.1 - y0) = e.2.1; omega), getF_snoc_eq hn]
    · rw [if_neg hq]
      simp only [Option.map_some, Option.some.injEq]
      unfold gB
      rw [getF_snoc_ne]
      intro hc
      have c1 : e.1 = x0 + (i : Int) % W := (Prod.ext_iff.1 hc).1
      have c2 : e.2.1 = y0 + (i : Int) / W := (Prod.ext_iff.1 hc).2
      have := Int.mul_ediv_add_emod (i : Int) W
      rw [show (i : Int) / W = e.2.1 - y0 by omega, show (i : Int) % W = e.1 - x0 by omega, Int.mul_comm] at this
      omega
  · rw [List.getElem?_eq_none (by simp; omega)]
    split
    · omega
    · rfl
end Go.Proofs.Ytdjimfngnhnhnaa.En
