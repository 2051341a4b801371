/- Atlases in plain Lean: the greatest scan and the greatest placement of each id, whatever the order -/
/- The calls on an atlas, in plain Lean -/
import Derived.Test.YtodaijlclbngbaaGreatEp
import Derived.Test.YtodaijlclbngbaaGreatOe
set_option linter.all false
namespace Go.Proofs.YtodaijlclbngbaaGreat.En
open Go.RowKit

/-- lists of integers, compared place by place -/
def lexC : List Int → List Int → Int
  | [], [] => 0
  | [], _ :: _ => -1
  | _ :: _, [] => 1
  | x :: xs, y :: ys => if cmpI x y = 0 then lexC xs ys else cmpI x y
theorem cmpI_neg' (x y : Int) : cmpI y x = -cmpI x y := by
  unfold cmpI
  split <;> split <;> (try split) <;> omega
theorem cmpI_zero {x y : Int} : cmpI x y = 0 ↔ x = y := by
  unfold cmpI
  split
  · omega
  · split <;> omega
theorem cmpI_pos {x y : Int} : 0 < cmpI x y ↔ y < x := by
  unfold cmpI
  split
  · omega
  · split <;> omega
theorem lexC_neg : ∀ xs ys : List Int, lexC ys xs = -lexC xs ys
  | [], [] => rfl
  | [], _ :: _ => rfl
  | _ :: _, [] => rfl
  | x :: xs, y :: ys => by
    unfold lexC
    rw [cmpI_neg' x y, lexC_neg xs ys]
    by_cases h : cmpI x y = 0
    · rw [if_pos h, if_pos (by omega)]
    · rw [if_neg h, if_neg (by omega)]
theorem lexC_zero : ∀ {xs ys : List Int}, lexC xs ys = 0 → xs = ys
  | [], [], _ => rfl
  | [], _ :: _, h => by simp [lexC] at h
  | _ :: _, [], h => by simp [lexC] at h
  | x :: xs, y :: ys, h => by
    unfold lexC at h
    by_cases hc : cmpI x y = 0
    · rw [if_pos hc] at h
      rw [cmpI_zero.1 hc, lexC_zero h]
    · rw [if_neg hc] at h
      exact (hc h).elim
theorem lexC_self : ∀ xs : List Int, lexC xs xs = 0
  | [] => rfl
  | x :: xs => by
    unfold lexC
    rw [if_pos (cmpI_zero.2 rfl), lexC_self xs]
theorem lexC_trans : ∀ {xs ys zs : List Int}, lexC xs ys ≤ 0 → lexC ys zs ≤ 0 → lexC xs zs ≤ 0
  | [], [], _, _, h => h
  | [], _ :: _, [], _, h => by simp [lexC] at h
  | [], _ :: _, _ :: _, _, _ => by simp [lexC]
  | _ :: _, [], _, h, _ => by simp [lexC] at h
  | _ :: _, _ :: _, [], _, h => by simp [lexC] at h
  | x :: xs, y :: ys, z :: zs, h1, h2 => by
    unfold lexC at *
    have p1 := @cmpI_pos x y
    have p2 := @cmpI_pos y z
    have p3 := @cmpI_pos x z
    have z1 := @cmpI_zero x y
    have z2 := @cmpI_zero y z
    have z3 := @cmpI_zero x z
    by_cases a : cmpI x y = 0
    · rw [if_pos a] at h1
      by_cases b : cmpI y z = 0
      · rw [if_pos b] at h2
        rw [if_pos (by rw [z3, z1.1 a, z2.1 b])]
        exact lexC_trans h1 h2
      · rw [if_neg b] at h2
        have : x = y := z1.1 a
        subst this
        rw [if_neg b]
        exact h2
    · rw [if_neg a] at h1
      by_cases b : cmpI y z = 0
      · have : y = z := z2.1 b
        subst this
        rw [if_neg a]
        exact h1
      · rw [if_neg b] at h2
        have : x < z := by omega
        rw [if_neg (by omega)]
        omega
section
variable {α : Type} (key : α → List Int)
/-- the greater one -/
def mxO (o : Option α) (v : α) : Option α := match o with
  | none => some v
  | some u => if 0 < lexC (key v) (key u) then some v else some u
/-- the greatest of a list's values -/
def TopOf (l : List α) (o : Option α) : Prop := match o with
  | none => l = []
  | some v => v ∈ l ∧ ∀ u ∈ l, lexC (key u) (key v) ≤ 0
theorem TopOf.snoc {l : List α} {o : Option α} (h : TopOf key l o) (v : α) : TopOf key (l ++ [v]) (mxO key o v) := by
  cases o with
  | none =>
    have h : l = [] := h
    subst h
    exact ⟨by simp, by simp [lexC_self]⟩
  | some u =>
    obtain ⟨h1, h2⟩ := h
    unfold mxO
    dsimp only
    by_cases hc : 0 < lexC (key v) (key u)
    · rw [if_pos hc]
      refine ⟨by simp, fun x hx => ?_⟩
      rcases List.mem_append.1 hx with hx | hx
      · refine lexC_trans (h2 x hx) ?_
        rw [lexC_neg (key v) (key u)]
        omega
      · rw [List.mem_singleton.1 hx, lexC_self]
        exact Int.le_refl _
    · rw [if_neg hc]
      refine ⟨List.mem_append_left _ h1, fun x hx => ?_⟩
      rcases List.mem_append.1 hx with hx | hx
      · exact h2 x hx
      · rw [List.mem_singleton.1 hx]
        omega
theorem TopOf.unique (hk : ∀ a b, key a = key b → a = b) {l m : List α} {o p : Option α} (h1 : TopOf key l o) (h2 : TopOf key m p) (h : ∀ x, x ∈ l ↔ x ∈ m) : o = p := by
  cases o with
  | none =>
    have h1 : l = [] := h1
    subst h1
    cases p with
    | none => rfl
    | some v => exact absurd ((h v).2 h2.1) (by simp)
  | some u =>
    cases p with
    | none =>
      have h2 : m = [] := h2
      subst h2
      exact absurd ((h u).1 h1.1) (by simp)
    | some v =>
      have a := h1.2 v ((h v).2 h2.1)
      have b := h2.2 u ((h u).1 h1.1)
      rw [lexC_neg (key u) (key v)] at a
      exact congrArg some (hk u v (lexC_zero (by omega)))
theorem TopOf.congr {l m : List α} {o : Option α} (h : TopOf key l o) (hm : ∀ x, x ∈ l ↔ x ∈ m) : TopOf key m o := by
  cases o with
  | none =>
    have h : l = [] := h
    subst h
    exact List.eq_nil_iff_forall_not_mem.2 fun x hx => absurd ((hm x).2 hx) (by simp)
  | some v => exact ⟨(hm v).1 h.1, fun u hu => h.2 u ((hm u).2 hu)⟩
end
end Go.Proofs.YtodaijlclbngbaaGreat.En

namespace Go.Proofs.YtodaijlclbngbaaGreat.En
open Go.RowKit

/-- version, gone, pose -/
abbrev PlT := Int × Bool × Int × Int × Int
abbrev BmsT := List (Int × Int)
def keyP (p : PlT) : List Int := [p.1, if p.2.1 then 1 else 0, p.2.2.1, p.2.2.2.1, p.2.2.2.2]
theorem keyP_inj (a b : PlT) (h : keyP a = keyP b) : a = b := by
  obtain ⟨a1, a2, a3, a4, a5⟩ := a
  obtain ⟨b1, b2, b3, b4, b5⟩ := b
  simp only [keyP, List.cons.injEq, and_true] at h
  obtain ⟨h1, h2, h3, h4, h5⟩ := h
  have : a2 = b2 := by cases a2 <;> cases b2 <;> simp at h2 <;> rfl
  subst h1 h3 h4 h5 this
  rfl
def flatB : BmsT → List Int
  | [] => []
  | b :: r => b.1 :: b.2 :: flatB r
def keyS (s : BmsT) : List Int := (s.length : Int) :: flatB s
theorem flatB_inj : ∀ (a b : BmsT), flatB a = flatB b → a = b
  | [], [], _ => rfl
  | [], _ :: _, h => by simp [flatB] at h
  | _ :: _, [], h => by simp [flatB] at h
  | (a1, a2) :: a, (b1, b2) :: b, h => by
    simp only [flatB, List.cons.injEq] at h
    obtain ⟨h1, h2, h3⟩ := h
    rw [h1, h2, flatB_inj a b h3]
theorem keyS_inj (a b : BmsT) (h : keyS a = keyS b) : a = b := by
  simp only [keyS, List.cons.injEq] at h
  exact flatB_inj a b h.2
def vId (k : Int) : Bool := decide (0 ≤ k) && decide (k < 64)
def vPl (p : PlT) : Bool := decide (1 ≤ p.1) && decide (p.1 ≤ 1073741824) && (if p.2.1 then decide (p.2.2.1 = 0) && decide (p.2.2.2.1 = 0) && decide (p.2.2.2.2 = 0) else szB p.2.2.1 262144 && szB p.2.2.2.1 262144 && decide (0 ≤ p.2.2.2.2) && decide (p.2.2.2.2 < 256))
/-- what an atlas knows -/
abbrev AtT := (Int → Option BmsT) × (Int → Option PlT)
def at0 : AtT := (fun _ => none, fun _ => none)
def updF {α : Type} (f : Int → Option α) (k : Int) (v : Option α) : Int → Option α := fun i => if i = k then v else f i
def putA (a : AtT) (k : Int) (s : BmsT) : AtT := if scanB s && vId k then (updF a.1 k (mxO keyS (a.1 k) s), a.2) else a
def plcA (a : AtT) (k : Int) (p : PlT) : AtT := if vPl p && vId k then (a.1, updF a.2 k (mxO keyP (a.2 k) p)) else a
def putC (k : Int) (s : BmsT) : Int := if scanB s then (if vId k then 0 else 2) else 1
def plcC (k : Int) (p : PlT) : Int := if vPl p then (if vId k then 0 else 2) else 1
/-- move, id, scan, placement -/
abbrev OpT := Bool × Int × BmsT × PlT
def stepA (a : AtT) (o : OpT) : AtT := if o.1 then plcA a o.2.1 o.2.2.2 else putA a o.2.1 o.2.2.1
def madeA (l : List OpT) : AtT := l.foldl stepA at0
def valS (l : List OpT) (k : Int) : List BmsT := (l.filter fun o => !o.1 && scanB o.2.2.1 && vId o.2.1 && decide (o.2.1 = k)).map fun o => o.2.2.1
def valP (l : List OpT) (k : Int) : List PlT := (l.filter fun o => o.1 && vPl o.2.2.2 && vId o.2.1 && decide (o.2.1 = k)).map fun o => o.2.2.2
/-- a state that holds the greatest of what was put and placed -/
def TopA (l : List OpT) (a : AtT) : Prop := ∀ k, TopOf keyS (valS l k) (a.1 k) ∧ TopOf keyP (valP l k) (a.2 k)
theorem TopA.step {l : List OpT} {a : AtT} (h : TopA l a) (o : OpT) : TopA (l ++ [o]) (stepA a o) := by
  intro k
  obtain ⟨h1, h2⟩ := h k
  unfold stepA plcA putA valS valP
  simp only [List.filter_append, List.map_append]
  obtain ⟨mv, id, s, p⟩ := o
  dsimp only
  cases mv with
  | true =>
    simp only [if_true, Bool.not_true, Bool.false_and, List.filter_cons, List.filter_nil, Bool.false_eq_true, if_false, List.map_nil, List.append_nil, Bool.true_and]
    cases hv : vPl p && vId id with
    | false =>
      simp only [Bool.false_and, Bool.false_eq_true, if_false, List.map_nil, List.append_nil]
      exact ⟨h1, h2⟩
    | true =>
      simp only [if_true, Bool.true_and]
      refine ⟨h1, ?_⟩
      unfold updF
      by_cases hk : id = k
      · subst hk
        simp only [decide_true, if_true, List.map_cons, List.map_nil]
        exact h2.snoc keyP p
      · have hk' : ¬ k = id := fun e => hk e.symm
        simp only [hk', hk, decide_false, Bool.false_eq_true, if_false, List.map_nil, List.append_nil]
        exact h2
  | false =>
    simp only [Bool.not_false, Bool.true_and, Bool.false_and, List.filter_cons, List.filter_nil, Bool.false_eq_true, if_false, List.map_nil, List.append_nil]
    cases hv : scanB s && vId id with
    | false =>
      simp only [Bool.false_and, Bool.false_eq_true, if_false, List.map_nil, List.append_nil]
      exact ⟨h1, h2⟩
    | true =>
      simp only [if_true, Bool.true_and]
      refine ⟨?_, h2⟩
      unfold updF
      by_cases hk : id = k
      · subst hk
        simp only [decide_true, if_true, List.map_cons, List.map_nil]
        exact h1.snoc keyS s
      · have hk' : ¬ k = id := fun e => hk e.symm
        simp only [hk', hk, decide_false, Bool.false_eq_true, if_false, List.map_nil, List.append_nil]
        exact h1
theorem TopA.fold : ∀ (m : List OpT) {l : List OpT} {a : AtT}, TopA l a → TopA (l ++ m) (m.foldl stepA a)
  | [], l, a, h => by simpa using h
  | o :: m, l, a, h => by
    have := TopA.fold m (h.step o)
    rw [List.append_assoc] at this
    exact this
theorem top0 : TopA [] at0 := fun _ => ⟨rfl, rfl⟩
theorem top_made (l : List OpT) : TopA l (madeA l) := by
  have := TopA.fold l top0
  rw [List.nil_append] at this
  exact this
theorem TopA.unique {l m : List OpT} {a b : AtT} (h1 : TopA l a) (h2 : TopA m b) (h : ∀ o, o ∈ l ↔ o ∈ m) : a = b := by
  refine Prod.ext (funext fun k => ?_) (funext fun k => ?_)
  · refine TopOf.unique keyS keyS_inj (h1 k).1 (h2 k).1 fun x => ?_
    unfold valS
    simp only [List.mem_map, List.mem_filter, h]
  · refine TopOf.unique keyP keyP_inj (h1 k).2 (h2 k).2 fun x => ?_
    unfold valP
    simp only [List.mem_map, List.mem_filter, h]
/-- ids outside the range have nothing -/
theorem made_out (l : List OpT) (k : Int) (h : vId k = false) : (madeA l).1 k = none ∧ (madeA l).2 k = none := by
  have hz : ∀ o : OpT, ¬ (vId o.2.1 = true ∧ o.2.1 = k) := by
    rintro o ⟨h1, h2⟩
    rw [h2, h] at h1
    cases h1
  have e1 : valS l k = [] := by
    unfold valS
    rw [List.map_eq_nil_iff, List.filter_eq_nil_iff]
    intro o _ hc
    simp only [Bool.and_eq_true, decide_eq_true_eq] at hc
    exact hz o ⟨hc.1.2, hc.2⟩
  have e2 : valP l k = [] := by
    unfold valP
    rw [List.map_eq_nil_iff, List.filter_eq_nil_iff]
    intro o _ hc
    simp only [Bool.and_eq_true, decide_eq_true_eq] at hc
    exact hz o ⟨hc.1.2, hc.2⟩
  obtain ⟨h1, h2⟩ := top_made l k
  rw [e1] at h1
  rw [e2] at h2
  constructor
  · cases hq : (madeA l).1 k with
    | none => rfl
    | some v => rw [hq] at h1; exact absurd h1.1 (by simp)
  · cases hq : (madeA l).2 k with
    | none => rfl
    | some v => rw [hq] at h2; exact absurd h2.1 (by simp)
end Go.Proofs.YtodaijlclbngbaaGreat.En
