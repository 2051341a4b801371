/- Opening arguments whose types hold integers only, however nested; slices of them. -/
import Derived.Test.YtdjimfngnhnhnaaOp
set_option linter.all false
namespace Go.Proofs.Ytdjimfngnhnhnaa
open Go.ChangeShapes Go.WideShapes Go.ChangeAt Go.RowKit Go.Joins Go.Deep

/-- all cells of the type are integers of kind i64 -/
def flatI (P : Program) : Nat → TypeId → Bool
  | 0, _ => false
  | n + 1, t =>
    match P.underlying t with
    | some (.int .i64) => true
    | some (.struct fs) => (fs.all fun f => flatI P n f.type) && (List.range (P.cellsOf t)).all fun j => fs.any fun f => decide (f.offset ≤ j) && decide (j < f.offset + P.cellsOf f.type)
    | _ => false

section
variable {H : Type} {enc : TypeId × Value → H} {P : Program} {w : World} {base : Nat} {spare : Nat → Bool} {held : Bool}

theorem flat_cells : ∀ (n : Nat) {t : TypeId} {fuel : Nat} {cs : List Value} {x : DataW H × List MemPlace}, flatI P n t = true → DataW.trod enc P w base spare held fuel t cs = some x → ∀ j, j < cs.length → ∃ a : Int, cs[j]? = some (.int .i64 a) ∧ (Lit.int .i64 a).wf = true
  | 0, _, _, _, _, hf, _, _, _ => by simp [flatI] at hf
  | n + 1, t, fuel, cs, x, hf, h, j, hj => by
    unfold flatI at hf
    split at hf
    · rename_i ht
      obtain ⟨a, rfl, _, hw⟩ := DataW.trod_int ht h
      simp at hj
      subst hj
      exact ⟨a, rfl, hw⟩
    · rename_i fs ht
      simp only [Bool.and_eq_true] at hf
      obtain ⟨hf1, hf2⟩ := hf
      obtain ⟨xs, m, _, _, hl, hxl, hg⟩ := DataW.trod_struct ht h
      have h2 := List.all_eq_true.1 hf2 j (by simp; omega)
      obtain ⟨i, hi, hij⟩ := Array.any_eq_true.1 h2
      simp only [Bool.and_eq_true, decide_eq_true_eq] at hij
      have h1 := hg i fs[i] (Array.getElem?_eq_getElem hi)
      have hys : xs[i]? = some (xs[i]'(by omega)) := List.getElem?_eq_getElem (by omega)
      rw [hys] at h1
      have h3 := Array.all_eq_true.1 hf1 i hi
      obtain ⟨a, ha, hw⟩ := flat_cells n h3 h1 (j - fs[i].offset) (by simp; omega)
      refine ⟨a, ?_, hw⟩
      rw [List.getElem?_take_of_lt (by omega), List.getElem?_drop] at ha
      rw [← ha]
      congr 1
      omega
    · cases hf

/-- a slice that came in, of structs of integers: C cells each -/
def SlAt (w : World) (a : Addr) (len C : Nat) (V : Nat → Nat → Int) : Prop :=
  ∀ i, i < len → ∀ j, j < C → w.cell? ((a.add (i * C)).add j) = some (.int .i64 (V i j)) ∧ (Lit.int .i64 (V i j)).wf = true

theorem open_sliceI {t e : TypeId} {n : Nat} {cs : List Value} {fuel : Nat} {x : DataW H × List MemPlace} (ht : P.underlying t = some (.slice e)) (hf : flatI P n e = true) (h : DataW.trod enc P w base spare held fuel t cs = some x) :
    cs = [.slice none 0 0] ∨ ∃ (a : Addr) (len cap : Nat) (V : Nat → Nat → Int), cs = [.slice (some a) len cap] ∧ len ≤ cap ∧ cap ≤ maxLen ∧ SlAt w a len (P.cellsOf e) V := by
  rcases open_slice ht h with h0 | ⟨a, len, cap, m, k, D, Pl, hcs, hb, hl, hm, hmm, hx, hi⟩
  · exact .inl h0.1
  · have hlm : len ≤ m := by rw [hmm]; split <;> omega
    have hex : ∀ i j, ∃ v : Int, i < len → j < P.cellsOf e → w.cell? ((a.add (i * P.cellsOf e)).add j) = some (.int .i64 v) ∧ (Lit.int .i64 v).wf = true := by
      intro i j
      by_cases h1 : i < len
      · by_cases h2 : j < P.cellsOf e
        · obtain ⟨cs', hc, ht'⟩ := hi i (by omega)
          obtain ⟨_, hcl, hat⟩ := World.cells?_some hc
          obtain ⟨v, hv, hw⟩ := flat_cells n hf ht' j (by omega)
          exact ⟨v, fun _ _ => ⟨by rw [hat j h2, hv], hw⟩⟩
        · exact ⟨0, fun _ h => absurd h h2⟩
      · exact ⟨0, fun h => absurd h h1⟩
    exact .inr ⟨a, len, cap, fun i j => Classical.choose (hex i j), hcs, hl, hm, fun i h1 j h2 => Classical.choose_spec (hex i j) h1 h2⟩

theorem open_slI {r : Reach} {b0 : Nat} {t e : TypeId} {v : Value} {d : DataW H} {p : List MemPlace} (n : Nat) (ht : P.underlying t = some (.slice e)) (hf : flatI P n e = true) (hv : Value.okWide P w r b0 t v) (h : DataW.Trod enc P w base spare held t v d p) :
    v = .slice none 0 0 ∨ ∃ (a : Addr) (len cap : Nat) (V : Nat → Nat → Int), v = .slice (some a) len cap ∧ len ≤ cap ∧ cap ≤ maxLen ∧ SlAt w a len (P.cellsOf e) V := by
  obtain ⟨a, len, cap, rfl⟩ := okWide_slice ht hv
  obtain ⟨fuel, hf'⟩ := h
  rcases open_sliceI ht hf hf' with h | ⟨a', len', cap', V, h, h1, h2, h3⟩
  · left; simpa [Value.cells] using h
  · right; exact ⟨a', len', cap', V, by simpa [Value.cells] using h, h1, h2, h3⟩
end

/-- a slice that came in, nil or not -/
def SlO (w : World) (A : Option Addr) (len C : Nat) (V : Nat → Nat → Int) : Prop := len = 0 ∨ ∃ a, A = some a ∧ SlAt w a len C V
theorem open_slO {H : Type} {enc : TypeId × Value → H} {P : Program} {w : World} {base : Nat} {spare : Nat → Bool} {held : Bool} {r : Reach} {b0 : Nat} {t e : TypeId} {v : Value} {d : DataW H} {p : List MemPlace} (n C : Nat) (ht : P.underlying t = some (.slice e)) (hC : P.cellsOf e = C) (hf : flatI P n e = true) (hv : Value.okWide P w r b0 t v) (h : DataW.Trod enc P w base spare held t v d p) :
    ∃ (A : Option Addr) (len cap : Nat) (V : Nat → Nat → Int), v = .slice A len cap ∧ len ≤ cap ∧ cap ≤ maxLen ∧ SlO w A len C V := by
  rcases open_slI n ht hf hv h with h | ⟨a, len, cap, V, h1, h2, h3, h4⟩
  · exact ⟨none, 0, 0, fun _ _ => 0, h, Nat.le_refl _, by simp [maxLen], .inl rfl⟩
  · exact ⟨some a, len, cap, V, h1, h2, h3, .inr ⟨a, rfl, hC ▸ h4⟩⟩
theorem SlAt.below {w w' : World} {a : Addr} {len C : Nat} {V : Nat → Nat → Int} (h : SlAt w a len C V) (hb : Below w.heap.size w w') : SlAt w' a len C V := fun i hi j hj => by
  obtain ⟨h1, h2⟩ := h i hi j hj
  exact ⟨(hb.cell (World.block_lt_of_cell? w _ h1)).trans h1, h2⟩
theorem SlO.below {w w' : World} {A : Option Addr} {len C : Nat} {V : Nat → Nat → Int} (h : SlO w A len C V) (hb : Below w.heap.size w w') : SlO w' A len C V := by
  rcases h with h | ⟨a, h1, h2⟩
  · exact .inl h
  · exact .inr ⟨a, h1, h2.below hb⟩
theorem SlO.at {w : World} {A : Option Addr} {len C i : Nat} {V : Nat → Nat → Int} (h : SlO w A len C V) (hi : i < len) : ∃ a, A = some a ∧ ∀ j, j < C → w.cell? ((a.add (i * C)).add j) = some (.int .i64 (V i j)) := by
  rcases h with h | ⟨a, h1, h2⟩
  · omega
  · exact ⟨a, h1, fun j hj => (h2 i hi j hj).1⟩
/-- the same in the walk's spelling -/
theorem SlO.get {w : World} {A : Option Addr} {len C i : Nat} {V : Nat → Nat → Int} (h : SlO w A len C V) (hi : i < len) (hC : 0 < C) :
    ∃ a, A = some a ∧ w.cell? (a.add (i * C)) = some (.int .i64 (V i 0)) ∧ ∀ j, 0 < j → j < C → w.cell? ⟨(a.add (i * C)).block, (a.add (i * C)).off + j, none⟩ = some (.int .i64 (V i j)) := by
  obtain ⟨a, h1, h2⟩ := h.at hi
  refine ⟨a, h1, h2 0 hC, fun j h0 hj => ?_⟩
  have := h2 j hj
  unfold Addr.add at this ⊢
  rw [if_neg (by omega : j ≠ 0)] at this
  exact this
example : flatI Try.prog 3 82 = true := by kernel_rfl
end Go.Proofs.Ytdjimfngnhnhnaa
