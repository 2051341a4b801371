/- Opening arguments that are structs of integers, by value. -/
/- Opening arguments whose types hold integers only, however nested; slices of them. -/
import Derived.Test.YtadichckbogcjaaDoorCm
import Derived.ProofKit
import Derived.OpenShut
import Derived.Lib.SmallJoins
import Derived.Deep.Slices
import Derived.Deep.Fields
set_option linter.all false
namespace Go.Proofs.YtadichckbogcjaaDoor
open Go.ChangeShapes Go.WideShapes Go.ChangeAt Go.RowKit Go.Joins Go.Deep

theorem own : ownKnob Tryd.prog.godebug = none := by kernel_rfl
theorem laidOut : laidOutB Tryd.prog = true := by kernel_rfl

def theInt : Value → Int
  | .int _ a => a
  | _ => 0

theorem ints1 {l : List Int} (h : l.length = 1) : ∃ a0 : Int, l = [a0] := by
  match l, h with
  | [a0], _ => exact ⟨a0, rfl⟩
theorem ints2 {l : List Int} (h : l.length = 2) : ∃ a0 a1 : Int, l = [a0, a1] := by
  match l, h with
  | [a0, a1], _ => exact ⟨a0, a1, rfl⟩
theorem ints3 {l : List Int} (h : l.length = 3) : ∃ a0 a1 a2 : Int, l = [a0, a1, a2] := by
  match l, h with
  | [a0, a1, a2], _ => exact ⟨a0, a1, a2, rfl⟩
theorem ints4 {l : List Int} (h : l.length = 4) : ∃ a0 a1 a2 a3 : Int, l = [a0, a1, a2, a3] := by
  match l, h with
  | [a0, a1, a2, a3], _ => exact ⟨a0, a1, a2, a3, rfl⟩
theorem ints5 {l : List Int} (h : l.length = 5) : ∃ a0 a1 a2 a3 a4 : Int, l = [a0, a1, a2, a3, a4] := by
  match l, h with
  | [a0, a1, a2, a3, a4], _ => exact ⟨a0, a1, a2, a3, a4, rfl⟩
theorem ints6 {l : List Int} (h : l.length = 6) : ∃ a0 a1 a2 a3 a4 a5 : Int, l = [a0, a1, a2, a3, a4, a5] := by
  match l, h with
  | [a0, a1, a2, a3, a4, a5], _ => exact ⟨a0, a1, a2, a3, a4, a5, rfl⟩
section
variable {H : Type} {enc : TypeId × Value → H} {P : Program} {w : World} {base : Nat} {spare : Nat → Bool} {held : Bool}
theorem ints_of_cells : ∀ (cs : List Value), (∀ j, j < cs.length → ∃ a : Int, cs[j]? = some (.int .i64 a)) → cs = (cs.map theInt).map (Value.int .i64)
  | [], _ => rfl
  | c :: cs, h => by
    obtain ⟨a, ha⟩ := h 0 (by simp)
    simp at ha
    subst ha
    have ih := ints_of_cells cs fun j hj => by simpa using h (j + 1) (by simpa using hj)
    simp only [List.map_cons, theInt]
    rw [← ih]

theorem open_aggI {r : Reach} {b0 : Nat} {t : TypeId} {fs : Array Field} {v : Value} {d : DataW H} {p : List MemPlace} (hs : P.underlying t = some (.struct fs)) (hone : oneCellFields P fs = true) {ti : TypeId} (hti : P.underlying ti = some (.int .i64)) (hall : (fs.all fun f => f.type == ti) = true) (hC : P.cellsOf t = fs.size)
    (hv : Value.okWide P w r b0 t v) (h : DataW.Trod enc P w base spare held t v d p) : ∃ l : List Int, l.length = fs.size ∧ v = .agg (l.map (Value.int .i64)).toArray := by
  obtain ⟨cs, rfl, hsz⟩ := okWide_struct hs hv
  obtain ⟨cs⟩ := cs
  have hlen : cs.length = fs.size := by simpa [hC] using hsz
  obtain ⟨fuel, hf⟩ := h
  obtain ⟨xs, n, _, hx, _, hxl, hg⟩ := DataW.trod_struct hs hf
  have hcells : ∀ j, j < cs.length → ∃ a : Int, cs[j]? = some (.int .i64 a) := by
    intro j hj
    have hjf : j < fs.size := by omega
    obtain ⟨o, k⟩ := hone_of hone j fs[j] (Array.getElem?_eq_getElem hjf)
    have h1 := hg j fs[j] (Array.getElem?_eq_getElem hjf)
    have hty : fs[j].type = ti := by
      have := Array.all_eq_true.1 hall j hjf
      simpa using this
    have hys : xs[j]? = some (xs[j]'(by omega)) := List.getElem?_eq_getElem (by omega)
    rw [o, k, hys, hty] at h1
    have hone' : (cs.drop j).take 1 = [cs[j]] := by
      rw [List.drop_eq_getElem_cons hj]; rfl
    simp only [Value.cells] at h1
    rw [hone'] at h1
    obtain ⟨a, ha, _, _⟩ := DataW.trod_int hti h1
    simp at ha
    exact ⟨a, by rw [List.getElem?_eq_getElem hj, ha]⟩
  exact ⟨cs.map theInt, by simpa using hlen, by rw [← ints_of_cells cs hcells]⟩
end
end Go.Proofs.YtadichckbogcjaaDoor

namespace Go.Proofs.YtadichckbogcjaaDoor
open Go.ChangeShapes Go.WideShapes Go.ChangeAt Go.RowKit Go.Joins Go.Deep

/-- all cells of the type are integers of kind i64 -/
def flatI (P : Program) : Nat → TypeId → Bool
  | 0, _ => false
  | n + 1, t =>
    match P.underlying t with
    | some (.int .i64) => true
    | some (.struct fs) => (fs.all fun f => flatI P n f.type) && (List.range (P.cellsOf t)).all fun j => fs.any fun f => decide (f.offset ≤ j) && decide (j < f.offset + P.cellsOf f.type)
    | _ => false

section
variable {H : Type} {enc : TypeId × Value → H} {P : Program} {w : World} {base : Nat} {spare : Nat → Bool} {held : Bool}

theorem flat_cells : ∀ (n : Nat) {t : TypeId} {fuel : Nat} {cs : List Value} {x : DataW H × List MemPlace}, flatI P n t = true → DataW.trod enc P w base spare held fuel t cs = some x → ∀ j, j < cs.length → ∃ a : Int, cs[j]? = some (.int .i64 a) ∧ (Lit.int .i64 a).wf = true
  | 0, _, _, _, _, hf, _, _, _ => by simp [flatI] at hf
  | n + 1, t, fuel, cs, x, hf, h, j, hj => by
    unfold flatI at hf
    split at hf
    · rename_i ht
      obtain ⟨a, rfl, _, hw⟩ := DataW.trod_int ht h
      simp at hj
      subst hj
      exact ⟨a, rfl, hw⟩
    · rename_i fs ht
      simp only [Bool.and_eq_true] at hf
      obtain ⟨hf1, hf2⟩ := hf
      obtain ⟨xs, m, _, _, hl, hxl, hg⟩ := DataW.trod_struct ht h
      have h2 := List.all_eq_true.1 hf2 j (by simp; omega)
      obtain ⟨i, hi, hij⟩ := Array.any_eq_true.1 h2
      simp only [Bool.and_eq_true, decide_eq_true_eq] at hij
      have h1 := hg i fs[i] (Array.getElem?_eq_getElem hi)
      have hys : xs[i]? = some (xs[i]'(by omega)) := List.getElem?_eq_getElem (by omega)
      rw [hys] at h1
      have h3 := Array.all_eq_true.1 hf1 i hi
      obtain ⟨a, ha, hw⟩ := flat_cells n h3 h1 (j - fs[i].offset) (by simp; omega)
      refine ⟨a, ?_, hw⟩
      rw [List.getElem?_take_of_lt (by omega), List.getElem?_drop] at ha
      rw [← ha]
      congr 1
      omega
    · cases hf

/-- a slice that came in, of structs of integers: C cells each -/
def SlAt (w : World) (a : Addr) (len C : Nat) (V : Nat → Nat → Int) : Prop :=
  ∀ i, i < len → ∀ j, j < C → w.cell? ((a.add (i * C)).add j) = some (.int .i64 (V i j)) ∧ (Lit.int .i64 (V i j)).wf = true

theorem open_sliceI {t e : TypeId} {n : Nat} {cs : List Value} {fuel : Nat} {x : DataW H × List MemPlace} (ht : P.underlying t = some (.slice e)) (hf : flatI P n e = true) (h : DataW.trod enc P w base spare held fuel t cs = some x) :
    cs = [.slice none 0 0] ∨ ∃ (a : Addr) (len cap : Nat) (V : Nat → Nat → Int), cs = [.slice (some a) len cap] ∧ len ≤ cap ∧ cap ≤ maxLen ∧ SlAt w a len (P.cellsOf e) V := by
  rcases open_slice ht h with h0 | ⟨a, len, cap, m, k, D, Pl, hcs, hb, hl, hm, hmm, hx, hi⟩
  · exact .inl h0.1
  · have hlm : len ≤ m := by rw [hmm]; split <;> omega
    have hex : ∀ i j, ∃ v : Int, i < len → j < P.cellsOf e → w.cell? ((a.add (i * P.cellsOf e)).add j) = some (.int .i64 v) ∧ (Lit.int .i64 v).wf = true := by
      intro i j
      by_cases h1 : i < len
      · by_cases h2 : j < P.cellsOf e
        · obtain ⟨cs', hc, ht'⟩ := hi i (by omega)
          obtain ⟨_, hcl, hat⟩ := World.cells?_some hc
          obtain ⟨v, hv, hw⟩ := flat_cells n hf ht' j (by omega)
          exact ⟨v, fun _ _ => ⟨by rw [hat j h2, hv], hw⟩⟩
        · exact ⟨0, fun _ h => absurd h h2⟩
      · exact ⟨0, fun h => absurd h h1⟩
    exact .inr ⟨a, len, cap, fun i j => Classical.choose (hex i j), hcs, hl, hm, fun i h1 j h2 => Classical.choose_spec (hex i j) h1 h2⟩

theorem open_slI {r : Reach} {b0 : Nat} {t e : TypeId} {v : Value} {d : DataW H} {p : List MemPlace} (n : Nat) (ht : P.underlying t = some (.slice e)) (hf : flatI P n e = true) (hv : Value.okWide P w r b0 t v) (h : DataW.Trod enc P w base spare held t v d p) :
    v = .slice none 0 0 ∨ ∃ (a : Addr) (len cap : Nat) (V : Nat → Nat → Int), v = .slice (some a) len cap ∧ len ≤ cap ∧ cap ≤ maxLen ∧ SlAt w a len (P.cellsOf e) V := by
  obtain ⟨a, len, cap, rfl⟩ := okWide_slice ht hv
  obtain ⟨fuel, hf'⟩ := h
  rcases open_sliceI ht hf hf' with h | ⟨a', len', cap', V, h, h1, h2, h3⟩
  · left; simpa [Value.cells] using h
  · right; exact ⟨a', len', cap', V, by simpa [Value.cells] using h, h1, h2, h3⟩
end

/-- a slice that came in, nil or not -/
def SlO (w : World) (A : Option Addr) (len C : Nat) (V : Nat → Nat → Int) : Prop := len = 0 ∨ ∃ a, A = some a ∧ SlAt w a len C V
theorem open_slO {H : Type} {enc : TypeId × Value → H} {P : Program} {w : World} {base : Nat} {spare : Nat → Bool} {held : Bool} {r : Reach} {b0 : Nat} {t e : TypeId} {v : Value} {d : DataW H} {p : List MemPlace} (n C : Nat) (ht : P.underlying t = some (.slice e)) (hC : P.cellsOf e = C) (hf : flatI P n e = true) (hv : Value.okWide P w r b0 t v) (h : DataW.Trod enc P w base spare held t v d p) :
    ∃ (A : Option Addr) (len cap : Nat) (V : Nat → Nat → Int), v = .slice A len cap ∧ len ≤ cap ∧ cap ≤ maxLen ∧ SlO w A len C V := by
  rcases open_slI n ht hf hv h with h | ⟨a, len, cap, V, h1, h2, h3, h4⟩
  · exact ⟨none, 0, 0, fun _ _ => 0, h, Nat.le_refl _, by simp [maxLen], .inl rfl⟩
  · exact ⟨some a, len, cap, V, h1, h2, h3, .inr ⟨a, rfl, hC ▸ h4⟩⟩
theorem SlAt.below {w w' : World} {a : Addr} {len C : Nat} {V : Nat → Nat → Int} (h : SlAt w a len C V) (hb : Below w.heap.size w w') : SlAt w' a len C V := fun i hi j hj => by
  obtain ⟨h1, h2⟩ := h i hi j hj
  exact ⟨(hb.cell (World.block_lt_of_cell? w _ h1)).trans h1, h2⟩
theorem SlO.below {w w' : World} {A : Option Addr} {len C : Nat} {V : Nat → Nat → Int} (h : SlO w A len C V) (hb : Below w.heap.size w w') : SlO w' A len C V := by
  rcases h with h | ⟨a, h1, h2⟩
  · exact .inl h
  · exact .inr ⟨a, h1, h2.below hb⟩
theorem SlO.at {w : World} {A : Option Addr} {len C i : Nat} {V : Nat → Nat → Int} (h : SlO w A len C V) (hi : i < len) : ∃ a, A = some a ∧ ∀ j, j < C → w.cell? ((a.add (i * C)).add j) = some (.int .i64 (V i j)) := by
  rcases h with h | ⟨a, h1, h2⟩
  · omega
  · exact ⟨a, h1, fun j hj => (h2 i hi j hj).1⟩
/-- the same in the walk's spelling -/
theorem SlO.get {w : World} {A : Option Addr} {len C i : Nat} {V : Nat → Nat → Int} (h : SlO w A len C V) (hi : i < len) (hC : 0 < C) :
    ∃ a, A = some a ∧ w.cell? (a.add (i * C)) = some (.int .i64 (V i 0)) ∧ ∀ j, 0 < j → j < C → w.cell? ⟨(a.add (i * C)).block, (a.add (i * C)).off + j, none⟩ = some (.int .i64 (V i j)) := by
  obtain ⟨a, h1, h2⟩ := h.at hi
  refine ⟨a, h1, h2 0 hC, fun j h0 hj => ?_⟩
  have := h2 j hj
  unfold Addr.add at this ⊢
  rw [if_neg (by omega : j ≠ 0)] at this
  exact this
end Go.Proofs.YtadichckbogcjaaDoor
