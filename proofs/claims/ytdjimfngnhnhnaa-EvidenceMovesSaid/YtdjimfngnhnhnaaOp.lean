/- Opening arguments that are structs of integers, by value. -/
import Derived.Test.YtdjimfngnhnhnaaCm
import Derived.ProofKit
import Derived.OpenShut
import Derived.Lib.SmallJoins
import Derived.Deep.Slices
import Derived.Deep.Fields
set_option linter.all false
namespace Go.Proofs.Ytdjimfngnhnhnaa
open Go.ChangeShapes Go.WideShapes Go.ChangeAt Go.RowKit Go.Joins Go.Deep

theorem own : ownKnob Try.prog.godebug = none := by kernel_rfl
theorem laidOut : laidOutB Try.prog = true := by kernel_rfl

def theInt : Value → Int
  | .int _ a => a
  | _ => 0

theorem ints1 {l : List Int} (h : l.length = 1) : ∃ a0 : Int, l = [a0] := by
  match l, h with
  | [a0], _ => exact ⟨a0, rfl⟩
theorem ints2 {l : List Int} (h : l.length = 2) : ∃ a0 a1 : Int, l = [a0, a1] := by
  match l, h with
  | [a0, a1], _ => exact ⟨a0, a1, rfl⟩
theorem ints3 {l : List Int} (h : l.length = 3) : ∃ a0 a1 a2 : Int, l = [a0, a1, a2] := by
  match l, h with
  | [a0, a1, a2], _ => exact ⟨a0, a1, a2, rfl⟩
theorem ints4 {l : List Int} (h : l.length = 4) : ∃ a0 a1 a2 a3 : Int, l = [a0, a1, a2, a3] := by
  match l, h with
  | [a0, a1, a2, a3], _ => exact ⟨a0, a1, a2, a3, rfl⟩
theorem ints5 {l : List Int} (h : l.length = 5) : ∃ a0 a1 a2 a3 a4 : Int, l = [a0, a1, a2, a3, a4] := by
  match l, h with
  | [a0, a1, a2, a3, a4], _ => exact ⟨a0, a1, a2, a3, a4, rfl⟩
theorem ints6 {l : List Int} (h : l.length = 6) : ∃ a0 a1 a2 a3 a4 a5 : Int, l = [a0, a1, a2, a3, a4, a5] := by
  match l, h with
  | [a0, a1, a2, a3, a4, a5], _ => exact ⟨a0, a1, a2, a3, a4, a5, rfl⟩
section
variable {H : Type} {enc : TypeId × Value → H} {P : Program} {w : World} {base : Nat} {spare : Nat → Bool} {held : Bool}
theorem ints_of_cells : ∀ (cs : List Value), (∀ j, j < cs.length → ∃ a : Int, cs[j]? = some (.int .i64 a)) → cs = (cs.map theInt).map (Value.int .i64)
  | [], _ => rfl
  | c :: cs, h => by
    obtain ⟨a, ha⟩ := h 0 (by simp)
    simp at ha
    subst ha
    have ih := ints_of_cells cs fun j hj => by simpa using h (j + 1) (by simpa using hj)
    simp only [List.map_cons, theInt]
    rw [← ih]

theorem open_aggI {r : Reach} {b0 : Nat} {t : TypeId} {fs : Array Field} {v : Value} {d : DataW H} {p : List MemPlace} (hs : P.underlying t = some (.struct fs)) (hone : oneCellFields P fs = true) {ti : TypeId} (hti : P.underlying ti = some (.int .i64)) (hall : (fs.all fun f => f.type == ti) = true) (hC : P.cellsOf t = fs.size)
    (hv : Value.okWide P w r b0 t v) (h : DataW.Trod enc P w base spare held t v d p) : ∃ l : List Int, l.length = fs.size ∧ v = .agg (l.map (Value.int .i64)).toArray := by
  obtain ⟨cs, rfl, hsz⟩ := okWide_struct hs hv
  obtain ⟨cs⟩ := cs
  have hlen : cs.length = fs.size := by simpa [hC] using hsz
  obtain ⟨fuel, hf⟩ := h
  obtain ⟨xs, n, _, hx, _, hxl, hg⟩ := DataW.trod_struct hs hf
  have hcells : ∀ j, j < cs.length → ∃ a : Int, cs[j]? = some (.int .i64 a) := by
    intro j hj
    have hjf : j < fs.size := by omega
    obtain ⟨o, k⟩ := hone_of hone j fs[j] (Array.getElem?_eq_getElem hjf)
    have h1 := hg j fs[j] (Array.getElem?_eq_getElem hjf)
    have hty : fs[j].type = ti := by
      have := Array.all_eq_true.1 hall j hjf
      simpa using this
    have hys : xs[j]? = some (xs[j]'(by omega)) := List.getElem?_eq_getElem (by omega)
    rw [o, k, hys, hty] at h1
    have hone' : (cs.drop j).take 1 = [cs[j]] := by
      rw [List.drop_eq_getElem_cons hj]; rfl
    simp only [Value.cells] at h1
    rw [hone'] at h1
    obtain ⟨a, ha, _, _⟩ := DataW.trod_int hti h1
    simp at ha
    exact ⟨a, by rw [List.getElem?_eq_getElem hj, ha]⟩
  exact ⟨cs.map theInt, by simpa using hlen, by rw [← ints_of_cells cs hcells]⟩
end
end Go.Proofs.Ytdjimfngnhnhnaa
