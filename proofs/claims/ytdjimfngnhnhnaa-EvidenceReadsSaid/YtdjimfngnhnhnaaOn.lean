/- Opening a struct of integers, however nested. -/
import Derived.Test.YtdjimfngnhnhnaaOs
set_option linter.all false
namespace Go.Proofs.Ytdjimfngnhnhnaa
open Go.ChangeShapes Go.WideShapes Go.ChangeAt Go.RowKit Go.Joins Go.Deep
section
variable {H : Type} {enc : TypeId × Value → H} {P : Program} {w : World} {base : Nat} {spare : Nat → Bool} {held : Bool}
theorem open_aggN {r : Reach} {b0 : Nat} {t : TypeId} {fs : Array Field} {v : Value} {d : DataW H} {p : List MemPlace} (n C : Nat) (hs : P.underlying t = some (.struct fs)) (hf : flatI P n t = true) (hC : P.cellsOf t = C)
    (hv : Value.okWide P w r b0 t v) (h : DataW.Trod enc P w base spare held t v d p) : ∃ l : List Int, l.length = C ∧ v = .agg (l.map (Value.int .i64)).toArray := by
  obtain ⟨cs, rfl, hsz⟩ := okWide_struct hs hv
  obtain ⟨cs⟩ := cs
  have hlen : cs.length = C := by simpa [hC] using hsz
  obtain ⟨fuel, hf'⟩ := h
  have hcells : ∀ j, j < cs.length → ∃ a : Int, cs[j]? = some (.int .i64 a) := fun j hj => by
    obtain ⟨a, ha, _⟩ := flat_cells n hf hf' j hj
    exact ⟨a, ha⟩
  exact ⟨cs.map theInt, by simpa using hlen, by rw [← ints_of_cells cs hcells]⟩
end
end Go.Proofs.Ytdjimfngnhnhnaa
