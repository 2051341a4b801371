/- Small things for loops over lists. -/
import Derived.Test.YtadichckbogcjaaDoorTy
import Derived.Test.YtadichckbogcjaaDoorEnE
set_option linter.all false
namespace Go.Proofs.YtadichckbogcjaaDoor.En
open Go.RowKit
set_option maxRecDepth 100000

theorem take_next {α : Type} {xs ys : List α} {k : Nat} {d : α} (h1 : k < xs.length) (h2 : k < ys.length) (h : xs.take k = ys.take k) (he : xs.getD k d = ys.getD k d) : xs.take (k + 1) = ys.take (k + 1) := by
  rw [List.take_succ_eq_append_getElem h1, List.take_succ_eq_append_getElem h2, h]
  simp [h1, h2] at he
  rw [he]
theorem I_eq {a b : Int} (h : a = b) : I a = I b := by rw [h]
def encI (x : Int) : Value := .int .i64 x
/-- what was there, and some more blocks -/
theorem grow_of_below {w w' : World} (hb : Below w.heap.size w w') (hd : w.drawn ≤ w'.drawn) : ∃ q os', w' = { w.drewN q with heap := (w.drewN q).heap ++ os' } := by
  refine ⟨w'.drawn - w.drawn, w'.heap.extract w.heap.size w'.heap.size, ?_⟩
  have h1 : w'.heap = w.heap ++ w'.heap.extract w.heap.size w'.heap.size := by
    apply Array.ext_getElem?
    intro i
    rw [Array.getElem?_append]
    by_cases hi : i < w.heap.size
    · rw [if_pos hi, hb.block i hi]
    · rw [if_neg hi, Array.getElem?_extract]
      have := hb.size
      by_cases h2 : i < w'.heap.size
      · rw [if_pos (by omega)]
        congr 1
        omega
      · rw [if_neg (by omega), Array.getElem?_eq_none (by omega)]
  obtain ⟨h, t, d, o, u⟩ := w'
  obtain ⟨h', t', d', o', u'⟩ := w
  have := hb.os
  have := hb.tape
  have := hb.output
  simp only at *
  subst_vars
  simp only [World.drewN]
  rw [← h1, show d' + (d - d') = d by omega]
end Go.Proofs.YtadichckbogcjaaDoor.En
