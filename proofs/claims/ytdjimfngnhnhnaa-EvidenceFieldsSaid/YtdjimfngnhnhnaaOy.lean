/- Opening an argument that is a struct of four integers and a slice. -/
import Derived.Test.YtdjimfngnhnhnaaOp
set_option linter.all false
namespace Go.Proofs.Ytdjimfngnhnhnaa
open Go.ChangeShapes Go.WideShapes Go.ChangeAt Go.RowKit Go.Joins Go.Deep

section
variable {H : Type} {enc : TypeId × Value → H} {P : Program} {w : World} {base : Nat} {spare : Nat → Bool} {held : Bool}
theorem open_fld {r : Reach} {b0 : Nat} {t : TypeId} {fs : Array Field} {v : Value} {d : DataW H} {p : List MemPlace} (hs : P.underlying t = some (.struct fs)) (hone : oneCellFields P fs = true) {ti ts te : TypeId} (hti : P.underlying ti = some (.int .i64)) (hts : P.underlying ts = some (.slice te))
    (hall : (fs.map fun f => f.type) = #[ti, ti, ti, ti, ts]) (hC : P.cellsOf t = 5)
    (hv : Value.okWide P w r b0 t v) (h : DataW.Trod enc P w base spare held t v d p) : ∃ (x y ww hh : Int) (A : Option Addr) (n c : Nat), v = .agg #[.int .i64 x, .int .i64 y, .int .i64 ww, .int .i64 hh, .slice A n c] ∧ n ≤ c ∧ c ≤ maxLen := by
  obtain ⟨cs, rfl, hsz⟩ := okWide_struct hs hv
  obtain ⟨cs⟩ := cs
  have hlen : cs.length = 5 := by simpa [hC] using hsz
  have hfs : fs.size = 5 := by
    have := congrArg Array.size hall
    simpa using this
  obtain ⟨fuel, hf⟩ := h
  obtain ⟨xs, n, _, hx, _, hxl, hg⟩ := DataW.trod_struct hs hf
  have hcell : ∀ j (hj : j < 5), ∃ y f, fs[j]? = some f ∧ DataW.trod enc P w base spare held n f.type [cs[j]'(by omega)] = some y := by
    intro j hj
    have hjf : j < fs.size := by omega
    obtain ⟨o, k⟩ := hone_of hone j fs[j] (Array.getElem?_eq_getElem hjf)
    have h1 := hg j fs[j] (Array.getElem?_eq_getElem hjf)
    have hys : xs[j]? = some (xs[j]'(by omega)) := List.getElem?_eq_getElem (by omega)
    rw [o, k, hys] at h1
    have hone' : (cs.drop j).take 1 = [cs[j]'(by omega)] := by
      rw [List.drop_eq_getElem_cons (by omega)]; rfl
    simp only [Value.cells] at h1
    rw [hone'] at h1
    exact ⟨_, fs[j], Array.getElem?_eq_getElem hjf, h1⟩
  have hty : ∀ (j : Nat) (f : Field), fs[j]? = some f → (#[ti, ti, ti, ti, ts] : Array TypeId)[j]? = some f.type := by
    intro j f hjf
    rw [← hall, Array.getElem?_map, hjf]
    rfl
  have hint : ∀ j (hj : j < 4), ∃ a : Int, cs[j]'(by omega) = .int .i64 a := by
    intro j hj
    obtain ⟨y, f, hjf, h1⟩ := hcell j (by omega)
    have ht := hty j f hjf
    have : f.type = ti := by
      rcases (by omega : j = 0 ∨ j = 1 ∨ j = 2 ∨ j = 3) with rfl | rfl | rfl | rfl <;> simpa using ht.symm
    rw [this] at h1
    obtain ⟨a, ha, _, _⟩ := DataW.trod_int hti h1
    simp at ha
    exact ⟨a, ha⟩
  obtain ⟨y, f, hjf, h1⟩ := hcell 4 (by omega)
  have ht := hty 4 f hjf
  have htt : f.type = ts := by simpa using ht.symm
  rw [htt] at h1
  obtain ⟨x, h0⟩ := hint 0 (by omega)
  obtain ⟨y2, hy⟩ := hint 1 (by omega)
  obtain ⟨w2, hw⟩ := hint 2 (by omega)
  obtain ⟨h2, hh⟩ := hint 3 (by omega)
  have hcs : cs = [.int .i64 x, .int .i64 y2, .int .i64 w2, .int .i64 h2, cs[4]'(by omega)] := by
    refine List.ext_getElem (by simp [hlen]) fun j h3 h4 => ?_
    rcases (by omega : j = 0 ∨ j = 1 ∨ j = 2 ∨ j = 3 ∨ j = 4) with rfl | rfl | rfl | rfl | rfl
    · exact h0
    · exact hy
    · exact hw
    · exact hh
    · rfl
  rcases open_slice hts h1 with h5 | ⟨a, len, cap, m, k, D, Pl, hc4, hb, hl, hm, hmm, hx2, hi⟩
  · have h6 : cs[4]'(by omega) = .slice none 0 0 := by simpa using h5.1
    rw [h6] at hcs
    exact ⟨x, y2, w2, h2, none, 0, 0, by rw [hcs], Nat.le_refl _, by simp [maxLen]⟩
  · have h6 : cs[4]'(by omega) = .slice (some a) len cap := by simpa using hc4
    rw [h6] at hcs
    exact ⟨x, y2, w2, h2, some a, len, cap, by rw [hcs], hl, hm⟩
end
end Go.Proofs.Ytdjimfngnhnhnaa
