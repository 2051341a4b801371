/- Frames are a group: plain laws; and contracts of Compose, Inverse, Pose at frames that are not far. -/
import Derived.Test.YtkacggfadalbiaaFr5
import Derived.Test.YtkacggfadalbiaaRp
import Derived.Test.YtkacggfadalbiaaGr
set_option linter.all false
namespace Go.Proofs.Ytkacggfadalbiaa
open Go.RowKit

def FrOk (f : Fr) : Prop := 0 ≤ f.1 ∧ f.1 < 4

theorem turn4 {q : Int} (h0 : 0 ≤ q) (h1 : q < 4) : q = 0 ∨ q = 1 ∨ q = 2 ∨ q = 3 := by omega

theorem cmpF_assoc (f g h : Fr) (hf : FrOk f) (hg : FrOk g) : cmpF (cmpF f g) h = cmpF f (cmpF g h) := by
  obtain ⟨fq, fx, fy⟩ := f
  obtain ⟨gq, gx, gy⟩ := g
  obtain ⟨hq, hx, hy⟩ := h
  obtain ⟨f0, f1⟩ := hf
  obtain ⟨g0, g1⟩ := hg
  simp only at f0 f1 g0 g1
  rcases turn4 f0 f1 with rfl | rfl | rfl | rfl <;> rcases turn4 g0 g1 with rfl | rfl | rfl | rfl <;> simp [cmpF, tX, tY] <;> omega
theorem cmpF_zero (f : Fr) (hf : FrOk f) : cmpF f (0, 0, 0) = f := by
  obtain ⟨fq, fx, fy⟩ := f
  obtain ⟨f0, f1⟩ := hf
  simp only at f0 f1
  rcases turn4 f0 f1 with rfl | rfl | rfl | rfl <;> simp [cmpF, tX, tY]
theorem zero_cmpF (f : Fr) (hf : FrOk f) : cmpF (0, 0, 0) f = f := by
  obtain ⟨fq, fx, fy⟩ := f
  obtain ⟨f0, f1⟩ := hf
  simp only at f0 f1
  simp [cmpF, tX, tY]
  omega
theorem cmpF_inv (f : Fr) (hf : FrOk f) : cmpF f (invF f) = (0, 0, 0) := by
  obtain ⟨fq, fx, fy⟩ := f
  obtain ⟨f0, f1⟩ := hf
  simp only at f0 f1
  rcases turn4 f0 f1 with rfl | rfl | rfl | rfl <;> simp [cmpF, invF, tX, tY] <;> omega
theorem inv_cmpF (f : Fr) (hf : FrOk f) : cmpF (invF f) f = (0, 0, 0) := by
  obtain ⟨fq, fx, fy⟩ := f
  obtain ⟨f0, f1⟩ := hf
  simp only at f0 f1
  rcases turn4 f0 f1 with rfl | rfl | rfl | rfl <;> simp [cmpF, invF, tX, tY] <;> omega
theorem invF_ok (f : Fr) : FrOk (invF f) := by unfold FrOk invF; simp only; omega
theorem cmpF_ok (f g : Fr) : FrOk (cmpF f g) := by unfold FrOk cmpF; simp only; omega

def CmpPost (f g : Fr) (A : Int) (w : World) (e : Ending) (w' : World) : Prop :=
  ∃ q x y : Int, e = .returned (.tuple #[.agg #[.int .i64 q, .int .i64 x, .int .i64 y], .int .i64 0]) ∧ Hid ((q, x, y) = cmpF f g) ∧ (0 ≤ q ∧ q < 4 ∧ -A ≤ x ∧ x ≤ A ∧ -A ≤ y ∧ y ≤ A) ∧ Below w.heap.size w w'

theorem szB_in {n m : Int} (h1 : -m ≤ n) (h2 : n ≤ m) : szB n m = true := by simp [szB, h1, h2]

theorem Compose_ok (A B : Int) (fq fx fy gq gx gy : Int) (w : World) (h1 : -A ≤ fx) (h2 : fx ≤ A) (h3 : -A ≤ fy) (h4 : fy ≤ A) (h5 : -B ≤ gx) (h6 : gx ≤ B) (h7 : -B ≤ gy) (h8 : gy ≤ B) (hAB : A + B ≤ 8192) :
    Calls Try.prog 18 #[.agg #[.int .i64 fq, .int .i64 fx, .int .i64 fy], .agg #[.int .i64 gq, .int .i64 gx, .int .i64 gy]] w (CmpPost (fq, fx, fy) (gq, gx, gy) (A + B) w) := by
  have hb := cmpF_bd (fq, fx, fy) (gq, gx, gy) A B (by simp only; omega) (by simp only; omega)
  refine (Compose_any fq fx fy gq gx gy w).mono fun e w' ⟨he, hw⟩ => ⟨(cmpF (fq, fx, fy) (gq, gx, gy)).1, (cmpF (fq, fx, fy) (gq, gx, gy)).2.1, (cmpF (fq, fx, fy) (gq, gx, gy)).2.2, ?_, rfl, by omega, hw⟩
  rw [he]
  simp only [cmpF] at hb ⊢
  have e1 := szB_in (n := fx) (m := 8192) (by omega) (by omega)
  have e2 := szB_in (n := fy) (m := 8192) (by omega) (by omega)
  have e3 := szB_in (n := gx) (m := 8192) (by omega) (by omega)
  have e4 := szB_in (n := gy) (m := 8192) (by omega) (by omega)
  have e5 := szB_in (n := tX (fq % 4) gx gy + fx) (m := 8192) (by omega) (by omega)
  have e6 := szB_in (n := tY (fq % 4) gx gy + fy) (m := 8192) (by omega) (by omega)
  simp [CmpV, e1, e2, e3, e4, e5, e6]

def InvPost (f : Fr) (A : Int) (w : World) (e : Ending) (w' : World) : Prop :=
  ∃ q x y : Int, e = .returned (.tuple #[.agg #[.int .i64 q, .int .i64 x, .int .i64 y], .int .i64 0]) ∧ Hid ((q, x, y) = invF f) ∧ (0 ≤ q ∧ q < 4 ∧ -A ≤ x ∧ x ≤ A ∧ -A ≤ y ∧ y ≤ A) ∧ Below w.heap.size w w'
theorem Inverse_ok (A : Int) (fq fx fy : Int) (w : World) (h1 : -A ≤ fx) (h2 : fx ≤ A) (h3 : -A ≤ fy) (h4 : fy ≤ A) (hA : A ≤ 8192) :
    Calls Try.prog 19 #[.agg #[.int .i64 fq, .int .i64 fx, .int .i64 fy]] w (InvPost (fq, fx, fy) A w) := by
  have hb := invF_bd (fq, fx, fy) A (by simp only; omega)
  refine (Inverse_any fq fx fy w).mono fun e w' ⟨he, hw⟩ => ⟨(invF (fq, fx, fy)).1, (invF (fq, fx, fy)).2.1, (invF (fq, fx, fy)).2.2, ?_, rfl, by omega, hw⟩
  rw [he]
  have e1 := szB_in (n := fx) (m := 8192) (by omega) (by omega)
  have e2 := szB_in (n := fy) (m := 8192) (by omega) (by omega)
  simp [InvV, invF, e1, e2]

end Go.Proofs.Ytkacggfadalbiaa
