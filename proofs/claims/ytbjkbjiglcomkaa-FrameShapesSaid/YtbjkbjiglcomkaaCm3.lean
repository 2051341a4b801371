/- A block of the call's own that is known whole. -/
import Derived.Test.YtbjkbjiglcomkaaCm2
set_option linter.all false
namespace Go.Proofs.Ytbjkbjiglcomkaa
open Go.RowKit

def Bk (w : World) (g : Nat) (t : TypeId) (cs : Array Value) : Prop := w.heap[g]? = some (.cells cs t (0, 0))
section
variable {w w' : World} {g : Nat} {t : TypeId} {cs : Array Value}
theorem Bk.lt (h : Bk w g t cs) : g < w.heap.size := by
  rcases Nat.lt_or_ge g w.heap.size with hlt | hge
  · exact hlt
  · unfold Bk at h; rw [Array.getElem?_eq_none hge] at h; cases h
theorem Bk.cell (h : Bk w g t cs) (i : Nat) : w.cell? ⟨g, i, none⟩ = cs[i]? := cell_of_row w g i cs t (0, 0) h
theorem Bk.frozen (h : Bk w g t cs) : ∀ i, w.frozen? ⟨g, i, none⟩ = false := fun i => by
  unfold Bk at h
  simp [World.frozen?, h]
theorem Bk.new (w : World) (t : TypeId) (cs : Array Value) : Bk (w.alloc (.cells cs t)) w.heap.size t cs := heap_alloc_new w _
theorem Bk.new1 (w : World) (o : Obj) (t : TypeId) (cs : Array Value) : Bk ((w.alloc o).alloc (.cells cs t)) (w.heap.size + 1) t cs := by
  have h := Bk.new (w.alloc o) t cs
  rwa [World.size_alloc] at h
theorem Bk.new2 (w : World) (o o' : Obj) (t : TypeId) (cs : Array Value) : Bk (((w.alloc o).alloc o').alloc (.cells cs t)) (w.heap.size + 1 + 1) t cs := by
  have h := Bk.new1 (w.alloc o) o' t cs
  rwa [World.size_alloc] at h
theorem Bk.new3 (w : World) (o o' o'' : Obj) (t : TypeId) (cs : Array Value) : Bk ((((w.alloc o).alloc o').alloc o'').alloc (.cells cs t)) (w.heap.size + 1 + 1 + 1) t cs := by
  have h := Bk.new2 (w.alloc o) o' o'' t cs
  rwa [World.size_alloc] at h
theorem Bk.drew (h : Bk w g t cs) : Bk w.drew g t cs := h
theorem Bk.drewN (h : Bk w g t cs) (n : Nat) : Bk (w.drewN n) g t cs := h
theorem Bk.alloc (h : Bk w g t cs) (o : Obj) : Bk (w.alloc o) g t cs := (Below.heap_alloc w o g h.lt).trans h
theorem Bk.set_ (h : Bk w g t cs) (i : Nat) (u : Value) : Bk (w.setCell ⟨g, i, none⟩ u) g t (cs.setIfInBounds i u) := by
  unfold Bk at h ⊢
  simp [World.setCell, Array.getElem?_modify, h]
theorem Bk.far (h : Bk w g t cs) {p : Addr} (hp : g ≠ p.block) (u : Value) : Bk (w.setCell p u) g t cs := (Below.heap_setCell w p u g hp).trans h
theorem Bk.far' {p : Addr} {u : Value} (hp : g ≠ p.block) (h : Bk w g t cs) : Bk (w.setCell p u) g t cs := h.far hp u
theorem Bk.call (h : Bk w g t cs) (hb : Below w.heap.size w w') : Bk w' g t cs := (hb.block g h.lt).trans h
theorem Bk.set2 {a b : Value} (h : Bk w g t #[a, b]) (x y : Value) : Bk ((w.setCell ⟨g, 0, none⟩ x).setCell ⟨g, 1, none⟩ y) g t #[x, y] := (h.set_ 0 x).set_ 1 y
theorem Bk.set3 {a b c : Value} (h : Bk w g t #[a, b, c]) (x y z : Value) : Bk (((w.setCell ⟨g, 0, none⟩ x).setCell ⟨g, 1, none⟩ y).setCell ⟨g, 2, none⟩ z) g t #[x, y, z] := ((h.set_ 0 x).set_ 1 y).set_ 2 z
theorem Bk.set6 {a b c d e f : Value} (h : Bk w g t #[a, b, c, d, e, f]) (x0 x1 x2 x3 x4 x5 : Value) : Bk ((((((w.setCell ⟨g, 0, none⟩ x0).setCell ⟨g, 1, none⟩ x1).setCell ⟨g, 2, none⟩ x2).setCell ⟨g, 3, none⟩ x3).setCell ⟨g, 4, none⟩ x4).setCell ⟨g, 5, none⟩ x5) g t #[x0, x1, x2, x3, x4, x5] :=
  (((((h.set_ 0 x0).set_ 1 x1).set_ 2 x2).set_ 3 x3).set_ 4 x4).set_ 5 x5
end
end Go.Proofs.Ytbjkbjiglcomkaa
