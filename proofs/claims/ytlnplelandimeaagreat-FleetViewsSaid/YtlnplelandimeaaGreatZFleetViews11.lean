import Derived.Test.YtlnplelandimeaaGreatZFleetViews10
import Derived.Maps.RangeWalk
import Derived.Test.YtlnplelandimeaaGreatZFleetViews01
set_option linter.all false
section
namespace Go.Proofs.YtlnplelandimeaaGreat
open Go.RowKit Go.MapKept Go.WideElems
def R0 : Value → Option (DataW Unit × List MemPlace) := fun _ => some (.nil, [])
def Rng (P : Program) (k : TypeId) (w : World) (b r : Nat) (ks : List Int) (left : Int → Bool) (cnt : Nat) : Prop :=
 ∃ (n : Nat) (D : DataW Unit) (L : Lit→Bool),w.ranges P k R0 b r n D L cnt∧(∀ kl,L kl=true→∃ x∈ks,kl = .int .i64 x)∧∀ x,left x=L (.int .i64 x)
section
variable {P : Program} {w w' : World} {b r : Nat} {m : List (Int × Value)}
variable {ops : Array Oper} {rest : List Oper} {o : Oper} {a : Act} {Q : Exit → Act → World → Prop}
theorem Rng.keep {k : TypeId} {ks : List Int} {left : Int → Bool} {cnt : Nat} (h : Rng P k w b r ks left cnt) (h1 : w'.heap[b]? = w.heap[b]?) (h2 : w'.heap[r]? = w.heap[r]?) : Rng P k w' b r ks left cnt := by
 obtain ⟨n,D,L,⟨es,clock,since,seen,c0,x1,x2,x3,x4,x5,rest⟩,h3,h4⟩:=h
 exact ⟨n,D,L,⟨es,clock,since,seen,c0,h1.trans x1,x2,x3,x4,h2.trans x5,rest⟩,h3,h4⟩
end
end Go.Proofs.YtlnplelandimeaaGreat
end
section
namespace Go.Proofs.YtlnplelandimeaaGreat
open Go.RowKit
end Go.Proofs.YtlnplelandimeaaGreat
end
section
namespace Go.Proofs.YtlnplelandimeaaGreat
open Go.RowKit
def Bk (w : World) (g : Nat) (t : TypeId) (cs : Array Value) : Prop := w.heap[g]? = some (.cells cs t (0, 0))
section
variable {w w' : World} {g : Nat} {t : TypeId} {cs : Array Value}
theorem Bk.lt (h : Bk w g t cs) : g < w.heap.size := by
 rcases Nat.lt_or_ge g w.heap.size with hlt|hge
 ·exact hlt
 ·unfold Bk at h;rw [Array.getElem?_eq_none hge] at h;cases h
theorem Bk.cell (h : Bk w g t cs) (i : Nat) : w.cell? ⟨g, i, none⟩ = cs[i]? := cell_of_row w g i cs t (0, 0) h
theorem Bk.frozen (h : Bk w g t cs) : ∀ i, w.frozen? ⟨g, i, none⟩ = false := fun i => by
 unfold Bk at h
 simp [World.frozen?,h]
theorem Bk.new (w : World) (t : TypeId) (cs : Array Value) : Bk (w.alloc (.cells cs t)) w.heap.size t cs := heap_alloc_new w _
theorem Bk.drew (h : Bk w g t cs) : Bk w.drew g t cs := h
theorem Bk.drewN (h : Bk w g t cs) (n : Nat) : Bk (w.drewN n) g t cs := h
theorem Bk.alloc (h : Bk w g t cs) (o : Obj) : Bk (w.alloc o) g t cs := (Below.heap_alloc w o g h.lt).trans h
theorem Bk.far (h : Bk w g t cs) {p : Addr} (hp : g ≠ p.block) (u : Value) : Bk (w.setCell p u) g t cs := (Below.heap_setCell w p u g hp).trans h
theorem Bk.call (h : Bk w g t cs) (hb : Below w.heap.size w w') : Bk w' g t cs := (hb.block g h.lt).trans h
end
end Go.Proofs.YtlnplelandimeaaGreat
end
section
namespace Go.Proofs.YtlnplelandimeaaGreat
open Go.RowKit
theorem fromL_ok {rs : List Rel} {a : Int} (h0 : 0 ≤ a) (h1 : a < 8) (hok : ∀ r ∈ rs, RelOk r) : MOk (aj7 rs a) := by
 unfold aj7
 generalize 8=n
 have : ∀ (n : Nat) (m : List (Int × Fr)),MOk m→MOk (axf rs n m):=fun n=>by
  induction n with
  | zero=>intro m h;exact h
  | succ n ih=>intro m h;exact ih _ (bqz h hok)
 exact this n _ (MOk.start a h0 h1)
end Go.Proofs.YtlnplelandimeaaGreat
end
