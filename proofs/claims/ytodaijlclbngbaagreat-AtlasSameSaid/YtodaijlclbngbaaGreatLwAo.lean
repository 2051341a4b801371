/- The walk of AtlasOrders. -/
import Derived.Test.YtodaijlclbngbaaGreatAe
import Derived.Test.YtodaijlclbngbaaGreatBr
set_option linter.all false
namespace Go.Proofs.YtodaijlclbngbaaGreat.En
open Go.RowKit
set_option maxRecDepth 100000

/-- the calls of a list are readable -/
def opsW (w : World) (A : Option Addr) (n : Nat) (l : List AOp) : Prop := ArgSl w A n 8 (l.map encOp) ∧ ∀ o ∈ l, ArgSl w o.2.2.1.1 o.2.2.1.2.2.length 2 (o.2.2.1.2.2.map encBm) ∧ o.2.2.1.2.2.length ≤ maxLen
theorem opsW.of0 {C : Ctx} {ob : List OB} {A : Option Addr} {n : Nat} {l : List AOp} (h : opsW C.w0 A n l) (hM : C.M = fun _ => False) : ∀ σ fp w, Mem C σ fp ob w → opsN w (MOf 0 fun j => fp (([] : List Nat).getD j 0)) A n l :=
  fun σ fp w hm => ⟨ArgN.of0 (h.1.mem (by decide) hM σ fp w hm) _, fun o ho => ⟨ArgN.of0 ((h.2 o ho).1.mem (by decide) hM σ fp w hm) _, (h.2 o ho).2⟩⟩
theorem opsW.op {w : World} {A : Option Addr} {n : Nat} {l : List AOp} (h : opsW w A n l) {o : AOp} (ho : o ∈ l) : opN w (fun _ => False) o := ArgN.of (h.2 o ho).1 fun _ => id
theorem opsW.few {C : Ctx} {ob : List OB} {A : Option Addr} {n : Nat} {l : List AOp} (h : opsW C.w0 A n l) (hM : C.M = fun _ => False) : ∀ σ fp w, Mem C σ fp ob w → ArgSl w A n 8 (l.map encOp) ∧ ∀ o ∈ l, o.2.2.1.2.2.length ≤ maxLen :=
  fun σ fp w hm => ⟨h.1.mem (by decide) hM σ fp w hm, fun o ho => (h.2 o ho).2⟩
/-- a state that knows the greatest of some calls -/
abbrev KnI (S : OpT → Prop) := {r : StT // okS r.1 ∧ ∃ L, TopA L (absM r) ∧ ∀ o, o ∈ L ↔ S o}
theorem KnI.step {S S' : OpT → Prop} {r : StT} (h : okS r.1 ∧ ∃ L, TopA L (absM r) ∧ ∀ o, o ∈ L ↔ S o) {o : OpT} (r' : StI (stepA (absM r) o)) (hS : ∀ x, S' x ↔ S x ∨ x = o) : okS r'.1.1 ∧ ∃ L, TopA L (absM r'.1) ∧ ∀ x, x ∈ L ↔ S' x := by
  obtain ⟨_, L, h1, h2⟩ := h
  refine ⟨r'.2.1, L ++ [o], ?_, fun x => ?_⟩
  · rw [r'.2.2]
    exact h1.step o
  · rw [List.mem_append, List.mem_singleton, h2, hS]
end Go.Proofs.YtodaijlclbngbaaGreat.En
