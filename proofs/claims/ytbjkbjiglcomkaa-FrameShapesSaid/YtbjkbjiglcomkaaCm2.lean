/- More small lemmas: a region that draws its order, whose head only reads and calls quietly. -/
import Derived.Test.YtbjkbjiglcomkaaCm
set_option linter.all false
namespace Go.Proofs.Ytbjkbjiglcomkaa
open Go.RowKit

theorem still_tail {P : Program} {id : Nat} {Q : Exit → Act → World → Prop} {a : Act} {w : World} {l : List Oper} (n : Nat) (hm : P.follows .mixedOrders = true) (hB : Region.lexTailB .any l.toArray n = true)
    (h : wpStill P l.toArray w.drew (fun a' => wpList P l.toArray Q (l.drop n) a' w.drew) (l.take n) a) : (Code.region id l.toArray true).wp P Q a w := wp_region_still_tail n hm hB h
theorem still_all {P : Program} {id : Nat} {Q : Exit → Act → World → Prop} {a : Act} {w : World} {l : List Oper} (hm : P.follows .mixedOrders = true) (hB : Region.lexB .any l.toArray = true)
    (h : wpStill P l.toArray w.drew (fun a' => Q .normal a' w.drew) l a) : (Code.region id l.toArray true).wp P Q a w := wp_region_still_lit hm hB h

/-- the world behind a name: what holds of it is said by I -/
theorem abs_world {P : Program} {c : Code} {Q : Exit → Act → World → Prop} {a : Act} {w : World} (I : World → Prop) (h1 : I w) (h2 : ∀ W, I W → c.wp P Q a W) : c.wp P Q a w := h2 w h1

end Go.Proofs.Ytbjkbjiglcomkaa
