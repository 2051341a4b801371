/-
  No cell of these rows narrows 'for every input' (looked for: loops, veiled, ifaces, maps, wideKeys, modest, calm, conditions, laid).
  DERIVED. THE GIVEN ROWS OF THIS SEAT. 9 by the template 'for every input the law returns true; each argument reads behind the call as it read before'; 0 by the template 'total and deterministic' (their statements: YtkacggfadalbiaaTotals.lean).
  GIVEN WITH THE SEED: the statements are not yours to turn. If you find one false, say at which input.
  Laid BY PROGRAM, IN A SANDBOX (cutbox-rows.mjs): the forced cells as the released guide's own fill.sh prints them over the translation b2e723b7820f8d8d… (all of the seat's roots in one cut). By AI agents, Wed Nov 11 2026. No macro, syntax, notation, axiom, sorry.
-/
import Derived.Test.YtkacggfadalbiaaChecked
import GoSem.Claim
import GoSem.ClaimJoined
import GoSem.ClaimMapViews
import Derived.JoinedTies
import Derived.KernelRfl
namespace Go.Proofs.Ytkacggfadalbiaa
/- THE CELL 'sum', in the pinned program and in every row, IS THE sha256 OF THE DUMP (.gsa) THAT YtkacggfadalbiaaProg.lean LOADS. Nothing in Lean hashes anything: it is a label: what it is worth is what the hold of that sum in a sandbox is worth. -/
noncomputable def Try.pinned : Pinned := { name := "ytkacggfadalbiaa", sum := "b2e723b7820f8d8deaa6c78a9c49a1e7ed28d1fd44fc9ea1894da41e87a4aad0", checked := Try.checked }
namespace Rows
def none {H : Type} : Left H := { results := [], args := [] }

/-- 'wayfinderlaw33.FrameSquares': WHATEVER THE INPUT: true; the input reads as it did. -/
def frameSquaresSpec : ChangeSpec := { name := "frameSquares", fn := fun _ => fun
  | [d1, d2, d3] => { results := [.lit (.bool true)], args := [d1, d2, d3] }
  | _ => none }
def frameSquaresRow : OpenClaim := { program := "ytkacggfadalbiaa", sum := "b2e723b7820f8d8deaa6c78a9c49a1e7ed28d1fd44fc9ea1894da41e87a4aad0", func := "wayfinder/wayfinderlaw33.FrameSquares", spec := "frameSquares", apart := false }
def FrameSquaresSaid : Prop := frameSquaresRow.holds Try.pinned (OpenSpec.ofChange frameSquaresSpec)

/-- ITS FALSE NEIGHBOUR: 'it returns false'. Refute it at one input. -/
def frameSquaresWrong : ChangeSpec := { name := "frameSquares", fn := fun _ => fun
  | [d1, d2, d3] => { results := [.lit (.bool false)], args := [d1, d2, d3] }
  | _ => none }
def FrameSquaresWrongFalsely : Prop := frameSquaresRow.holds Try.pinned (OpenSpec.ofChange frameSquaresWrong)

/-- 'wayfinderlaw33.FrameGroup': WHATEVER THE INPUT: true; the input reads as it did. -/
def frameGroupSpec : ChangeSpec := { name := "frameGroup", fn := fun _ => fun
  | [d1, d2, d3] => { results := [.lit (.bool true)], args := [d1, d2, d3] }
  | _ => none }
def frameGroupRow : OpenClaim := { program := "ytkacggfadalbiaa", sum := "b2e723b7820f8d8deaa6c78a9c49a1e7ed28d1fd44fc9ea1894da41e87a4aad0", func := "wayfinder/wayfinderlaw33.FrameGroup", spec := "frameGroup", apart := false }
def FrameGroupSaid : Prop := frameGroupRow.holds Try.pinned (OpenSpec.ofChange frameGroupSpec)

/-- ITS FALSE NEIGHBOUR: 'it returns false'. Refute it at one input. -/
def frameGroupWrong : ChangeSpec := { name := "frameGroup", fn := fun _ => fun
  | [d1, d2, d3] => { results := [.lit (.bool false)], args := [d1, d2, d3] }
  | _ => none }
def FrameGroupWrongFalsely : Prop := frameGroupRow.holds Try.pinned (OpenSpec.ofChange frameGroupWrong)

/-- 'wayfinderlaw33.FrameAnswers': WHATEVER THE INPUT: true; the input reads as it did. -/
def frameAnswersSpec : ChangeSpec := { name := "frameAnswers", fn := fun _ => fun
  | [d1, d2, d3] => { results := [.lit (.bool true)], args := [d1, d2, d3] }
  | _ => none }
def frameAnswersRow : OpenClaim := { program := "ytkacggfadalbiaa", sum := "b2e723b7820f8d8deaa6c78a9c49a1e7ed28d1fd44fc9ea1894da41e87a4aad0", func := "wayfinder/wayfinderlaw33.FrameAnswers", spec := "frameAnswers", apart := false }
def FrameAnswersSaid : Prop := frameAnswersRow.holds Try.pinned (OpenSpec.ofChange frameAnswersSpec)

/-- ITS FALSE NEIGHBOUR: 'it returns false'. Refute it at one input. -/
def frameAnswersWrong : ChangeSpec := { name := "frameAnswers", fn := fun _ => fun
  | [d1, d2, d3] => { results := [.lit (.bool false)], args := [d1, d2, d3] }
  | _ => none }
def FrameAnswersWrongFalsely : Prop := frameAnswersRow.holds Try.pinned (OpenSpec.ofChange frameAnswersWrong)

/-- 'wayfinderlaw33.FrameActs': WHATEVER THE INPUT: true; the input reads as it did. -/
def frameActsSpec : ChangeSpec := { name := "frameActs", fn := fun _ => fun
  | [d1, d2, d3] => { results := [.lit (.bool true)], args := [d1, d2, d3] }
  | _ => none }
def frameActsRow : OpenClaim := { program := "ytkacggfadalbiaa", sum := "b2e723b7820f8d8deaa6c78a9c49a1e7ed28d1fd44fc9ea1894da41e87a4aad0", func := "wayfinder/wayfinderlaw33.FrameActs", spec := "frameActs", apart := false }
def FrameActsSaid : Prop := frameActsRow.holds Try.pinned (OpenSpec.ofChange frameActsSpec)

/-- ITS FALSE NEIGHBOUR: 'it returns false'. Refute it at one input. -/
def frameActsWrong : ChangeSpec := { name := "frameActs", fn := fun _ => fun
  | [d1, d2, d3] => { results := [.lit (.bool false)], args := [d1, d2, d3] }
  | _ => none }
def FrameActsWrongFalsely : Prop := frameActsRow.holds Try.pinned (OpenSpec.ofChange frameActsWrong)

/-- 'wayfinderlaw33.FrameRelations': WHATEVER THE INPUT: true; the input reads as it did. -/
def frameRelationsSpec : ChangeSpec := { name := "frameRelations", fn := fun _ => fun
  | [d] => { results := [.lit (.bool true)], args := [d] }
  | _ => none }
def frameRelationsRow : OpenClaim := { program := "ytkacggfadalbiaa", sum := "b2e723b7820f8d8deaa6c78a9c49a1e7ed28d1fd44fc9ea1894da41e87a4aad0", func := "wayfinder/wayfinderlaw33.FrameRelations", spec := "frameRelations", apart := false }
def FrameRelationsSaid : Prop := frameRelationsRow.holds Try.pinned (OpenSpec.ofChange frameRelationsSpec)

/-- ITS FALSE NEIGHBOUR: 'it returns false'. Refute it at one input. -/
def frameRelationsWrong : ChangeSpec := { name := "frameRelations", fn := fun _ => fun
  | [d] => { results := [.lit (.bool false)], args := [d] }
  | _ => none }
def FrameRelationsWrongFalsely : Prop := frameRelationsRow.holds Try.pinned (OpenSpec.ofChange frameRelationsWrong)

/-- 'wayfinderlaw33.FrameOrder': WHATEVER THE INPUT: true; the input reads as it did. -/
def frameOrderSpec : ChangeSpec := { name := "frameOrder", fn := fun _ => fun
  | [d1, d2, d3] => { results := [.lit (.bool true)], args := [d1, d2, d3] }
  | _ => none }
def frameOrderRow : OpenClaim := { program := "ytkacggfadalbiaa", sum := "b2e723b7820f8d8deaa6c78a9c49a1e7ed28d1fd44fc9ea1894da41e87a4aad0", func := "wayfinder/wayfinderlaw33.FrameOrder", spec := "frameOrder", apart := false }
def FrameOrderSaid : Prop := frameOrderRow.holds Try.pinned (OpenSpec.ofChange frameOrderSpec)

/-- ITS FALSE NEIGHBOUR: 'it returns false'. Refute it at one input. -/
def frameOrderWrong : ChangeSpec := { name := "frameOrder", fn := fun _ => fun
  | [d1, d2, d3] => { results := [.lit (.bool false)], args := [d1, d2, d3] }
  | _ => none }
def FrameOrderWrongFalsely : Prop := frameOrderRow.holds Try.pinned (OpenSpec.ofChange frameOrderWrong)

/-- 'wayfinderlaw33.FrameLoops': WHATEVER THE INPUT: true; the input reads as it did. -/
def frameLoopsSpec : ChangeSpec := { name := "frameLoops", fn := fun _ => fun
  | [d1, d2, d3] => { results := [.lit (.bool true)], args := [d1, d2, d3] }
  | _ => none }
def frameLoopsRow : OpenClaim := { program := "ytkacggfadalbiaa", sum := "b2e723b7820f8d8deaa6c78a9c49a1e7ed28d1fd44fc9ea1894da41e87a4aad0", func := "wayfinder/wayfinderlaw33.FrameLoops", spec := "frameLoops", apart := false }
def FrameLoopsSaid : Prop := frameLoopsRow.holds Try.pinned (OpenSpec.ofChange frameLoopsSpec)

/-- ITS FALSE NEIGHBOUR: 'it returns false'. Refute it at one input. -/
def frameLoopsWrong : ChangeSpec := { name := "frameLoops", fn := fun _ => fun
  | [d1, d2, d3] => { results := [.lit (.bool false)], args := [d1, d2, d3] }
  | _ => none }
def FrameLoopsWrongFalsely : Prop := frameLoopsRow.holds Try.pinned (OpenSpec.ofChange frameLoopsWrong)

/-- 'wayfinderlaw33.FrameTurns': WHATEVER THE INPUT: true; the input reads as it did. -/
def frameTurnsSpec : ChangeSpec := { name := "frameTurns", fn := fun _ => fun
  | [d1, d2] => { results := [.lit (.bool true)], args := [d1, d2] }
  | _ => none }
def frameTurnsRow : OpenClaim := { program := "ytkacggfadalbiaa", sum := "b2e723b7820f8d8deaa6c78a9c49a1e7ed28d1fd44fc9ea1894da41e87a4aad0", func := "wayfinder/wayfinderlaw33.FrameTurns", spec := "frameTurns", apart := false }
def FrameTurnsSaid : Prop := frameTurnsRow.holds Try.pinned (OpenSpec.ofChange frameTurnsSpec)

/-- ITS FALSE NEIGHBOUR: 'it returns false'. Refute it at one input. -/
def frameTurnsWrong : ChangeSpec := { name := "frameTurns", fn := fun _ => fun
  | [d1, d2] => { results := [.lit (.bool false)], args := [d1, d2] }
  | _ => none }
def FrameTurnsWrongFalsely : Prop := frameTurnsRow.holds Try.pinned (OpenSpec.ofChange frameTurnsWrong)

/-- 'wayfinderlaw33.FrameBoxes': WHATEVER THE INPUT: true; the input reads as it did. -/
def frameBoxesSpec : ChangeSpec := { name := "frameBoxes", fn := fun _ => fun
  | [d1, d2, d3] => { results := [.lit (.bool true)], args := [d1, d2, d3] }
  | _ => none }
def frameBoxesRow : OpenClaim := { program := "ytkacggfadalbiaa", sum := "b2e723b7820f8d8deaa6c78a9c49a1e7ed28d1fd44fc9ea1894da41e87a4aad0", func := "wayfinder/wayfinderlaw33.FrameBoxes", spec := "frameBoxes", unfollowed := true, recurses := true, apart := false }
def FrameBoxesSaid : Prop := frameBoxesRow.holds Try.pinned (OpenSpec.ofChange frameBoxesSpec)

/-- ITS FALSE NEIGHBOUR: 'it returns false'. Refute it at one input. -/
def frameBoxesWrong : ChangeSpec := { name := "frameBoxes", fn := fun _ => fun
  | [d1, d2, d3] => { results := [.lit (.bool false)], args := [d1, d2, d3] }
  | _ => none }
def FrameBoxesWrongFalsely : Prop := frameBoxesRow.holds Try.pinned (OpenSpec.ofChange frameBoxesWrong)

/- THE SECOND FORM. 'bulk': how many values and letters a reading holds, each counted each time it is reached (what is shared counts as often as it is met; a slice's spare places count too). A statement '..UptoSaid' is the law's where the arguments, and the package variables that the reading takes, are together of bulk at most 1048576: NARROWER than '..Said'. Prove '..Said' where nothing that the law and all that it calls make is longer than what came in: it says more and counts as full. Else prove '..UptoSaid'. A law counts once. -/
mutual
def uptoBulk {H : Type} : DataW H → Nat
  | .lit (.string bytes) => bytes.length + 1
  | .lit _ => 1
  | .nil => 1
  | .ptr d => uptoBulk d + 1
  | .slice elems spare => uptoBulkAll elems + uptoBulkAll spare + 1
  | .agg parts => uptoBulkAll parts + 1
  | .iface _ d => uptoBulk d + 1
  | .map entries => uptoBulkEntries entries + 1
  | .held _ => 1
def uptoBulkAll {H : Type} : List (DataW H) → Nat
  | [] => 0
  | d :: r => uptoBulk d + uptoBulkAll r
def uptoBulkEntries {H : Type} : List (Lit × DataW H) → Nat
  | [] => 0
  | x :: r => uptoBulkEntry x + uptoBulkEntries r
def uptoBulkEntry {H : Type} : Lit × DataW H → Nat
  | (.string bytes, d) => bytes.length + uptoBulk d + 1
  | (_, d) => uptoBulk d + 1
 end
def uptoSmall : (H : Type) → List (DataW H) → Bool := fun _ ds => decide (uptoBulkAll ds ≤ 1048576)
def OpenSpec.upto (s : _root_.Go.ChangeSpec) : _root_.Go.OpenSpec := { _root_.Go.OpenSpec.ofChange s with cond := some uptoSmall }

/-- 'wayfinderlaw33.FrameSquares', WHERE WHAT IT READS IS OF BULK AT MOST 1048576: true; the input reads as it did. -/
def frameSquaresUptoRow : OpenClaim := { program := "ytkacggfadalbiaa", sum := "b2e723b7820f8d8deaa6c78a9c49a1e7ed28d1fd44fc9ea1894da41e87a4aad0", func := "wayfinder/wayfinderlaw33.FrameSquares", spec := "frameSquares", apart := false, narrowed := true }
def FrameSquaresUptoSaid : Prop := frameSquaresUptoRow.holds Try.pinned (OpenSpec.upto frameSquaresSpec)

/-- 'wayfinderlaw33.FrameGroup', WHERE WHAT IT READS IS OF BULK AT MOST 1048576: true; the input reads as it did. -/
def frameGroupUptoRow : OpenClaim := { program := "ytkacggfadalbiaa", sum := "b2e723b7820f8d8deaa6c78a9c49a1e7ed28d1fd44fc9ea1894da41e87a4aad0", func := "wayfinder/wayfinderlaw33.FrameGroup", spec := "frameGroup", apart := false, narrowed := true }
def FrameGroupUptoSaid : Prop := frameGroupUptoRow.holds Try.pinned (OpenSpec.upto frameGroupSpec)

/-- 'wayfinderlaw33.FrameAnswers', WHERE WHAT IT READS IS OF BULK AT MOST 1048576: true; the input reads as it did. -/
def frameAnswersUptoRow : OpenClaim := { program := "ytkacggfadalbiaa", sum := "b2e723b7820f8d8deaa6c78a9c49a1e7ed28d1fd44fc9ea1894da41e87a4aad0", func := "wayfinder/wayfinderlaw33.FrameAnswers", spec := "frameAnswers", apart := false, narrowed := true }
def FrameAnswersUptoSaid : Prop := frameAnswersUptoRow.holds Try.pinned (OpenSpec.upto frameAnswersSpec)

/-- 'wayfinderlaw33.FrameActs', WHERE WHAT IT READS IS OF BULK AT MOST 1048576: true; the input reads as it did. -/
def frameActsUptoRow : OpenClaim := { program := "ytkacggfadalbiaa", sum := "b2e723b7820f8d8deaa6c78a9c49a1e7ed28d1fd44fc9ea1894da41e87a4aad0", func := "wayfinder/wayfinderlaw33.FrameActs", spec := "frameActs", apart := false, narrowed := true }
def FrameActsUptoSaid : Prop := frameActsUptoRow.holds Try.pinned (OpenSpec.upto frameActsSpec)

/-- 'wayfinderlaw33.FrameRelations', WHERE WHAT IT READS IS OF BULK AT MOST 1048576: true; the input reads as it did. -/
def frameRelationsUptoRow : OpenClaim := { program := "ytkacggfadalbiaa", sum := "b2e723b7820f8d8deaa6c78a9c49a1e7ed28d1fd44fc9ea1894da41e87a4aad0", func := "wayfinder/wayfinderlaw33.FrameRelations", spec := "frameRelations", apart := false, narrowed := true }
def FrameRelationsUptoSaid : Prop := frameRelationsUptoRow.holds Try.pinned (OpenSpec.upto frameRelationsSpec)

/-- 'wayfinderlaw33.FrameOrder', WHERE WHAT IT READS IS OF BULK AT MOST 1048576: true; the input reads as it did. -/
def frameOrderUptoRow : OpenClaim := { program := "ytkacggfadalbiaa", sum := "b2e723b7820f8d8deaa6c78a9c49a1e7ed28d1fd44fc9ea1894da41e87a4aad0", func := "wayfinder/wayfinderlaw33.FrameOrder", spec := "frameOrder", apart := false, narrowed := true }
def FrameOrderUptoSaid : Prop := frameOrderUptoRow.holds Try.pinned (OpenSpec.upto frameOrderSpec)

/-- 'wayfinderlaw33.FrameLoops', WHERE WHAT IT READS IS OF BULK AT MOST 1048576: true; the input reads as it did. -/
def frameLoopsUptoRow : OpenClaim := { program := "ytkacggfadalbiaa", sum := "b2e723b7820f8d8deaa6c78a9c49a1e7ed28d1fd44fc9ea1894da41e87a4aad0", func := "wayfinder/wayfinderlaw33.FrameLoops", spec := "frameLoops", apart := false, narrowed := true }
def FrameLoopsUptoSaid : Prop := frameLoopsUptoRow.holds Try.pinned (OpenSpec.upto frameLoopsSpec)

/-- 'wayfinderlaw33.FrameTurns', WHERE WHAT IT READS IS OF BULK AT MOST 1048576: true; the input reads as it did. -/
def frameTurnsUptoRow : OpenClaim := { program := "ytkacggfadalbiaa", sum := "b2e723b7820f8d8deaa6c78a9c49a1e7ed28d1fd44fc9ea1894da41e87a4aad0", func := "wayfinder/wayfinderlaw33.FrameTurns", spec := "frameTurns", apart := false, narrowed := true }
def FrameTurnsUptoSaid : Prop := frameTurnsUptoRow.holds Try.pinned (OpenSpec.upto frameTurnsSpec)

/-- 'wayfinderlaw33.FrameBoxes', WHERE WHAT IT READS IS OF BULK AT MOST 1048576: true; the input reads as it did. -/
def frameBoxesUptoRow : OpenClaim := { program := "ytkacggfadalbiaa", sum := "b2e723b7820f8d8deaa6c78a9c49a1e7ed28d1fd44fc9ea1894da41e87a4aad0", func := "wayfinder/wayfinderlaw33.FrameBoxes", spec := "frameBoxes", unfollowed := true, recurses := true, apart := false, narrowed := true }
def FrameBoxesUptoSaid : Prop := frameBoxesUptoRow.holds Try.pinned (OpenSpec.upto frameBoxesSpec)

end Rows
end Go.Proofs.Ytkacggfadalbiaa
