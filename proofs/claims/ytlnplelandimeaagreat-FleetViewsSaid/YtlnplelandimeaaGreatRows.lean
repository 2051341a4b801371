/-
  No cell of these rows narrows 'for every input' (looked for: loops, veiled, ifaces, maps, wideKeys, modest, calm, conditions, laid).
  DERIVED. THE GIVEN ROWS OF THIS SEAT. 8 by the template 'for every input the law returns true; each argument reads behind the call as it read before'; 0 by the template 'total and deterministic' (their statements: YtlnplelandimeaaGreatTotals.lean).
  GIVEN WITH THE SEED: the statements are not yours to turn. If you find one false, say at which input.
  Laid BY PROGRAM, IN A SANDBOX (cutbox-rows.mjs): the forced cells as the released guide's own fill.sh prints them over the translation abe2e0ca8caa9a74… (all of the seat's roots in one cut). By AI agents, Wed Nov 11 2026. No macro, syntax, notation, axiom, sorry.
-/
import Derived.Test.YtlnplelandimeaaGreatChecked
import GoSem.Claim
import GoSem.ClaimJoined
import GoSem.ClaimMapViews
import Derived.JoinedTies
import Derived.KernelRfl
namespace Go.Proofs.YtlnplelandimeaaGreat
/- THE CELL 'sum', in the pinned program and in every row, IS THE sha256 OF THE DUMP (.gsa) THAT YtlnplelandimeaaGreatProg.lean LOADS. Nothing in Lean hashes anything: it is a label: what it is worth is what the hold of that sum in a sandbox is worth. -/
noncomputable def Tryz.pinned : Pinned := { name := "ytlnplelandimeaagreat", sum := "abe2e0ca8caa9a74b1ee2fb84b562c804a9f3e0086683657b385e7b94e98d8e6", checked := Tryz.checked }
namespace Rows
def none {H : Type} : Left H := { results := [], args := [] }

/-- 'wayfinderlaw34.FleetViews': WHATEVER THE INPUT: true; the input reads as it did. -/
def fleetViewsSpec : ChangeSpec := { name := "fleetViews", fn := fun _ => fun
  | [d1, d2] => { results := [.lit (.bool true)], args := [d1, d2] }
  | _ => none }
def fleetViewsRow : OpenClaim := { program := "ytlnplelandimeaagreat", sum := "abe2e0ca8caa9a74b1ee2fb84b562c804a9f3e0086683657b385e7b94e98d8e6", func := "wayfinder/wayfinderlaw34.FleetViews", spec := "fleetViews", unfollowed := true, recurses := true, plainKeys := false, apart := false }
def FleetViewsSaid : Prop := fleetViewsRow.holds Tryz.pinned (OpenSpec.ofChange fleetViewsSpec)

/-- ITS FALSE NEIGHBOUR: 'it returns false'. Refute it at one input. -/
def fleetViewsWrong : ChangeSpec := { name := "fleetViews", fn := fun _ => fun
  | [d1, d2] => { results := [.lit (.bool false)], args := [d1, d2] }
  | _ => none }
def FleetViewsWrongFalsely : Prop := fleetViewsRow.holds Tryz.pinned (OpenSpec.ofChange fleetViewsWrong)

/-- 'wayfinderlaw34.FleetAligned': WHATEVER THE INPUT: true; the input reads as it did. -/
def fleetAlignedSpec : ChangeSpec := { name := "fleetAligned", fn := fun _ => fun
  | [d1, d2, d3] => { results := [.lit (.bool true)], args := [d1, d2, d3] }
  | _ => none }
def fleetAlignedRow : OpenClaim := { program := "ytlnplelandimeaagreat", sum := "abe2e0ca8caa9a74b1ee2fb84b562c804a9f3e0086683657b385e7b94e98d8e6", func := "wayfinder/wayfinderlaw34.FleetAligned", spec := "fleetAligned", unfollowed := true, recurses := true, plainKeys := false, apart := false }
def FleetAlignedSaid : Prop := fleetAlignedRow.holds Tryz.pinned (OpenSpec.ofChange fleetAlignedSpec)

/-- ITS FALSE NEIGHBOUR: 'it returns false'. Refute it at one input. -/
def fleetAlignedWrong : ChangeSpec := { name := "fleetAligned", fn := fun _ => fun
  | [d1, d2, d3] => { results := [.lit (.bool false)], args := [d1, d2, d3] }
  | _ => none }
def FleetAlignedWrongFalsely : Prop := fleetAlignedRow.holds Tryz.pinned (OpenSpec.ofChange fleetAlignedWrong)

/-- 'wayfinderlaw34.FleetFrames': WHATEVER THE INPUT: true; the input reads as it did. -/
def fleetFramesSpec : ChangeSpec := { name := "fleetFrames", fn := fun _ => fun
  | [d1, d2, d3] => { results := [.lit (.bool true)], args := [d1, d2, d3] }
  | _ => none }
def fleetFramesRow : OpenClaim := { program := "ytlnplelandimeaagreat", sum := "abe2e0ca8caa9a74b1ee2fb84b562c804a9f3e0086683657b385e7b94e98d8e6", func := "wayfinder/wayfinderlaw34.FleetFrames", spec := "fleetFrames", unfollowed := true, recurses := true, plainKeys := false, apart := false }
def FleetFramesSaid : Prop := fleetFramesRow.holds Tryz.pinned (OpenSpec.ofChange fleetFramesSpec)

/-- ITS FALSE NEIGHBOUR: 'it returns false'. Refute it at one input. -/
def fleetFramesWrong : ChangeSpec := { name := "fleetFrames", fn := fun _ => fun
  | [d1, d2, d3] => { results := [.lit (.bool false)], args := [d1, d2, d3] }
  | _ => none }
def FleetFramesWrongFalsely : Prop := fleetFramesRow.holds Tryz.pinned (OpenSpec.ofChange fleetFramesWrong)

/-- 'wayfinderlaw34.FleetMatchesReference': WHATEVER THE INPUT: true; the input reads as it did. -/
def fleetMatchesReferenceSpec : ChangeSpec := { name := "fleetMatchesReference", fn := fun _ => fun
  | [d] => { results := [.lit (.bool true)], args := [d] }
  | _ => none }
def fleetMatchesReferenceRow : OpenClaim := { program := "ytlnplelandimeaagreat", sum := "abe2e0ca8caa9a74b1ee2fb84b562c804a9f3e0086683657b385e7b94e98d8e6", func := "wayfinder/wayfinderlaw34.FleetMatchesReference", spec := "fleetMatchesReference", unfollowed := true, recurses := true, plainKeys := false, apart := false }
def FleetMatchesReferenceSaid : Prop := fleetMatchesReferenceRow.holds Tryz.pinned (OpenSpec.ofChange fleetMatchesReferenceSpec)

/-- ITS FALSE NEIGHBOUR: 'it returns false'. Refute it at one input. -/
def fleetMatchesReferenceWrong : ChangeSpec := { name := "fleetMatchesReference", fn := fun _ => fun
  | [d] => { results := [.lit (.bool false)], args := [d] }
  | _ => none }
def FleetMatchesReferenceWrongFalsely : Prop := fleetMatchesReferenceRow.holds Tryz.pinned (OpenSpec.ofChange fleetMatchesReferenceWrong)

/-- 'wayfinderlaw34.FleetHears': WHATEVER THE INPUT: true; the input reads as it did. -/
def fleetHearsSpec : ChangeSpec := { name := "fleetHears", fn := fun _ => fun
  | [d1, d2] => { results := [.lit (.bool true)], args := [d1, d2] }
  | _ => none }
def fleetHearsRow : OpenClaim := { program := "ytlnplelandimeaagreat", sum := "abe2e0ca8caa9a74b1ee2fb84b562c804a9f3e0086683657b385e7b94e98d8e6", func := "wayfinder/wayfinderlaw34.FleetHears", spec := "fleetHears", unfollowed := true, recurses := true, plainKeys := false, apart := false }
def FleetHearsSaid : Prop := fleetHearsRow.holds Tryz.pinned (OpenSpec.ofChange fleetHearsSpec)

/-- ITS FALSE NEIGHBOUR: 'it returns false'. Refute it at one input. -/
def fleetHearsWrong : ChangeSpec := { name := "fleetHears", fn := fun _ => fun
  | [d1, d2] => { results := [.lit (.bool false)], args := [d1, d2] }
  | _ => none }
def FleetHearsWrongFalsely : Prop := fleetHearsRow.holds Tryz.pinned (OpenSpec.ofChange fleetHearsWrong)

/-- 'wayfinderlaw34.FleetOrder': WHATEVER THE INPUT: true; the input reads as it did. -/
def fleetOrderSpec : ChangeSpec := { name := "fleetOrder", fn := fun _ => fun
  | [d] => { results := [.lit (.bool true)], args := [d] }
  | _ => none }
def fleetOrderRow : OpenClaim := { program := "ytlnplelandimeaagreat", sum := "abe2e0ca8caa9a74b1ee2fb84b562c804a9f3e0086683657b385e7b94e98d8e6", func := "wayfinder/wayfinderlaw34.FleetOrder", spec := "fleetOrder", unfollowed := true, recurses := true, plainKeys := false, apart := false }
def FleetOrderSaid : Prop := fleetOrderRow.holds Tryz.pinned (OpenSpec.ofChange fleetOrderSpec)

/-- ITS FALSE NEIGHBOUR: 'it returns false'. Refute it at one input. -/
def fleetOrderWrong : ChangeSpec := { name := "fleetOrder", fn := fun _ => fun
  | [d] => { results := [.lit (.bool false)], args := [d] }
  | _ => none }
def FleetOrderWrongFalsely : Prop := fleetOrderRow.holds Tryz.pinned (OpenSpec.ofChange fleetOrderWrong)

/-- 'wayfinderlaw34.FleetClones': WHATEVER THE INPUT: true; the input reads as it did. -/
def fleetClonesSpec : ChangeSpec := { name := "fleetClones", fn := fun _ => fun
  | [d1, d2] => { results := [.lit (.bool true)], args := [d1, d2] }
  | _ => none }
def fleetClonesRow : OpenClaim := { program := "ytlnplelandimeaagreat", sum := "abe2e0ca8caa9a74b1ee2fb84b562c804a9f3e0086683657b385e7b94e98d8e6", func := "wayfinder/wayfinderlaw34.FleetClones", spec := "fleetClones", unfollowed := true, recurses := true, plainKeys := false, apart := false }
def FleetClonesSaid : Prop := fleetClonesRow.holds Tryz.pinned (OpenSpec.ofChange fleetClonesSpec)

/-- ITS FALSE NEIGHBOUR: 'it returns false'. Refute it at one input. -/
def fleetClonesWrong : ChangeSpec := { name := "fleetClones", fn := fun _ => fun
  | [d1, d2] => { results := [.lit (.bool false)], args := [d1, d2] }
  | _ => none }
def FleetClonesWrongFalsely : Prop := fleetClonesRow.holds Tryz.pinned (OpenSpec.ofChange fleetClonesWrong)

/-- 'wayfinderlaw34.FleetNew': WHATEVER THE INPUT: true; the input reads as it did. -/
def fleetNewSpec : ChangeSpec := { name := "fleetNew", fn := fun _ => fun
  | [d1, d2] => { results := [.lit (.bool true)], args := [d1, d2] }
  | _ => none }
def fleetNewRow : OpenClaim := { program := "ytlnplelandimeaagreat", sum := "abe2e0ca8caa9a74b1ee2fb84b562c804a9f3e0086683657b385e7b94e98d8e6", func := "wayfinder/wayfinderlaw34.FleetNew", spec := "fleetNew", unfollowed := true, recurses := true, plainKeys := false, apart := false }
def FleetNewSaid : Prop := fleetNewRow.holds Tryz.pinned (OpenSpec.ofChange fleetNewSpec)

/-- ITS FALSE NEIGHBOUR: 'it returns false'. Refute it at one input. -/
def fleetNewWrong : ChangeSpec := { name := "fleetNew", fn := fun _ => fun
  | [d1, d2] => { results := [.lit (.bool false)], args := [d1, d2] }
  | _ => none }
def FleetNewWrongFalsely : Prop := fleetNewRow.holds Tryz.pinned (OpenSpec.ofChange fleetNewWrong)

/- THE SECOND FORM. 'bulk': how many values and letters a reading holds, each counted each time it is reached (what is shared counts as often as it is met; a slice's spare places count too). A statement '..UptoSaid' is the law's where the arguments, and the package variables that the reading takes, are together of bulk at most 1048576: NARROWER than '..Said'. Prove '..Said' where nothing that the law and all that it calls make is longer than what came in: it says more and counts as full. Else prove '..UptoSaid'. A law counts once. -/
mutual
def uptoBulk {H : Type} : DataW H → Nat
  | .lit (.string bytes) => bytes.length + 1
  | .lit _ => 1
  | .nil => 1
  | .ptr d => uptoBulk d + 1
  | .slice elems spare => uptoBulkAll elems + uptoBulkAll spare + 1
  | .agg parts => uptoBulkAll parts + 1
  | .iface _ d => uptoBulk d + 1
  | .map entries => uptoBulkEntries entries + 1
  | .held _ => 1
def uptoBulkAll {H : Type} : List (DataW H) → Nat
  | [] => 0
  | d :: r => uptoBulk d + uptoBulkAll r
def uptoBulkEntries {H : Type} : List (Lit × DataW H) → Nat
  | [] => 0
  | x :: r => uptoBulkEntry x + uptoBulkEntries r
def uptoBulkEntry {H : Type} : Lit × DataW H → Nat
  | (.string bytes, d) => bytes.length + uptoBulk d + 1
  | (_, d) => uptoBulk d + 1
 end
def uptoSmall : (H : Type) → List (DataW H) → Bool := fun _ ds => decide (uptoBulkAll ds ≤ 1048576)
def OpenSpec.upto (s : _root_.Go.ChangeSpec) : _root_.Go.OpenSpec := { _root_.Go.OpenSpec.ofChange s with cond := some uptoSmall }

/-- 'wayfinderlaw34.FleetViews', WHERE WHAT IT READS IS OF BULK AT MOST 1048576: true; the input reads as it did. -/
def fleetViewsUptoRow : OpenClaim := { program := "ytlnplelandimeaagreat", sum := "abe2e0ca8caa9a74b1ee2fb84b562c804a9f3e0086683657b385e7b94e98d8e6", func := "wayfinder/wayfinderlaw34.FleetViews", spec := "fleetViews", unfollowed := true, recurses := true, plainKeys := false, apart := false, narrowed := true }
def FleetViewsUptoSaid : Prop := fleetViewsUptoRow.holds Tryz.pinned (OpenSpec.upto fleetViewsSpec)

/-- 'wayfinderlaw34.FleetAligned', WHERE WHAT IT READS IS OF BULK AT MOST 1048576: true; the input reads as it did. -/
def fleetAlignedUptoRow : OpenClaim := { program := "ytlnplelandimeaagreat", sum := "abe2e0ca8caa9a74b1ee2fb84b562c804a9f3e0086683657b385e7b94e98d8e6", func := "wayfinder/wayfinderlaw34.FleetAligned", spec := "fleetAligned", unfollowed := true, recurses := true, plainKeys := false, apart := false, narrowed := true }
def FleetAlignedUptoSaid : Prop := fleetAlignedUptoRow.holds Tryz.pinned (OpenSpec.upto fleetAlignedSpec)

/-- 'wayfinderlaw34.FleetFrames', WHERE WHAT IT READS IS OF BULK AT MOST 1048576: true; the input reads as it did. -/
def fleetFramesUptoRow : OpenClaim := { program := "ytlnplelandimeaagreat", sum := "abe2e0ca8caa9a74b1ee2fb84b562c804a9f3e0086683657b385e7b94e98d8e6", func := "wayfinder/wayfinderlaw34.FleetFrames", spec := "fleetFrames", unfollowed := true, recurses := true, plainKeys := false, apart := false, narrowed := true }
def FleetFramesUptoSaid : Prop := fleetFramesUptoRow.holds Tryz.pinned (OpenSpec.upto fleetFramesSpec)

/-- 'wayfinderlaw34.FleetMatchesReference', WHERE WHAT IT READS IS OF BULK AT MOST 1048576: true; the input reads as it did. -/
def fleetMatchesReferenceUptoRow : OpenClaim := { program := "ytlnplelandimeaagreat", sum := "abe2e0ca8caa9a74b1ee2fb84b562c804a9f3e0086683657b385e7b94e98d8e6", func := "wayfinder/wayfinderlaw34.FleetMatchesReference", spec := "fleetMatchesReference", unfollowed := true, recurses := true, plainKeys := false, apart := false, narrowed := true }
def FleetMatchesReferenceUptoSaid : Prop := fleetMatchesReferenceUptoRow.holds Tryz.pinned (OpenSpec.upto fleetMatchesReferenceSpec)

/-- 'wayfinderlaw34.FleetHears', WHERE WHAT IT READS IS OF BULK AT MOST 1048576: true; the input reads as it did. -/
def fleetHearsUptoRow : OpenClaim := { program := "ytlnplelandimeaagreat", sum := "abe2e0ca8caa9a74b1ee2fb84b562c804a9f3e0086683657b385e7b94e98d8e6", func := "wayfinder/wayfinderlaw34.FleetHears", spec := "fleetHears", unfollowed := true, recurses := true, plainKeys := false, apart := false, narrowed := true }
def FleetHearsUptoSaid : Prop := fleetHearsUptoRow.holds Tryz.pinned (OpenSpec.upto fleetHearsSpec)

/-- 'wayfinderlaw34.FleetOrder', WHERE WHAT IT READS IS OF BULK AT MOST 1048576: true; the input reads as it did. -/
def fleetOrderUptoRow : OpenClaim := { program := "ytlnplelandimeaagreat", sum := "abe2e0ca8caa9a74b1ee2fb84b562c804a9f3e0086683657b385e7b94e98d8e6", func := "wayfinder/wayfinderlaw34.FleetOrder", spec := "fleetOrder", unfollowed := true, recurses := true, plainKeys := false, apart := false, narrowed := true }
def FleetOrderUptoSaid : Prop := fleetOrderUptoRow.holds Tryz.pinned (OpenSpec.upto fleetOrderSpec)

/-- 'wayfinderlaw34.FleetClones', WHERE WHAT IT READS IS OF BULK AT MOST 1048576: true; the input reads as it did. -/
def fleetClonesUptoRow : OpenClaim := { program := "ytlnplelandimeaagreat", sum := "abe2e0ca8caa9a74b1ee2fb84b562c804a9f3e0086683657b385e7b94e98d8e6", func := "wayfinder/wayfinderlaw34.FleetClones", spec := "fleetClones", unfollowed := true, recurses := true, plainKeys := false, apart := false, narrowed := true }
def FleetClonesUptoSaid : Prop := fleetClonesUptoRow.holds Tryz.pinned (OpenSpec.upto fleetClonesSpec)

/-- 'wayfinderlaw34.FleetNew', WHERE WHAT IT READS IS OF BULK AT MOST 1048576: true; the input reads as it did. -/
def fleetNewUptoRow : OpenClaim := { program := "ytlnplelandimeaagreat", sum := "abe2e0ca8caa9a74b1ee2fb84b562c804a9f3e0086683657b385e7b94e98d8e6", func := "wayfinder/wayfinderlaw34.FleetNew", spec := "fleetNew", unfollowed := true, recurses := true, plainKeys := false, apart := false, narrowed := true }
def FleetNewUptoSaid : Prop := fleetNewUptoRow.holds Tryz.pinned (OpenSpec.upto fleetNewSpec)

end Rows
end Go.Proofs.YtlnplelandimeaaGreat
