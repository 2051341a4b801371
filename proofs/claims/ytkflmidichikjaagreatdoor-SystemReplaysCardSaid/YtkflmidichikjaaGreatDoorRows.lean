/-
  NARROWER THAN 'FOR EVERY INPUT', by the rows' own cells (each row's printed sentence says how): SystemClear: laid · SystemPose: laid · SystemReplays: laid.
  DERIVED. THE GIVEN ROWS OF THIS SEAT. 3 by the template 'for every input the law returns true; each argument reads behind the call as it read before'; 0 by the template 'total and deterministic' (their statements: YtkflmidichikjaaGreatDoorTotals.lean).
  GIVEN WITH THE SEED: the statements are not yours to turn. If you find one false, say at which input.
  Laid BY PROGRAM, IN A SANDBOX (cutbox-rows.mjs): the forced cells as the released guide's own fill.sh prints them over the translation 6067057a273a4c14… (all of the seat's roots in one cut). By AI agents, Wed Nov 11 2026. No macro, syntax, notation, axiom, sorry.
-/
import Derived.Test.YtkflmidichikjaaGreatDoorChecked
import GoSem.Claim
import GoSem.ClaimJoined
import GoSem.ClaimMapViews
import Derived.JoinedTies
import Derived.KernelRfl
namespace Go.Proofs.YtkflmidichikjaaGreatDoor
/- THE CELL 'sum', in the pinned program and in every row, IS THE sha256 OF THE DUMP (.gsa) THAT YtkflmidichikjaaGreatDoorProg.lean LOADS. Nothing in Lean hashes anything: it is a label: what it is worth is what the hold of that sum in a sandbox is worth. -/
noncomputable def Tryz.pinned : Pinned := { name := "ytkflmidichikjaagreatdoor", sum := "6067057a273a4c14871c1b965838bf55fb34956688a9bc03bd189a47230d5431", checked := Tryz.checked }
namespace Rows
def none {H : Type} : Left H := { results := [], args := [] }

/- WHAT THE LISTED PACKAGE-LEVEL VARIABLES READ AS WHEN THE CALL BEGINS. Each datum BY PROGRAM (the guide's laid-datum.mjs) off the statement by which the dump's own 'gosem.cut.vars' lays the variable. In a bare row this is a premise. The card (YtkflmidichikjaaGreatDoorCards.lean) ties it to the program's text. -/
def laid_wayfinder_system_creep {H : Type} : DataW H := .agg [.lit (.int .i64 16), .lit (.int .i64 0)]

/-- 'wayfinderlaw44.SystemClear': WHATEVER THE INPUT: true; the input reads as it did. -/
def systemClearSpec : ChangeSpec := { name := "systemClear", fn := fun _ => fun
  | [d1, d2] => { results := [.lit (.bool true)], args := [d1, d2] }
  | _ => none }
def systemClearRow : OpenClaim := { program := "ytkflmidichikjaagreatdoor", sum := "6067057a273a4c14871c1b965838bf55fb34956688a9bc03bd189a47230d5431", func := "wayfinder/wayfinderlaw44.SystemClear", spec := "systemClear", inPlace := ["internal/bytealg.IndexByte", "internal/bytealg.Count", "internal/bytealg.Index"], unfollowed := true, recurses := true, named := ["wayfinder/system.creep", "internal/bytealg.MaxLen"], plainKeys := false, apart := false, laid := [("wayfinder/system.creep", laid_wayfinder_system_creep)] }
def SystemClearSaid : Prop := systemClearRow.holds Tryz.pinned (OpenSpec.ofChange systemClearSpec)

/-- ITS FALSE NEIGHBOUR: 'it returns false'. Refute it at one input. -/
def systemClearWrong : ChangeSpec := { name := "systemClear", fn := fun _ => fun
  | [d1, d2] => { results := [.lit (.bool false)], args := [d1, d2] }
  | _ => none }
def SystemClearWrongFalsely : Prop := systemClearRow.holds Tryz.pinned (OpenSpec.ofChange systemClearWrong)

/-- 'wayfinderlaw44.SystemPose': WHATEVER THE INPUT: true; the input reads as it did. -/
def systemPoseSpec : ChangeSpec := { name := "systemPose", fn := fun _ => fun
  | [d1, d2] => { results := [.lit (.bool true)], args := [d1, d2] }
  | _ => none }
def systemPoseRow : OpenClaim := { program := "ytkflmidichikjaagreatdoor", sum := "6067057a273a4c14871c1b965838bf55fb34956688a9bc03bd189a47230d5431", func := "wayfinder/wayfinderlaw44.SystemPose", spec := "systemPose", inPlace := ["internal/bytealg.IndexByte", "internal/bytealg.Count", "internal/bytealg.Index"], unfollowed := true, recurses := true, named := ["wayfinder/system.creep", "internal/bytealg.MaxLen"], plainKeys := false, apart := false, laid := [("wayfinder/system.creep", laid_wayfinder_system_creep)] }
def SystemPoseSaid : Prop := systemPoseRow.holds Tryz.pinned (OpenSpec.ofChange systemPoseSpec)

/-- ITS FALSE NEIGHBOUR: 'it returns false'. Refute it at one input. -/
def systemPoseWrong : ChangeSpec := { name := "systemPose", fn := fun _ => fun
  | [d1, d2] => { results := [.lit (.bool false)], args := [d1, d2] }
  | _ => none }
def SystemPoseWrongFalsely : Prop := systemPoseRow.holds Tryz.pinned (OpenSpec.ofChange systemPoseWrong)

/-- 'wayfinderlaw44.SystemReplays': WHATEVER THE INPUT: true; the input reads as it did. -/
def systemReplaysSpec : ChangeSpec := { name := "systemReplays", fn := fun _ => fun
  | [d1, d2] => { results := [.lit (.bool true)], args := [d1, d2] }
  | _ => none }
def systemReplaysRow : OpenClaim := { program := "ytkflmidichikjaagreatdoor", sum := "6067057a273a4c14871c1b965838bf55fb34956688a9bc03bd189a47230d5431", func := "wayfinder/wayfinderlaw44.SystemReplays", spec := "systemReplays", inPlace := ["internal/bytealg.IndexByte", "internal/bytealg.Count", "internal/bytealg.Index"], unfollowed := true, recurses := true, named := ["wayfinder/system.creep", "internal/bytealg.MaxLen"], plainKeys := false, apart := false, laid := [("wayfinder/system.creep", laid_wayfinder_system_creep)] }
def SystemReplaysSaid : Prop := systemReplaysRow.holds Tryz.pinned (OpenSpec.ofChange systemReplaysSpec)

/-- ITS FALSE NEIGHBOUR: 'it returns false'. Refute it at one input. -/
def systemReplaysWrong : ChangeSpec := { name := "systemReplays", fn := fun _ => fun
  | [d1, d2] => { results := [.lit (.bool false)], args := [d1, d2] }
  | _ => none }
def SystemReplaysWrongFalsely : Prop := systemReplaysRow.holds Tryz.pinned (OpenSpec.ofChange systemReplaysWrong)

/- THE SECOND FORM. 'bulk': how many values and letters a reading holds, each counted each time it is reached (what is shared counts as often as it is met; a slice's spare places count too). A statement '..UptoSaid' is the law's where the arguments, and the package variables that the reading takes, are together of bulk at most 1048576: NARROWER than '..Said'. Prove '..Said' where nothing that the law and all that it calls make is longer than what came in: it says more and counts as full. Else prove '..UptoSaid'. A law counts once. -/
mutual
def uptoBulk {H : Type} : DataW H → Nat
  | .lit (.string bytes) => bytes.length + 1
  | .lit _ => 1
  | .nil => 1
  | .ptr d => uptoBulk d + 1
  | .slice elems spare => uptoBulkAll elems + uptoBulkAll spare + 1
  | .agg parts => uptoBulkAll parts + 1
  | .iface _ d => uptoBulk d + 1
  | .map entries => uptoBulkEntries entries + 1
  | .held _ => 1
def uptoBulkAll {H : Type} : List (DataW H) → Nat
  | [] => 0
  | d :: r => uptoBulk d + uptoBulkAll r
def uptoBulkEntries {H : Type} : List (Lit × DataW H) → Nat
  | [] => 0
  | x :: r => uptoBulkEntry x + uptoBulkEntries r
def uptoBulkEntry {H : Type} : Lit × DataW H → Nat
  | (.string bytes, d) => bytes.length + uptoBulk d + 1
  | (_, d) => uptoBulk d + 1
 end
def uptoSmall : (H : Type) → List (DataW H) → Bool := fun _ ds => decide (uptoBulkAll ds ≤ 1048576)
def OpenSpec.upto (s : _root_.Go.ChangeSpec) : _root_.Go.OpenSpec := { _root_.Go.OpenSpec.ofChange s with cond := some uptoSmall }

/-- 'wayfinderlaw44.SystemClear', WHERE WHAT IT READS IS OF BULK AT MOST 1048576: true; the input reads as it did. -/
def systemClearUptoRow : OpenClaim := { program := "ytkflmidichikjaagreatdoor", sum := "6067057a273a4c14871c1b965838bf55fb34956688a9bc03bd189a47230d5431", func := "wayfinder/wayfinderlaw44.SystemClear", spec := "systemClear", inPlace := ["internal/bytealg.IndexByte", "internal/bytealg.Count", "internal/bytealg.Index"], unfollowed := true, recurses := true, named := ["wayfinder/system.creep", "internal/bytealg.MaxLen"], plainKeys := false, apart := false, laid := [("wayfinder/system.creep", laid_wayfinder_system_creep)], narrowed := true }
def SystemClearUptoSaid : Prop := systemClearUptoRow.holds Tryz.pinned (OpenSpec.upto systemClearSpec)

/-- 'wayfinderlaw44.SystemPose', WHERE WHAT IT READS IS OF BULK AT MOST 1048576: true; the input reads as it did. -/
def systemPoseUptoRow : OpenClaim := { program := "ytkflmidichikjaagreatdoor", sum := "6067057a273a4c14871c1b965838bf55fb34956688a9bc03bd189a47230d5431", func := "wayfinder/wayfinderlaw44.SystemPose", spec := "systemPose", inPlace := ["internal/bytealg.IndexByte", "internal/bytealg.Count", "internal/bytealg.Index"], unfollowed := true, recurses := true, named := ["wayfinder/system.creep", "internal/bytealg.MaxLen"], plainKeys := false, apart := false, laid := [("wayfinder/system.creep", laid_wayfinder_system_creep)], narrowed := true }
def SystemPoseUptoSaid : Prop := systemPoseUptoRow.holds Tryz.pinned (OpenSpec.upto systemPoseSpec)

/-- 'wayfinderlaw44.SystemReplays', WHERE WHAT IT READS IS OF BULK AT MOST 1048576: true; the input reads as it did. -/
def systemReplaysUptoRow : OpenClaim := { program := "ytkflmidichikjaagreatdoor", sum := "6067057a273a4c14871c1b965838bf55fb34956688a9bc03bd189a47230d5431", func := "wayfinder/wayfinderlaw44.SystemReplays", spec := "systemReplays", inPlace := ["internal/bytealg.IndexByte", "internal/bytealg.Count", "internal/bytealg.Index"], unfollowed := true, recurses := true, named := ["wayfinder/system.creep", "internal/bytealg.MaxLen"], plainKeys := false, apart := false, laid := [("wayfinder/system.creep", laid_wayfinder_system_creep)], narrowed := true }
def SystemReplaysUptoSaid : Prop := systemReplaysUptoRow.holds Tryz.pinned (OpenSpec.upto systemReplaysSpec)

end Rows
end Go.Proofs.YtkflmidichikjaaGreatDoor
