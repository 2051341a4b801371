/-
  No cell of these rows narrows 'for every input' (looked for: loops, veiled, ifaces, maps, wideKeys, modest, calm, conditions, laid).
  DERIVED. THE GIVEN ROWS OF THIS SEAT. 12 by the template 'for every input the law returns true; each argument reads behind the call as it read before'; 0 by the template 'total and deterministic' (their statements: YtdjimfngnhnhnaaTotals.lean).
  GIVEN WITH THE SEED: the statements are not yours to turn. If you find one false, say at which input.
  Laid BY PROGRAM, IN A SANDBOX (cutbox-rows.mjs): the forced cells as the released guide's own fill.sh prints them over the translation 3362c725bacf1e2a… (all of the seat's roots in one cut). By AI agents, Wed Nov 11 2026. No macro, syntax, notation, axiom, sorry.
-/
import Derived.Test.YtdjimfngnhnhnaaChecked
import GoSem.Claim
import GoSem.ClaimJoined
import GoSem.ClaimMapViews
import Derived.JoinedTies
import Derived.KernelRfl
namespace Go.Proofs.Ytdjimfngnhnhnaa
/- THE CELL 'sum', in the pinned program and in every row, IS THE sha256 OF THE DUMP (.gsa) THAT YtdjimfngnhnhnaaProg.lean LOADS. Nothing in Lean hashes anything: it is a label: what it is worth is what the hold of that sum in a sandbox is worth. -/
noncomputable def Try.pinned : Pinned := { name := "ytdjimfngnhnhnaa", sum := "3362c725bacf1e2a5160330761ccf9820fc0b7a673323c0c4f716f7ca9e30ec4", checked := Try.checked }
namespace Rows
def none {H : Type} : Left H := { results := [], args := [] }

/-- 'wayfinderlaw33.FrameEntries': WHATEVER THE INPUT: true; the input reads as it did. -/
def frameEntriesSpec : ChangeSpec := { name := "frameEntries", fn := fun _ => fun
  | [d1, d2] => { results := [.lit (.bool true)], args := [d1, d2] }
  | _ => none }
def frameEntriesRow : OpenClaim := { program := "ytdjimfngnhnhnaa", sum := "3362c725bacf1e2a5160330761ccf9820fc0b7a673323c0c4f716f7ca9e30ec4", func := "wayfinder/wayfinderlaw33.FrameEntries", spec := "frameEntries", unfollowed := true, recurses := true, plainKeys := false, apart := false }
def FrameEntriesSaid : Prop := frameEntriesRow.holds Try.pinned (OpenSpec.ofChange frameEntriesSpec)

/-- ITS FALSE NEIGHBOUR: 'it returns false'. Refute it at one input. -/
def frameEntriesWrong : ChangeSpec := { name := "frameEntries", fn := fun _ => fun
  | [d1, d2] => { results := [.lit (.bool false)], args := [d1, d2] }
  | _ => none }
def FrameEntriesWrongFalsely : Prop := frameEntriesRow.holds Try.pinned (OpenSpec.ofChange frameEntriesWrong)

/-- 'wayfinderlaw15.EvidenceScans': WHATEVER THE INPUT: true; the input reads as it did. -/
def evidenceScansSpec : ChangeSpec := { name := "evidenceScans", fn := fun _ => fun
  | [d1, d2] => { results := [.lit (.bool true)], args := [d1, d2] }
  | _ => none }
def evidenceScansRow : OpenClaim := { program := "ytdjimfngnhnhnaa", sum := "3362c725bacf1e2a5160330761ccf9820fc0b7a673323c0c4f716f7ca9e30ec4", func := "wayfinder/wayfinderlaw15.EvidenceScans", spec := "evidenceScans", unfollowed := true, recurses := true, plainKeys := false, apart := false }
def EvidenceScansSaid : Prop := evidenceScansRow.holds Try.pinned (OpenSpec.ofChange evidenceScansSpec)

/-- ITS FALSE NEIGHBOUR: 'it returns false'. Refute it at one input. -/
def evidenceScansWrong : ChangeSpec := { name := "evidenceScans", fn := fun _ => fun
  | [d1, d2] => { results := [.lit (.bool false)], args := [d1, d2] }
  | _ => none }
def EvidenceScansWrongFalsely : Prop := evidenceScansRow.holds Try.pinned (OpenSpec.ofChange evidenceScansWrong)

/-- 'wayfinderlaw15.EvidenceMoves': WHATEVER THE INPUT: true; the input reads as it did. -/
def evidenceMovesSpec : ChangeSpec := { name := "evidenceMoves", fn := fun _ => fun
  | [d1, d2, d3] => { results := [.lit (.bool true)], args := [d1, d2, d3] }
  | _ => none }
def evidenceMovesRow : OpenClaim := { program := "ytdjimfngnhnhnaa", sum := "3362c725bacf1e2a5160330761ccf9820fc0b7a673323c0c4f716f7ca9e30ec4", func := "wayfinder/wayfinderlaw15.EvidenceMoves", spec := "evidenceMoves", unfollowed := true, recurses := true, plainKeys := false, apart := false }
def EvidenceMovesSaid : Prop := evidenceMovesRow.holds Try.pinned (OpenSpec.ofChange evidenceMovesSpec)

/-- ITS FALSE NEIGHBOUR: 'it returns false'. Refute it at one input. -/
def evidenceMovesWrong : ChangeSpec := { name := "evidenceMoves", fn := fun _ => fun
  | [d1, d2, d3] => { results := [.lit (.bool false)], args := [d1, d2, d3] }
  | _ => none }
def EvidenceMovesWrongFalsely : Prop := evidenceMovesRow.holds Try.pinned (OpenSpec.ofChange evidenceMovesWrong)

/-- 'wayfinderlaw15.EvidenceCounts': WHATEVER THE INPUT: true; the input reads as it did. -/
def evidenceCountsSpec : ChangeSpec := { name := "evidenceCounts", fn := fun _ => fun
  | [d1, d2] => { results := [.lit (.bool true)], args := [d1, d2] }
  | _ => none }
def evidenceCountsRow : OpenClaim := { program := "ytdjimfngnhnhnaa", sum := "3362c725bacf1e2a5160330761ccf9820fc0b7a673323c0c4f716f7ca9e30ec4", func := "wayfinder/wayfinderlaw15.EvidenceCounts", spec := "evidenceCounts", unfollowed := true, recurses := true, plainKeys := false, apart := false }
def EvidenceCountsSaid : Prop := evidenceCountsRow.holds Try.pinned (OpenSpec.ofChange evidenceCountsSpec)

/-- ITS FALSE NEIGHBOUR: 'it returns false'. Refute it at one input. -/
def evidenceCountsWrong : ChangeSpec := { name := "evidenceCounts", fn := fun _ => fun
  | [d1, d2] => { results := [.lit (.bool false)], args := [d1, d2] }
  | _ => none }
def EvidenceCountsWrongFalsely : Prop := evidenceCountsRow.holds Try.pinned (OpenSpec.ofChange evidenceCountsWrong)

/-- 'wayfinderlaw15.EvidenceCommutes': WHATEVER THE INPUT: true; the input reads as it did. -/
def evidenceCommutesSpec : ChangeSpec := { name := "evidenceCommutes", fn := fun _ => fun
  | [d1, d2, d3] => { results := [.lit (.bool true)], args := [d1, d2, d3] }
  | _ => none }
def evidenceCommutesRow : OpenClaim := { program := "ytdjimfngnhnhnaa", sum := "3362c725bacf1e2a5160330761ccf9820fc0b7a673323c0c4f716f7ca9e30ec4", func := "wayfinder/wayfinderlaw15.EvidenceCommutes", spec := "evidenceCommutes", unfollowed := true, recurses := true, plainKeys := false, apart := false }
def EvidenceCommutesSaid : Prop := evidenceCommutesRow.holds Try.pinned (OpenSpec.ofChange evidenceCommutesSpec)

/-- ITS FALSE NEIGHBOUR: 'it returns false'. Refute it at one input. -/
def evidenceCommutesWrong : ChangeSpec := { name := "evidenceCommutes", fn := fun _ => fun
  | [d1, d2, d3] => { results := [.lit (.bool false)], args := [d1, d2, d3] }
  | _ => none }
def EvidenceCommutesWrongFalsely : Prop := evidenceCommutesRow.holds Try.pinned (OpenSpec.ofChange evidenceCommutesWrong)

/-- 'wayfinderlaw15.EvidenceJoins': WHATEVER THE INPUT: true; the input reads as it did. -/
def evidenceJoinsSpec : ChangeSpec := { name := "evidenceJoins", fn := fun _ => fun
  | [d1, d2, d3] => { results := [.lit (.bool true)], args := [d1, d2, d3] }
  | _ => none }
def evidenceJoinsRow : OpenClaim := { program := "ytdjimfngnhnhnaa", sum := "3362c725bacf1e2a5160330761ccf9820fc0b7a673323c0c4f716f7ca9e30ec4", func := "wayfinder/wayfinderlaw15.EvidenceJoins", spec := "evidenceJoins", unfollowed := true, recurses := true, plainKeys := false, apart := false }
def EvidenceJoinsSaid : Prop := evidenceJoinsRow.holds Try.pinned (OpenSpec.ofChange evidenceJoinsSpec)

/-- ITS FALSE NEIGHBOUR: 'it returns false'. Refute it at one input. -/
def evidenceJoinsWrong : ChangeSpec := { name := "evidenceJoins", fn := fun _ => fun
  | [d1, d2, d3] => { results := [.lit (.bool false)], args := [d1, d2, d3] }
  | _ => none }
def EvidenceJoinsWrongFalsely : Prop := evidenceJoinsRow.holds Try.pinned (OpenSpec.ofChange evidenceJoinsWrong)

/-- 'wayfinderlaw15.EvidenceSums': WHATEVER THE INPUT: true; the input reads as it did. -/
def evidenceSumsSpec : ChangeSpec := { name := "evidenceSums", fn := fun _ => fun
  | [d1, d2] => { results := [.lit (.bool true)], args := [d1, d2] }
  | _ => none }
def evidenceSumsRow : OpenClaim := { program := "ytdjimfngnhnhnaa", sum := "3362c725bacf1e2a5160330761ccf9820fc0b7a673323c0c4f716f7ca9e30ec4", func := "wayfinder/wayfinderlaw15.EvidenceSums", spec := "evidenceSums", unfollowed := true, recurses := true, plainKeys := false, apart := false }
def EvidenceSumsSaid : Prop := evidenceSumsRow.holds Try.pinned (OpenSpec.ofChange evidenceSumsSpec)

/-- ITS FALSE NEIGHBOUR: 'it returns false'. Refute it at one input. -/
def evidenceSumsWrong : ChangeSpec := { name := "evidenceSums", fn := fun _ => fun
  | [d1, d2] => { results := [.lit (.bool false)], args := [d1, d2] }
  | _ => none }
def EvidenceSumsWrongFalsely : Prop := evidenceSumsRow.holds Try.pinned (OpenSpec.ofChange evidenceSumsWrong)

/-- 'wayfinderlaw15.EvidenceBack': WHATEVER THE INPUT: true; the input reads as it did. -/
def evidenceBackSpec : ChangeSpec := { name := "evidenceBack", fn := fun _ => fun
  | [d1, d2] => { results := [.lit (.bool true)], args := [d1, d2] }
  | _ => none }
def evidenceBackRow : OpenClaim := { program := "ytdjimfngnhnhnaa", sum := "3362c725bacf1e2a5160330761ccf9820fc0b7a673323c0c4f716f7ca9e30ec4", func := "wayfinder/wayfinderlaw15.EvidenceBack", spec := "evidenceBack", unfollowed := true, recurses := true, plainKeys := false, apart := false }
def EvidenceBackSaid : Prop := evidenceBackRow.holds Try.pinned (OpenSpec.ofChange evidenceBackSpec)

/-- ITS FALSE NEIGHBOUR: 'it returns false'. Refute it at one input. -/
def evidenceBackWrong : ChangeSpec := { name := "evidenceBack", fn := fun _ => fun
  | [d1, d2] => { results := [.lit (.bool false)], args := [d1, d2] }
  | _ => none }
def EvidenceBackWrongFalsely : Prop := evidenceBackRow.holds Try.pinned (OpenSpec.ofChange evidenceBackWrong)

/-- 'wayfinderlaw15.EvidenceFields': WHATEVER THE INPUT: true; the input reads as it did. -/
def evidenceFieldsSpec : ChangeSpec := { name := "evidenceFields", fn := fun _ => fun
  | [d1, d2] => { results := [.lit (.bool true)], args := [d1, d2] }
  | _ => none }
def evidenceFieldsRow : OpenClaim := { program := "ytdjimfngnhnhnaa", sum := "3362c725bacf1e2a5160330761ccf9820fc0b7a673323c0c4f716f7ca9e30ec4", func := "wayfinder/wayfinderlaw15.EvidenceFields", spec := "evidenceFields", unfollowed := true, recurses := true, plainKeys := false, apart := false }
def EvidenceFieldsSaid : Prop := evidenceFieldsRow.holds Try.pinned (OpenSpec.ofChange evidenceFieldsSpec)

/-- ITS FALSE NEIGHBOUR: 'it returns false'. Refute it at one input. -/
def evidenceFieldsWrong : ChangeSpec := { name := "evidenceFields", fn := fun _ => fun
  | [d1, d2] => { results := [.lit (.bool false)], args := [d1, d2] }
  | _ => none }
def EvidenceFieldsWrongFalsely : Prop := evidenceFieldsRow.holds Try.pinned (OpenSpec.ofChange evidenceFieldsWrong)

/-- 'wayfinderlaw15.EvidenceReads': WHATEVER THE INPUT: true; the input reads as it did. -/
def evidenceReadsSpec : ChangeSpec := { name := "evidenceReads", fn := fun _ => fun
  | [d1, d2, d3] => { results := [.lit (.bool true)], args := [d1, d2, d3] }
  | _ => none }
def evidenceReadsRow : OpenClaim := { program := "ytdjimfngnhnhnaa", sum := "3362c725bacf1e2a5160330761ccf9820fc0b7a673323c0c4f716f7ca9e30ec4", func := "wayfinder/wayfinderlaw15.EvidenceReads", spec := "evidenceReads", unfollowed := true, recurses := true, plainKeys := false, apart := false }
def EvidenceReadsSaid : Prop := evidenceReadsRow.holds Try.pinned (OpenSpec.ofChange evidenceReadsSpec)

/-- ITS FALSE NEIGHBOUR: 'it returns false'. Refute it at one input. -/
def evidenceReadsWrong : ChangeSpec := { name := "evidenceReads", fn := fun _ => fun
  | [d1, d2, d3] => { results := [.lit (.bool false)], args := [d1, d2, d3] }
  | _ => none }
def EvidenceReadsWrongFalsely : Prop := evidenceReadsRow.holds Try.pinned (OpenSpec.ofChange evidenceReadsWrong)

/-- 'wayfinderlaw15.EvidenceStarts': WHATEVER THE INPUT: true; the input reads as it did. -/
def evidenceStartsSpec : ChangeSpec := { name := "evidenceStarts", fn := fun _ => fun
  | [d1, d2] => { results := [.lit (.bool true)], args := [d1, d2] }
  | _ => none }
def evidenceStartsRow : OpenClaim := { program := "ytdjimfngnhnhnaa", sum := "3362c725bacf1e2a5160330761ccf9820fc0b7a673323c0c4f716f7ca9e30ec4", func := "wayfinder/wayfinderlaw15.EvidenceStarts", spec := "evidenceStarts", unfollowed := true, recurses := true, plainKeys := false, apart := false }
def EvidenceStartsSaid : Prop := evidenceStartsRow.holds Try.pinned (OpenSpec.ofChange evidenceStartsSpec)

/-- ITS FALSE NEIGHBOUR: 'it returns false'. Refute it at one input. -/
def evidenceStartsWrong : ChangeSpec := { name := "evidenceStarts", fn := fun _ => fun
  | [d1, d2] => { results := [.lit (.bool false)], args := [d1, d2] }
  | _ => none }
def EvidenceStartsWrongFalsely : Prop := evidenceStartsRow.holds Try.pinned (OpenSpec.ofChange evidenceStartsWrong)

/-- 'wayfinderlaw33.FrameEvidence': WHATEVER THE INPUT: true; the input reads as it did. -/
def frameEvidenceSpec : ChangeSpec := { name := "frameEvidence", fn := fun _ => fun
  | [d1, d2, d3] => { results := [.lit (.bool true)], args := [d1, d2, d3] }
  | _ => none }
def frameEvidenceRow : OpenClaim := { program := "ytdjimfngnhnhnaa", sum := "3362c725bacf1e2a5160330761ccf9820fc0b7a673323c0c4f716f7ca9e30ec4", func := "wayfinder/wayfinderlaw33.FrameEvidence", spec := "frameEvidence", unfollowed := true, recurses := true, plainKeys := false, apart := false }
def FrameEvidenceSaid : Prop := frameEvidenceRow.holds Try.pinned (OpenSpec.ofChange frameEvidenceSpec)

/-- ITS FALSE NEIGHBOUR: 'it returns false'. Refute it at one input. -/
def frameEvidenceWrong : ChangeSpec := { name := "frameEvidence", fn := fun _ => fun
  | [d1, d2, d3] => { results := [.lit (.bool false)], args := [d1, d2, d3] }
  | _ => none }
def FrameEvidenceWrongFalsely : Prop := frameEvidenceRow.holds Try.pinned (OpenSpec.ofChange frameEvidenceWrong)

/- THE SECOND FORM. 'bulk': how many values and letters a reading holds, each counted each time it is reached (what is shared counts as often as it is met; a slice's spare places count too). A statement '..UptoSaid' is the law's where the arguments, and the package variables that the reading takes, are together of bulk at most 1048576: NARROWER than '..Said'. Prove '..Said' where nothing that the law and all that it calls make is longer than what came in: it says more and counts as full. Else prove '..UptoSaid'. A law counts once. -/
mutual
def uptoBulk {H : Type} : DataW H → Nat
  | .lit (.string bytes) => bytes.length + 1
  | .lit _ => 1
  | .nil => 1
  | .ptr d => uptoBulk d + 1
  | .slice elems spare => uptoBulkAll elems + uptoBulkAll spare + 1
  | .agg parts => uptoBulkAll parts + 1
  | .iface _ d => uptoBulk d + 1
  | .map entries => uptoBulkEntries entries + 1
  | .held _ => 1
def uptoBulkAll {H : Type} : List (DataW H) → Nat
  | [] => 0
  | d :: r => uptoBulk d + uptoBulkAll r
def uptoBulkEntries {H : Type} : List (Lit × DataW H) → Nat
  | [] => 0
  | x :: r => uptoBulkEntry x + uptoBulkEntries r
def uptoBulkEntry {H : Type} : Lit × DataW H → Nat
  | (.string bytes, d) => bytes.length + uptoBulk d + 1
  | (_, d) => uptoBulk d + 1
 end
def uptoSmall : (H : Type) → List (DataW H) → Bool := fun _ ds => decide (uptoBulkAll ds ≤ 1048576)
def OpenSpec.upto (s : _root_.Go.ChangeSpec) : _root_.Go.OpenSpec := { _root_.Go.OpenSpec.ofChange s with cond := some uptoSmall }

/-- 'wayfinderlaw33.FrameEntries', WHERE WHAT IT READS IS OF BULK AT MOST 1048576: true; the input reads as it did. -/
def frameEntriesUptoRow : OpenClaim := { program := "ytdjimfngnhnhnaa", sum := "3362c725bacf1e2a5160330761ccf9820fc0b7a673323c0c4f716f7ca9e30ec4", func := "wayfinder/wayfinderlaw33.FrameEntries", spec := "frameEntries", unfollowed := true, recurses := true, plainKeys := false, apart := false, narrowed := true }
def FrameEntriesUptoSaid : Prop := frameEntriesUptoRow.holds Try.pinned (OpenSpec.upto frameEntriesSpec)

/-- 'wayfinderlaw15.EvidenceScans', WHERE WHAT IT READS IS OF BULK AT MOST 1048576: true; the input reads as it did. -/
def evidenceScansUptoRow : OpenClaim := { program := "ytdjimfngnhnhnaa", sum := "3362c725bacf1e2a5160330761ccf9820fc0b7a673323c0c4f716f7ca9e30ec4", func := "wayfinder/wayfinderlaw15.EvidenceScans", spec := "evidenceScans", unfollowed := true, recurses := true, plainKeys := false, apart := false, narrowed := true }
def EvidenceScansUptoSaid : Prop := evidenceScansUptoRow.holds Try.pinned (OpenSpec.upto evidenceScansSpec)

/-- 'wayfinderlaw15.EvidenceMoves', WHERE WHAT IT READS IS OF BULK AT MOST 1048576: true; the input reads as it did. -/
def evidenceMovesUptoRow : OpenClaim := { program := "ytdjimfngnhnhnaa", sum := "3362c725bacf1e2a5160330761ccf9820fc0b7a673323c0c4f716f7ca9e30ec4", func := "wayfinder/wayfinderlaw15.EvidenceMoves", spec := "evidenceMoves", unfollowed := true, recurses := true, plainKeys := false, apart := false, narrowed := true }
def EvidenceMovesUptoSaid : Prop := evidenceMovesUptoRow.holds Try.pinned (OpenSpec.upto evidenceMovesSpec)

/-- 'wayfinderlaw15.EvidenceCounts', WHERE WHAT IT READS IS OF BULK AT MOST 1048576: true; the input reads as it did. -/
def evidenceCountsUptoRow : OpenClaim := { program := "ytdjimfngnhnhnaa", sum := "3362c725bacf1e2a5160330761ccf9820fc0b7a673323c0c4f716f7ca9e30ec4", func := "wayfinder/wayfinderlaw15.EvidenceCounts", spec := "evidenceCounts", unfollowed := true, recurses := true, plainKeys := false, apart := false, narrowed := true }
def EvidenceCountsUptoSaid : Prop := evidenceCountsUptoRow.holds Try.pinned (OpenSpec.upto evidenceCountsSpec)

/-- 'wayfinderlaw15.EvidenceCommutes', WHERE WHAT IT READS IS OF BULK AT MOST 1048576: true; the input reads as it did. -/
def evidenceCommutesUptoRow : OpenClaim := { program := "ytdjimfngnhnhnaa", sum := "3362c725bacf1e2a5160330761ccf9820fc0b7a673323c0c4f716f7ca9e30ec4", func := "wayfinder/wayfinderlaw15.EvidenceCommutes", spec := "evidenceCommutes", unfollowed := true, recurses := true, plainKeys := false, apart := false, narrowed := true }
def EvidenceCommutesUptoSaid : Prop := evidenceCommutesUptoRow.holds Try.pinned (OpenSpec.upto evidenceCommutesSpec)

/-- 'wayfinderlaw15.EvidenceJoins', WHERE WHAT IT READS IS OF BULK AT MOST 1048576: true; the input reads as it did. -/
def evidenceJoinsUptoRow : OpenClaim := { program := "ytdjimfngnhnhnaa", sum := "3362c725bacf1e2a5160330761ccf9820fc0b7a673323c0c4f716f7ca9e30ec4", func := "wayfinder/wayfinderlaw15.EvidenceJoins", spec := "evidenceJoins", unfollowed := true, recurses := true, plainKeys := false, apart := false, narrowed := true }
def EvidenceJoinsUptoSaid : Prop := evidenceJoinsUptoRow.holds Try.pinned (OpenSpec.upto evidenceJoinsSpec)

/-- 'wayfinderlaw15.EvidenceSums', WHERE WHAT IT READS IS OF BULK AT MOST 1048576: true; the input reads as it did. -/
def evidenceSumsUptoRow : OpenClaim := { program := "ytdjimfngnhnhnaa", sum := "3362c725bacf1e2a5160330761ccf9820fc0b7a673323c0c4f716f7ca9e30ec4", func := "wayfinder/wayfinderlaw15.EvidenceSums", spec := "evidenceSums", unfollowed := true, recurses := true, plainKeys := false, apart := false, narrowed := true }
def EvidenceSumsUptoSaid : Prop := evidenceSumsUptoRow.holds Try.pinned (OpenSpec.upto evidenceSumsSpec)

/-- 'wayfinderlaw15.EvidenceBack', WHERE WHAT IT READS IS OF BULK AT MOST 1048576: true; the input reads as it did. -/
def evidenceBackUptoRow : OpenClaim := { program := "ytdjimfngnhnhnaa", sum := "3362c725bacf1e2a5160330761ccf9820fc0b7a673323c0c4f716f7ca9e30ec4", func := "wayfinder/wayfinderlaw15.EvidenceBack", spec := "evidenceBack", unfollowed := true, recurses := true, plainKeys := false, apart := false, narrowed := true }
def EvidenceBackUptoSaid : Prop := evidenceBackUptoRow.holds Try.pinned (OpenSpec.upto evidenceBackSpec)

/-- 'wayfinderlaw15.EvidenceFields', WHERE WHAT IT READS IS OF BULK AT MOST 1048576: true; the input reads as it did. -/
def evidenceFieldsUptoRow : OpenClaim := { program := "ytdjimfngnhnhnaa", sum := "3362c725bacf1e2a5160330761ccf9820fc0b7a673323c0c4f716f7ca9e30ec4", func := "wayfinder/wayfinderlaw15.EvidenceFields", spec := "evidenceFields", unfollowed := true, recurses := true, plainKeys := false, apart := false, narrowed := true }
def EvidenceFieldsUptoSaid : Prop := evidenceFieldsUptoRow.holds Try.pinned (OpenSpec.upto evidenceFieldsSpec)

/-- 'wayfinderlaw15.EvidenceReads', WHERE WHAT IT READS IS OF BULK AT MOST 1048576: true; the input reads as it did. -/
def evidenceReadsUptoRow : OpenClaim := { program := "ytdjimfngnhnhnaa", sum := "3362c725bacf1e2a5160330761ccf9820fc0b7a673323c0c4f716f7ca9e30ec4", func := "wayfinder/wayfinderlaw15.EvidenceReads", spec := "evidenceReads", unfollowed := true, recurses := true, plainKeys := false, apart := false, narrowed := true }
def EvidenceReadsUptoSaid : Prop := evidenceReadsUptoRow.holds Try.pinned (OpenSpec.upto evidenceReadsSpec)

/-- 'wayfinderlaw15.EvidenceStarts', WHERE WHAT IT READS IS OF BULK AT MOST 1048576: true; the input reads as it did. -/
def evidenceStartsUptoRow : OpenClaim := { program := "ytdjimfngnhnhnaa", sum := "3362c725bacf1e2a5160330761ccf9820fc0b7a673323c0c4f716f7ca9e30ec4", func := "wayfinder/wayfinderlaw15.EvidenceStarts", spec := "evidenceStarts", unfollowed := true, recurses := true, plainKeys := false, apart := false, narrowed := true }
def EvidenceStartsUptoSaid : Prop := evidenceStartsUptoRow.holds Try.pinned (OpenSpec.upto evidenceStartsSpec)

/-- 'wayfinderlaw33.FrameEvidence', WHERE WHAT IT READS IS OF BULK AT MOST 1048576: true; the input reads as it did. -/
def frameEvidenceUptoRow : OpenClaim := { program := "ytdjimfngnhnhnaa", sum := "3362c725bacf1e2a5160330761ccf9820fc0b7a673323c0c4f716f7ca9e30ec4", func := "wayfinder/wayfinderlaw33.FrameEvidence", spec := "frameEvidence", unfollowed := true, recurses := true, plainKeys := false, apart := false, narrowed := true }
def FrameEvidenceUptoSaid : Prop := frameEvidenceUptoRow.holds Try.pinned (OpenSpec.upto frameEvidenceSpec)

end Rows
end Go.Proofs.Ytdjimfngnhnhnaa
