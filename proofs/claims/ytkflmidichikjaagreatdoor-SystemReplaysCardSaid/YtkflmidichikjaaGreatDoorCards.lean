/-
  DERIVED. GIVEN WITH THE SEED: THE CARDS: each row of YtkflmidichikjaaGreatDoorRows.lean that lists a variable, with what it lists TIED to the program's text (the seventh form; the later family's looks); each row that meets fmt, with fmt's text TOLD by the authors' own Lean function (tested against real Go, not proved from fmt's source: count such statements apart). THE CARD IS WHAT COUNTS. Prove the row's statement (the work); the ties are given (YtkflmidichikjaaGreatDoorTie.lean); close each card by the builder's one call (the guide's Derived/Test/ToyasCard.lean, 'card_holds'). Laid BY PROGRAM, IN A SANDBOX (cutbox-door.mjs). By AI agents, Wed Nov 11 2026. No macro, syntax, notation, axiom, sorry.
-/
import Derived.Test.YtkflmidichikjaaGreatDoorRows
import GoSem.ClaimSeven
namespace Go.Proofs.YtkflmidichikjaaGreatDoor
namespace Rows

/-- THE TIED CARD OF 'wayfinderlaw44.SystemClear'. -/
def systemClearCard : Claim7 := { stood := { row := systemClearRow, standIns := [], harness := (true, "532f9efa66154ca7abbd874ba24a17b728a941ac124fbc976f1215db509e9175"), looks := false }, kinds := [], alts := [], laidByText := true, laidKinds := [.data], laidTests := true, laidLooks := .later }
def SystemClearCardSaid : Prop := Claim7.holds Tryz.pinned (.plain (OpenSpec.ofChange systemClearSpec)) systemClearCard

/-- THE TIED CARD OF 'wayfinderlaw44.SystemPose'. -/
def systemPoseCard : Claim7 := { stood := { row := systemPoseRow, standIns := [], harness := (true, "532f9efa66154ca7abbd874ba24a17b728a941ac124fbc976f1215db509e9175"), looks := false }, kinds := [], alts := [], laidByText := true, laidKinds := [.data], laidTests := true, laidLooks := .later }
def SystemPoseCardSaid : Prop := Claim7.holds Tryz.pinned (.plain (OpenSpec.ofChange systemPoseSpec)) systemPoseCard

/-- THE TIED CARD OF 'wayfinderlaw44.SystemReplays'. -/
def systemReplaysCard : Claim7 := { stood := { row := systemReplaysRow, standIns := [], harness := (true, "532f9efa66154ca7abbd874ba24a17b728a941ac124fbc976f1215db509e9175"), looks := false }, kinds := [], alts := [], laidByText := true, laidKinds := [.data], laidTests := true, laidLooks := .later }
def SystemReplaysCardSaid : Prop := Claim7.holds Tryz.pinned (.plain (OpenSpec.ofChange systemReplaysSpec)) systemReplaysCard

/-- THE SECOND FORM's CARD OF 'wayfinderlaw44.SystemClear'. -/
def systemClearUptoCard : Claim7 := { stood := { row := systemClearUptoRow, standIns := [], harness := (true, "532f9efa66154ca7abbd874ba24a17b728a941ac124fbc976f1215db509e9175"), looks := false }, kinds := [], alts := [], laidByText := true, laidKinds := [.data], laidTests := true, laidLooks := .later }
def SystemClearUptoCardSaid : Prop := Claim7.holds Tryz.pinned (.plain (OpenSpec.upto systemClearSpec)) systemClearUptoCard

/-- THE SECOND FORM's CARD OF 'wayfinderlaw44.SystemPose'. -/
def systemPoseUptoCard : Claim7 := { stood := { row := systemPoseUptoRow, standIns := [], harness := (true, "532f9efa66154ca7abbd874ba24a17b728a941ac124fbc976f1215db509e9175"), looks := false }, kinds := [], alts := [], laidByText := true, laidKinds := [.data], laidTests := true, laidLooks := .later }
def SystemPoseUptoCardSaid : Prop := Claim7.holds Tryz.pinned (.plain (OpenSpec.upto systemPoseSpec)) systemPoseUptoCard

/-- THE SECOND FORM's CARD OF 'wayfinderlaw44.SystemReplays'. -/
def systemReplaysUptoCard : Claim7 := { stood := { row := systemReplaysUptoRow, standIns := [], harness := (true, "532f9efa66154ca7abbd874ba24a17b728a941ac124fbc976f1215db509e9175"), looks := false }, kinds := [], alts := [], laidByText := true, laidKinds := [.data], laidTests := true, laidLooks := .later }
def SystemReplaysUptoCardSaid : Prop := Claim7.holds Tryz.pinned (.plain (OpenSpec.upto systemReplaysSpec)) systemReplaysUptoCard
end Rows
end Go.Proofs.YtkflmidichikjaaGreatDoor
