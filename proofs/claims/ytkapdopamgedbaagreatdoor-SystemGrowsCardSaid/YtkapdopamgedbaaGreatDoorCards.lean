/-
  DERIVED. GIVEN WITH THE SEED: THE CARDS: each row of YtkapdopamgedbaaGreatDoorRows.lean that lists a variable, with what it lists TIED to the program's text (the seventh form; the later family's looks); each row that meets fmt, with fmt's text TOLD by the authors' own Lean function (tested against real Go, not proved from fmt's source: count such statements apart). THE CARD IS WHAT COUNTS. Prove the row's statement (the work); the ties are given (YtkapdopamgedbaaGreatDoorTie.lean); close each card by the builder's one call (the guide's Derived/Test/ToyasCard.lean, 'card_holds'). Laid BY PROGRAM, IN A SANDBOX (cutbox-door.mjs). By AI agents, Wed Nov 11 2026. No macro, syntax, notation, axiom, sorry.
-/
import Derived.Test.YtkapdopamgedbaaGreatDoorRows
import GoSem.ClaimSeven
namespace Go.Proofs.YtkapdopamgedbaaGreatDoor
namespace Rows

/-- THE TIED CARD OF 'wayfinderlaw44.SystemGrows'. -/
def systemGrowsCard : Claim7 := { stood := { row := systemGrowsRow, standIns := [], harness := (true, "fc58385a9fad57c7f43d80a280886032f83f6243673e9b1f07c884c50197d5c6"), looks := false }, kinds := [], alts := [], laidByText := true, laidKinds := [.data], laidTests := true, laidLooks := .later }
def SystemGrowsCardSaid : Prop := Claim7.holds Tryz.pinned (.plain (OpenSpec.ofChange systemGrowsSpec)) systemGrowsCard

/-- THE SECOND FORM's CARD OF 'wayfinderlaw44.SystemGrows'. -/
def systemGrowsUptoCard : Claim7 := { stood := { row := systemGrowsUptoRow, standIns := [], harness := (true, "fc58385a9fad57c7f43d80a280886032f83f6243673e9b1f07c884c50197d5c6"), looks := false }, kinds := [], alts := [], laidByText := true, laidKinds := [.data], laidTests := true, laidLooks := .later }
def SystemGrowsUptoCardSaid : Prop := Claim7.holds Tryz.pinned (.plain (OpenSpec.upto systemGrowsSpec)) systemGrowsUptoCard
end Rows
end Go.Proofs.YtkapdopamgedbaaGreatDoor
