/-
  DERIVED. GIVEN WITH THE SEED: THE CARDS: each row of YtadichckbogcjaaGreatDoorRows.lean that lists a variable, with what it lists TIED to the program's text (the seventh form; the later family's looks); each row that meets fmt, with fmt's text TOLD by the authors' own Lean function (tested against real Go, not proved from fmt's source: count such statements apart). THE CARD IS WHAT COUNTS. Prove the row's statement (the work); the ties are given (YtadichckbogcjaaGreatDoorTie.lean); close each card by the builder's one call (the guide's Derived/Test/ToyasCard.lean, 'card_holds'). Laid BY PROGRAM, IN A SANDBOX (cutbox-door.mjs). By AI agents, Wed Nov 11 2026. No macro, syntax, notation, axiom, sorry.
-/
import Derived.Test.YtadichckbogcjaaGreatDoorRows
import GoSem.ClaimSeven
namespace Go.Proofs.YtadichckbogcjaaGreatDoor
namespace Rows

/-- THE TIED CARD OF 'wayfinderlaw45.ToolsBisects'. -/
def toolsBisectsCard : Claim7 := { stood := { row := toolsBisectsRow, standIns := [], harness := (true, "3925da98717ad20ae6ddf5071fac03e4eb3229c7d37e3b398776c2c710f414f1"), looks := false }, kinds := [], alts := [], laidByText := true, laidKinds := [.data, .data, .data], laidTests := true, laidLooks := .later }
def ToolsBisectsCardSaid : Prop := Claim7.holds Tryz.pinned (.plain (OpenSpec.ofChange toolsBisectsSpec)) toolsBisectsCard

/-- THE TIED CARD OF 'wayfinderlaw45.ToolsFirst'. -/
def toolsFirstCard : Claim7 := { stood := { row := toolsFirstRow, standIns := [], harness := (true, "3925da98717ad20ae6ddf5071fac03e4eb3229c7d37e3b398776c2c710f414f1"), looks := false }, kinds := [], alts := [], laidByText := true, laidKinds := [.data, .data, .data], laidTests := true, laidLooks := .later }
def ToolsFirstCardSaid : Prop := Claim7.holds Tryz.pinned (.plain (OpenSpec.ofChange toolsFirstSpec)) toolsFirstCard

/-- THE TIED CARD OF 'wayfinderlaw45.ToolsExplains'. -/
def toolsExplainsCard : Claim7 := { stood := { row := toolsExplainsRow, standIns := [], harness := (true, "3925da98717ad20ae6ddf5071fac03e4eb3229c7d37e3b398776c2c710f414f1"), looks := false }, kinds := [], alts := [], laidByText := true, laidKinds := [.data, .data, .data], laidTests := true, laidLooks := .later }
def ToolsExplainsCardSaid : Prop := Claim7.holds Tryz.pinned (.plain (OpenSpec.ofChange toolsExplainsSpec)) toolsExplainsCard

/-- THE TIED CARD OF 'wayfinderlaw45.ToolsShares'. -/
def toolsSharesCard : Claim7 := { stood := { row := toolsSharesRow, standIns := [], harness := (true, "3925da98717ad20ae6ddf5071fac03e4eb3229c7d37e3b398776c2c710f414f1"), looks := false }, kinds := [], alts := [], laidByText := true, laidKinds := [.data, .data, .data], laidTests := true, laidLooks := .later }
def ToolsSharesCardSaid : Prop := Claim7.holds Tryz.pinned (.plain (OpenSpec.ofChange toolsSharesSpec)) toolsSharesCard

/-- THE SECOND FORM's CARD OF 'wayfinderlaw45.ToolsBisects'. -/
def toolsBisectsUptoCard : Claim7 := { stood := { row := toolsBisectsUptoRow, standIns := [], harness := (true, "3925da98717ad20ae6ddf5071fac03e4eb3229c7d37e3b398776c2c710f414f1"), looks := false }, kinds := [], alts := [], laidByText := true, laidKinds := [.data, .data, .data], laidTests := true, laidLooks := .later }
def ToolsBisectsUptoCardSaid : Prop := Claim7.holds Tryz.pinned (.plain (OpenSpec.upto toolsBisectsSpec)) toolsBisectsUptoCard

/-- THE SECOND FORM's CARD OF 'wayfinderlaw45.ToolsFirst'. -/
def toolsFirstUptoCard : Claim7 := { stood := { row := toolsFirstUptoRow, standIns := [], harness := (true, "3925da98717ad20ae6ddf5071fac03e4eb3229c7d37e3b398776c2c710f414f1"), looks := false }, kinds := [], alts := [], laidByText := true, laidKinds := [.data, .data, .data], laidTests := true, laidLooks := .later }
def ToolsFirstUptoCardSaid : Prop := Claim7.holds Tryz.pinned (.plain (OpenSpec.upto toolsFirstSpec)) toolsFirstUptoCard

/-- THE SECOND FORM's CARD OF 'wayfinderlaw45.ToolsExplains'. -/
def toolsExplainsUptoCard : Claim7 := { stood := { row := toolsExplainsUptoRow, standIns := [], harness := (true, "3925da98717ad20ae6ddf5071fac03e4eb3229c7d37e3b398776c2c710f414f1"), looks := false }, kinds := [], alts := [], laidByText := true, laidKinds := [.data, .data, .data], laidTests := true, laidLooks := .later }
def ToolsExplainsUptoCardSaid : Prop := Claim7.holds Tryz.pinned (.plain (OpenSpec.upto toolsExplainsSpec)) toolsExplainsUptoCard

/-- THE SECOND FORM's CARD OF 'wayfinderlaw45.ToolsShares'. -/
def toolsSharesUptoCard : Claim7 := { stood := { row := toolsSharesUptoRow, standIns := [], harness := (true, "3925da98717ad20ae6ddf5071fac03e4eb3229c7d37e3b398776c2c710f414f1"), looks := false }, kinds := [], alts := [], laidByText := true, laidKinds := [.data, .data, .data], laidTests := true, laidLooks := .later }
def ToolsSharesUptoCardSaid : Prop := Claim7.holds Tryz.pinned (.plain (OpenSpec.upto toolsSharesSpec)) toolsSharesUptoCard
end Rows
end Go.Proofs.YtadichckbogcjaaGreatDoor
