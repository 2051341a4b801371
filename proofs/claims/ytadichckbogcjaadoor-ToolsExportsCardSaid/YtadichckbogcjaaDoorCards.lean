/-
  DERIVED. GIVEN WITH THE SEED: THE CARDS: each row of YtadichckbogcjaaDoorRows.lean that lists a variable, with what it lists TIED to the program's text (the seventh form; the later family's looks); each row that meets fmt, with fmt's text TOLD by the authors' own Lean function (tested against real Go, not proved from fmt's source: count such statements apart). THE CARD IS WHAT COUNTS. Prove the row's statement (the work); the ties are given (YtadichckbogcjaaDoorTie.lean); close each card by the builder's one call (the guide's Derived/Test/ToyasCard.lean, 'card_holds'). Laid BY PROGRAM, IN A SANDBOX (cutbox-door.mjs). By AI agents, Wed Nov 11 2026. No macro, syntax, notation, axiom, sorry.
-/
import Derived.Test.YtadichckbogcjaaDoorRows
import GoSem.ClaimSeven
namespace Go.Proofs.YtadichckbogcjaaDoor
namespace Rows

/-- THE TIED CARD OF 'wayfinderlaw45.ToolsPictures'. -/
def toolsPicturesCard : Claim7 := { stood := { row := toolsPicturesRow, standIns := [], harness := (true, "4c73f445a58d892453277f9c94867de98a1a4e1c0f8c1c71797f4654ec53ad3f"), looks := true }, kinds := [], alts := [], laidByText := true, laidKinds := [.data, .data, .data], laidTests := true, laidLooks := .later }
def ToolsPicturesCardSaid : Prop := Claim7.holds Tryd.pinned (.plain (OpenSpec.ofChange toolsPicturesSpec)) toolsPicturesCard

/-- THE TIED CARD OF 'wayfinderlaw45.ToolsCompares'. -/
def toolsComparesCard : Claim7 := { stood := { row := toolsComparesRow, standIns := [], harness := (true, "4c73f445a58d892453277f9c94867de98a1a4e1c0f8c1c71797f4654ec53ad3f"), looks := true }, kinds := [], alts := [], laidByText := true, laidKinds := [.data, .data, .data], laidTests := true, laidLooks := .later }
def ToolsComparesCardSaid : Prop := Claim7.holds Tryd.pinned (.plain (OpenSpec.ofChange toolsComparesSpec)) toolsComparesCard

/-- THE TIED CARD OF 'wayfinderlaw45.ToolsExports'. -/
def toolsExportsCard : Claim7 := { stood := { row := toolsExportsRow, standIns := [], harness := (true, "4c73f445a58d892453277f9c94867de98a1a4e1c0f8c1c71797f4654ec53ad3f"), looks := true }, kinds := [], alts := [], laidByText := true, laidKinds := [.data, .data, .data, .data, .sentinel, .sentinel, .pinned], laidTests := true, laidLooks := .later }
def ToolsExportsCardSaid : Prop := Claim7.holds Tryd.pinned (.plain (OpenSpec.ofChange toolsExportsSpec)) toolsExportsCard

/-- THE TIED CARD OF 'wayfinderlaw45.ToolsImports'. -/
def toolsImportsCard : Claim7 := { stood := { row := toolsImportsRow, standIns := [], harness := (true, "4c73f445a58d892453277f9c94867de98a1a4e1c0f8c1c71797f4654ec53ad3f"), looks := true }, kinds := [], alts := [], laidByText := true, laidKinds := [.data, .data, .data, .data, .sentinel, .sentinel, .pinned], laidTests := true, laidLooks := .later }
def ToolsImportsCardSaid : Prop := Claim7.holds Tryd.pinned (.plain (OpenSpec.ofChange toolsImportsSpec)) toolsImportsCard

/-- THE SECOND FORM's CARD OF 'wayfinderlaw45.ToolsPictures'. -/
def toolsPicturesUptoCard : Claim7 := { stood := { row := toolsPicturesUptoRow, standIns := [], harness := (true, "4c73f445a58d892453277f9c94867de98a1a4e1c0f8c1c71797f4654ec53ad3f"), looks := true }, kinds := [], alts := [], laidByText := true, laidKinds := [.data, .data, .data], laidTests := true, laidLooks := .later }
def ToolsPicturesUptoCardSaid : Prop := Claim7.holds Tryd.pinned (.plain (OpenSpec.upto toolsPicturesSpec)) toolsPicturesUptoCard

/-- THE SECOND FORM's CARD OF 'wayfinderlaw45.ToolsCompares'. -/
def toolsComparesUptoCard : Claim7 := { stood := { row := toolsComparesUptoRow, standIns := [], harness := (true, "4c73f445a58d892453277f9c94867de98a1a4e1c0f8c1c71797f4654ec53ad3f"), looks := true }, kinds := [], alts := [], laidByText := true, laidKinds := [.data, .data, .data], laidTests := true, laidLooks := .later }
def ToolsComparesUptoCardSaid : Prop := Claim7.holds Tryd.pinned (.plain (OpenSpec.upto toolsComparesSpec)) toolsComparesUptoCard

/-- THE SECOND FORM's CARD OF 'wayfinderlaw45.ToolsExports'. -/
def toolsExportsUptoCard : Claim7 := { stood := { row := toolsExportsUptoRow, standIns := [], harness := (true, "4c73f445a58d892453277f9c94867de98a1a4e1c0f8c1c71797f4654ec53ad3f"), looks := true }, kinds := [], alts := [], laidByText := true, laidKinds := [.data, .data, .data, .data, .sentinel, .sentinel, .pinned], laidTests := true, laidLooks := .later }
def ToolsExportsUptoCardSaid : Prop := Claim7.holds Tryd.pinned (.plain (OpenSpec.upto toolsExportsSpec)) toolsExportsUptoCard

/-- THE SECOND FORM's CARD OF 'wayfinderlaw45.ToolsImports'. -/
def toolsImportsUptoCard : Claim7 := { stood := { row := toolsImportsUptoRow, standIns := [], harness := (true, "4c73f445a58d892453277f9c94867de98a1a4e1c0f8c1c71797f4654ec53ad3f"), looks := true }, kinds := [], alts := [], laidByText := true, laidKinds := [.data, .data, .data, .data, .sentinel, .sentinel, .pinned], laidTests := true, laidLooks := .later }
def ToolsImportsUptoCardSaid : Prop := Claim7.holds Tryd.pinned (.plain (OpenSpec.upto toolsImportsSpec)) toolsImportsUptoCard
end Rows
end Go.Proofs.YtadichckbogcjaaDoor
