/-
  DERIVED. GIVEN WITH THE SEED: THE CARDS: each row of YtjpepfgbilbcdaaGreatDoorRows.lean that lists a variable, with what it lists TIED to the program's text (the seventh form; the later family's looks); each row that meets fmt, with fmt's text TOLD by the authors' own Lean function (tested against real Go, not proved from fmt's source: count such statements apart). THE CARD IS WHAT COUNTS. Prove the row's statement (the work); the ties are given (YtjpepfgbilbcdaaGreatDoorTie.lean); close each card by the builder's one call (the guide's Derived/Test/ToyasCard.lean, 'card_holds'). Laid BY PROGRAM, IN A SANDBOX (cutbox-door.mjs). By AI agents, Wed Nov 11 2026. No macro, syntax, notation, axiom, sorry.
-/
import Derived.Test.YtjpepfgbilbcdaaGreatDoorRows
import GoSem.ClaimSeven
namespace Go.Proofs.YtjpepfgbilbcdaaGreatDoor
namespace Rows

/-- THE TIED CARD OF 'augurlaw21.PatternsNumbers'. -/
def patternsNumbersCard : Claim7 := { stood := { row := patternsNumbersRow, standIns := [], harness := (true, "e49413d3f265a66b70e7ceca5da18a1db69653efe8b2fd83a0476680e0ad2300"), looks := true }, kinds := [], alts := [], laidByText := true, laidKinds := [.data, .data, .data, .data], laidTests := true, laidLooks := .later }
def PatternsNumbersCardSaid : Prop := Claim7.holds Tryz.pinned (.plain (OpenSpec.ofChange patternsNumbersSpec)) patternsNumbersCard

/-- THE TIED CARD OF 'augurlaw04.SyntaxNames'. -/
def syntaxNamesCard : Claim7 := { stood := { row := syntaxNamesRow, standIns := [], harness := (true, "e49413d3f265a66b70e7ceca5da18a1db69653efe8b2fd83a0476680e0ad2300"), looks := true }, kinds := [], alts := [], laidByText := true, laidKinds := [.data, .data, .data, .handle, .data], laidTests := true, laidLooks := .later }
def SyntaxNamesCardSaid : Prop := Claim7.holds Tryz.pinned (.plain (OpenSpec.ofChange syntaxNamesSpec)) syntaxNamesCard

/-- THE TIED CARD OF 'augurlaw03.TreeNumbers'. -/
def treeNumbersCard : Claim7 := { stood := { row := treeNumbersRow, standIns := [], harness := (true, "e49413d3f265a66b70e7ceca5da18a1db69653efe8b2fd83a0476680e0ad2300"), looks := true }, kinds := [], alts := [], laidByText := true, laidKinds := [.data, .data, .data, .data, .sentinel, .sentinel, .data, .pinned], laidTests := true, laidLooks := .later }
def TreeNumbersCardSaid : Prop := Claim7.holds Tryz.pinned (.plain (OpenSpec.ofChange treeNumbersSpec)) treeNumbersCard

/-- THE TIED CARD OF 'augurlaw08.PastNumbers'. -/
def pastNumbersCard : Claim7 := { stood := { row := pastNumbersRow, standIns := [], harness := (true, "e49413d3f265a66b70e7ceca5da18a1db69653efe8b2fd83a0476680e0ad2300"), looks := true }, kinds := [], alts := [], laidByText := true, laidKinds := [.data, .data, .data, .handle, .data], laidTests := true, laidLooks := .later }
def PastNumbersCardSaid : Prop := Claim7.holds Tryz.pinned (.plain (OpenSpec.ofChange pastNumbersSpec)) pastNumbersCard

/-- THE SECOND FORM's CARD OF 'augurlaw21.PatternsNumbers'. -/
def patternsNumbersUptoCard : Claim7 := { stood := { row := patternsNumbersUptoRow, standIns := [], harness := (true, "e49413d3f265a66b70e7ceca5da18a1db69653efe8b2fd83a0476680e0ad2300"), looks := true }, kinds := [], alts := [], laidByText := true, laidKinds := [.data, .data, .data, .data], laidTests := true, laidLooks := .later }
def PatternsNumbersUptoCardSaid : Prop := Claim7.holds Tryz.pinned (.plain (OpenSpec.upto patternsNumbersSpec)) patternsNumbersUptoCard

/-- THE SECOND FORM's CARD OF 'augurlaw04.SyntaxNames'. -/
def syntaxNamesUptoCard : Claim7 := { stood := { row := syntaxNamesUptoRow, standIns := [], harness := (true, "e49413d3f265a66b70e7ceca5da18a1db69653efe8b2fd83a0476680e0ad2300"), looks := true }, kinds := [], alts := [], laidByText := true, laidKinds := [.data, .data, .data, .handle, .data], laidTests := true, laidLooks := .later }
def SyntaxNamesUptoCardSaid : Prop := Claim7.holds Tryz.pinned (.plain (OpenSpec.upto syntaxNamesSpec)) syntaxNamesUptoCard

/-- THE SECOND FORM's CARD OF 'augurlaw03.TreeNumbers'. -/
def treeNumbersUptoCard : Claim7 := { stood := { row := treeNumbersUptoRow, standIns := [], harness := (true, "e49413d3f265a66b70e7ceca5da18a1db69653efe8b2fd83a0476680e0ad2300"), looks := true }, kinds := [], alts := [], laidByText := true, laidKinds := [.data, .data, .data, .data, .sentinel, .sentinel, .data, .pinned], laidTests := true, laidLooks := .later }
def TreeNumbersUptoCardSaid : Prop := Claim7.holds Tryz.pinned (.plain (OpenSpec.upto treeNumbersSpec)) treeNumbersUptoCard

/-- THE SECOND FORM's CARD OF 'augurlaw08.PastNumbers'. -/
def pastNumbersUptoCard : Claim7 := { stood := { row := pastNumbersUptoRow, standIns := [], harness := (true, "e49413d3f265a66b70e7ceca5da18a1db69653efe8b2fd83a0476680e0ad2300"), looks := true }, kinds := [], alts := [], laidByText := true, laidKinds := [.data, .data, .data, .handle, .data], laidTests := true, laidLooks := .later }
def PastNumbersUptoCardSaid : Prop := Claim7.holds Tryz.pinned (.plain (OpenSpec.upto pastNumbersSpec)) pastNumbersUptoCard
end Rows
end Go.Proofs.YtjpepfgbilbcdaaGreatDoor
