/-
  DERIVED. GIVEN WITH THE SEED: THE CARDS: each row of YtbeldhnfhifliaaDoorRows.lean that lists a variable, with what it lists TIED to the program's text (the seventh form; the later family's looks); each row that meets fmt, with fmt's text TOLD by the authors' own Lean function (tested against real Go, not proved from fmt's source: count such statements apart). THE CARD IS WHAT COUNTS. Prove the row's statement (the work); the ties are given (YtbeldhnfhifliaaDoorTie.lean); close each card by the builder's one call (the guide's Derived/Test/ToyasCard.lean, 'card_holds'). Laid BY PROGRAM, IN A SANDBOX (cutbox-door.mjs). By AI agents, Wed Nov 11 2026. No macro, syntax, notation, axiom, sorry.
-/
import Derived.Test.YtbeldhnfhifliaaDoorRows
import GoSem.ClaimSeven
namespace Go.Proofs.YtbeldhnfhifliaaDoor
namespace Rows

/-- THE TIED CARD OF 'augurlaw07.NnfNames'. -/
def nnfNamesCard : Claim7 := { stood := { row := nnfNamesRow, standIns := [], harness := (true, "3d6303c7bf24eb0af70e4c6141a87ccd76eb8639250e38def628b24ddb1b1b40"), looks := false }, kinds := [], alts := [], laidByText := true, laidKinds := [.data], laidTests := true, laidLooks := .later }
def NnfNamesCardSaid : Prop := Claim7.holds Tryd.pinned (.plain (OpenSpec.ofChange nnfNamesSpec)) nnfNamesCard

/-- THE SECOND FORM's CARD OF 'augurlaw07.NnfNames'. -/
def nnfNamesUptoCard : Claim7 := { stood := { row := nnfNamesUptoRow, standIns := [], harness := (true, "3d6303c7bf24eb0af70e4c6141a87ccd76eb8639250e38def628b24ddb1b1b40"), looks := false }, kinds := [], alts := [], laidByText := true, laidKinds := [.data], laidTests := true, laidLooks := .later }
def NnfNamesUptoCardSaid : Prop := Claim7.holds Tryd.pinned (.plain (OpenSpec.upto nnfNamesSpec)) nnfNamesUptoCard
end Rows
end Go.Proofs.YtbeldhnfhifliaaDoor
