/-
  DERIVED. GIVEN WITH THE SEED: THE CARDS: each row of YtnpoloachkcadaaGreatDoorRows.lean that lists a variable, with what it lists TIED to the program's text (the seventh form; the later family's looks); each row that meets fmt, with fmt's text TOLD by the authors' own Lean function (tested against real Go, not proved from fmt's source: count such statements apart). THE CARD IS WHAT COUNTS. Prove the row's statement (the work); the ties are given (YtnpoloachkcadaaGreatDoorTie.lean); close each card by the builder's one call (the guide's Derived/Test/ToyasCard.lean, 'card_holds'). Laid BY PROGRAM, IN A SANDBOX (cutbox-door.mjs). By AI agents, Wed Nov 11 2026. No macro, syntax, notation, axiom, sorry.
-/
import Derived.Test.YtnpoloachkcadaaGreatDoorRows
import GoSem.ClaimSeven
namespace Go.Proofs.YtnpoloachkcadaaGreatDoor
namespace Rows

/-- THE TIED CARD OF 'augurlaw03.TreeNumbers'. -/
def treeNumbersCard : Claim7 := { stood := { row := treeNumbersRow, standIns := [], harness := (true, "614d6a3fc9592d27cce9d1c5f3ea9250940c0e180e1942f7e679bdb7d40c9fd0"), looks := true }, kinds := [], alts := [], laidByText := true, laidKinds := [.data, .data, .data, .data, .sentinel, .sentinel, .data, .pinned], laidTests := true, laidLooks := .later }
def TreeNumbersCardSaid : Prop := Claim7.holds Tryz.pinned (.plain (OpenSpec.ofChange treeNumbersSpec)) treeNumbersCard

/-- THE TIED CARD OF 'augurlaw03.TreeRights'. -/
def treeRightsCard : Claim7 := { stood := { row := treeRightsRow, standIns := [], harness := (true, "614d6a3fc9592d27cce9d1c5f3ea9250940c0e180e1942f7e679bdb7d40c9fd0"), looks := true }, kinds := [], alts := [], laidByText := true, laidKinds := [.data, .data, .data, .data, .sentinel, .sentinel, .data, .pinned], laidTests := true, laidLooks := .later }
def TreeRightsCardSaid : Prop := Claim7.holds Tryz.pinned (.plain (OpenSpec.ofChange treeRightsSpec)) treeRightsCard

/-- THE TIED CARD OF 'augurlaw03.TreeTells'. -/
def treeTellsCard : Claim7 := { stood := { row := treeTellsRow, standIns := [], harness := (true, "614d6a3fc9592d27cce9d1c5f3ea9250940c0e180e1942f7e679bdb7d40c9fd0"), looks := true }, kinds := [], alts := [], laidByText := true, laidKinds := [.data, .data, .data, .data, .sentinel, .sentinel, .data, .pinned], laidTests := true, laidLooks := .later }
def TreeTellsCardSaid : Prop := Claim7.holds Tryz.pinned (.plain (OpenSpec.ofChange treeTellsSpec)) treeTellsCard

/-- THE TIED CARD OF 'augurlaw03.TreeOrders'. -/
def treeOrdersCard : Claim7 := { stood := { row := treeOrdersRow, standIns := [], harness := (true, "614d6a3fc9592d27cce9d1c5f3ea9250940c0e180e1942f7e679bdb7d40c9fd0"), looks := true }, kinds := [], alts := [], laidByText := true, laidKinds := [.data, .data, .data, .data, .sentinel, .sentinel, .data, .pinned], laidTests := true, laidLooks := .later }
def TreeOrdersCardSaid : Prop := Claim7.holds Tryz.pinned (.plain (OpenSpec.ofChange treeOrdersSpec)) treeOrdersCard

/-- THE TIED CARD OF 'augurlaw03.TreeAlls'. -/
def treeAllsCard : Claim7 := { stood := { row := treeAllsRow, standIns := [], harness := (true, "614d6a3fc9592d27cce9d1c5f3ea9250940c0e180e1942f7e679bdb7d40c9fd0"), looks := true }, kinds := [], alts := [], laidByText := true, laidKinds := [.data, .data, .data, .data, .sentinel, .sentinel, .data, .pinned], laidTests := true, laidLooks := .later }
def TreeAllsCardSaid : Prop := Claim7.holds Tryz.pinned (.plain (OpenSpec.ofChange treeAllsSpec)) treeAllsCard

/-- THE TIED CARD OF 'augurlaw03.TreePuts'. -/
def treePutsCard : Claim7 := { stood := { row := treePutsRow, standIns := [], harness := (true, "614d6a3fc9592d27cce9d1c5f3ea9250940c0e180e1942f7e679bdb7d40c9fd0"), looks := true }, kinds := [], alts := [], laidByText := true, laidKinds := [.data, .data, .data, .data, .sentinel, .sentinel, .data, .pinned], laidTests := true, laidLooks := .later }
def TreePutsCardSaid : Prop := Claim7.holds Tryz.pinned (.plain (OpenSpec.ofChange treePutsSpec)) treePutsCard

/-- THE TIED CARD OF 'augurlaw03.TreeRenames'. -/
def treeRenamesCard : Claim7 := { stood := { row := treeRenamesRow, standIns := [], harness := (true, "614d6a3fc9592d27cce9d1c5f3ea9250940c0e180e1942f7e679bdb7d40c9fd0"), looks := true }, kinds := [], alts := [], laidByText := true, laidKinds := [.data, .data, .data, .data, .sentinel, .sentinel, .data, .pinned], laidTests := true, laidLooks := .later }
def TreeRenamesCardSaid : Prop := Claim7.holds Tryz.pinned (.plain (OpenSpec.ofChange treeRenamesSpec)) treeRenamesCard

/-- THE TIED CARD OF 'augurlaw03.TreeRow'. -/
def treeRowCard : Claim7 := { stood := { row := treeRowRow, standIns := [], harness := (true, "614d6a3fc9592d27cce9d1c5f3ea9250940c0e180e1942f7e679bdb7d40c9fd0"), looks := true }, kinds := [], alts := [], laidByText := true, laidKinds := [.data, .data, .data, .data, .sentinel, .sentinel, .data, .pinned], laidTests := true, laidLooks := .later }
def TreeRowCardSaid : Prop := Claim7.holds Tryz.pinned (.plain (OpenSpec.ofChange treeRowSpec)) treeRowCard

/-- THE TIED CARD OF 'augurlaw03.TreePaths'. -/
def treePathsCard : Claim7 := { stood := { row := treePathsRow, standIns := [], harness := (true, "614d6a3fc9592d27cce9d1c5f3ea9250940c0e180e1942f7e679bdb7d40c9fd0"), looks := true }, kinds := [], alts := [], laidByText := true, laidKinds := [.data, .data, .data, .data, .sentinel, .sentinel, .data, .pinned], laidTests := true, laidLooks := .later }
def TreePathsCardSaid : Prop := Claim7.holds Tryz.pinned (.plain (OpenSpec.ofChange treePathsSpec)) treePathsCard

/-- THE TIED CARD OF 'augurlaw03.TreeBack'. -/
def treeBackCard : Claim7 := { stood := { row := treeBackRow, standIns := [], harness := (true, "614d6a3fc9592d27cce9d1c5f3ea9250940c0e180e1942f7e679bdb7d40c9fd0"), looks := true }, kinds := [], alts := [], laidByText := true, laidKinds := [.data, .data, .data, .data, .sentinel, .sentinel, .data, .pinned], laidTests := true, laidLooks := .later }
def TreeBackCardSaid : Prop := Claim7.holds Tryz.pinned (.plain (OpenSpec.ofChange treeBackSpec)) treeBackCard

/-- THE TIED CARD OF 'augurlaw03.TreeWithin'. -/
def treeWithinCard : Claim7 := { stood := { row := treeWithinRow, standIns := [], harness := (true, "614d6a3fc9592d27cce9d1c5f3ea9250940c0e180e1942f7e679bdb7d40c9fd0"), looks := true }, kinds := [], alts := [], laidByText := true, laidKinds := [.data, .data, .data, .data, .sentinel, .sentinel, .data, .pinned], laidTests := true, laidLooks := .later }
def TreeWithinCardSaid : Prop := Claim7.holds Tryz.pinned (.plain (OpenSpec.ofChange treeWithinSpec)) treeWithinCard

/-- THE SECOND FORM's CARD OF 'augurlaw03.TreeNumbers'. -/
def treeNumbersUptoCard : Claim7 := { stood := { row := treeNumbersUptoRow, standIns := [], harness := (true, "614d6a3fc9592d27cce9d1c5f3ea9250940c0e180e1942f7e679bdb7d40c9fd0"), looks := true }, kinds := [], alts := [], laidByText := true, laidKinds := [.data, .data, .data, .data, .sentinel, .sentinel, .data, .pinned], laidTests := true, laidLooks := .later }
def TreeNumbersUptoCardSaid : Prop := Claim7.holds Tryz.pinned (.plain (OpenSpec.upto treeNumbersSpec)) treeNumbersUptoCard

/-- THE SECOND FORM's CARD OF 'augurlaw03.TreeRights'. -/
def treeRightsUptoCard : Claim7 := { stood := { row := treeRightsUptoRow, standIns := [], harness := (true, "614d6a3fc9592d27cce9d1c5f3ea9250940c0e180e1942f7e679bdb7d40c9fd0"), looks := true }, kinds := [], alts := [], laidByText := true, laidKinds := [.data, .data, .data, .data, .sentinel, .sentinel, .data, .pinned], laidTests := true, laidLooks := .later }
def TreeRightsUptoCardSaid : Prop := Claim7.holds Tryz.pinned (.plain (OpenSpec.upto treeRightsSpec)) treeRightsUptoCard

/-- THE SECOND FORM's CARD OF 'augurlaw03.TreeTells'. -/
def treeTellsUptoCard : Claim7 := { stood := { row := treeTellsUptoRow, standIns := [], harness := (true, "614d6a3fc9592d27cce9d1c5f3ea9250940c0e180e1942f7e679bdb7d40c9fd0"), looks := true }, kinds := [], alts := [], laidByText := true, laidKinds := [.data, .data, .data, .data, .sentinel, .sentinel, .data, .pinned], laidTests := true, laidLooks := .later }
def TreeTellsUptoCardSaid : Prop := Claim7.holds Tryz.pinned (.plain (OpenSpec.upto treeTellsSpec)) treeTellsUptoCard

/-- THE SECOND FORM's CARD OF 'augurlaw03.TreeOrders'. -/
def treeOrdersUptoCard : Claim7 := { stood := { row := treeOrdersUptoRow, standIns := [], harness := (true, "614d6a3fc9592d27cce9d1c5f3ea9250940c0e180e1942f7e679bdb7d40c9fd0"), looks := true }, kinds := [], alts := [], laidByText := true, laidKinds := [.data, .data, .data, .data, .sentinel, .sentinel, .data, .pinned], laidTests := true, laidLooks := .later }
def TreeOrdersUptoCardSaid : Prop := Claim7.holds Tryz.pinned (.plain (OpenSpec.upto treeOrdersSpec)) treeOrdersUptoCard

/-- THE SECOND FORM's CARD OF 'augurlaw03.TreeAlls'. -/
def treeAllsUptoCard : Claim7 := { stood := { row := treeAllsUptoRow, standIns := [], harness := (true, "614d6a3fc9592d27cce9d1c5f3ea9250940c0e180e1942f7e679bdb7d40c9fd0"), looks := true }, kinds := [], alts := [], laidByText := true, laidKinds := [.data, .data, .data, .data, .sentinel, .sentinel, .data, .pinned], laidTests := true, laidLooks := .later }
def TreeAllsUptoCardSaid : Prop := Claim7.holds Tryz.pinned (.plain (OpenSpec.upto treeAllsSpec)) treeAllsUptoCard

/-- THE SECOND FORM's CARD OF 'augurlaw03.TreePuts'. -/
def treePutsUptoCard : Claim7 := { stood := { row := treePutsUptoRow, standIns := [], harness := (true, "614d6a3fc9592d27cce9d1c5f3ea9250940c0e180e1942f7e679bdb7d40c9fd0"), looks := true }, kinds := [], alts := [], laidByText := true, laidKinds := [.data, .data, .data, .data, .sentinel, .sentinel, .data, .pinned], laidTests := true, laidLooks := .later }
def TreePutsUptoCardSaid : Prop := Claim7.holds Tryz.pinned (.plain (OpenSpec.upto treePutsSpec)) treePutsUptoCard

/-- THE SECOND FORM's CARD OF 'augurlaw03.TreeRenames'. -/
def treeRenamesUptoCard : Claim7 := { stood := { row := treeRenamesUptoRow, standIns := [], harness := (true, "614d6a3fc9592d27cce9d1c5f3ea9250940c0e180e1942f7e679bdb7d40c9fd0"), looks := true }, kinds := [], alts := [], laidByText := true, laidKinds := [.data, .data, .data, .data, .sentinel, .sentinel, .data, .pinned], laidTests := true, laidLooks := .later }
def TreeRenamesUptoCardSaid : Prop := Claim7.holds Tryz.pinned (.plain (OpenSpec.upto treeRenamesSpec)) treeRenamesUptoCard

/-- THE SECOND FORM's CARD OF 'augurlaw03.TreeRow'. -/
def treeRowUptoCard : Claim7 := { stood := { row := treeRowUptoRow, standIns := [], harness := (true, "614d6a3fc9592d27cce9d1c5f3ea9250940c0e180e1942f7e679bdb7d40c9fd0"), looks := true }, kinds := [], alts := [], laidByText := true, laidKinds := [.data, .data, .data, .data, .sentinel, .sentinel, .data, .pinned], laidTests := true, laidLooks := .later }
def TreeRowUptoCardSaid : Prop := Claim7.holds Tryz.pinned (.plain (OpenSpec.upto treeRowSpec)) treeRowUptoCard

/-- THE SECOND FORM's CARD OF 'augurlaw03.TreePaths'. -/
def treePathsUptoCard : Claim7 := { stood := { row := treePathsUptoRow, standIns := [], harness := (true, "614d6a3fc9592d27cce9d1c5f3ea9250940c0e180e1942f7e679bdb7d40c9fd0"), looks := true }, kinds := [], alts := [], laidByText := true, laidKinds := [.data, .data, .data, .data, .sentinel, .sentinel, .data, .pinned], laidTests := true, laidLooks := .later }
def TreePathsUptoCardSaid : Prop := Claim7.holds Tryz.pinned (.plain (OpenSpec.upto treePathsSpec)) treePathsUptoCard

/-- THE SECOND FORM's CARD OF 'augurlaw03.TreeBack'. -/
def treeBackUptoCard : Claim7 := { stood := { row := treeBackUptoRow, standIns := [], harness := (true, "614d6a3fc9592d27cce9d1c5f3ea9250940c0e180e1942f7e679bdb7d40c9fd0"), looks := true }, kinds := [], alts := [], laidByText := true, laidKinds := [.data, .data, .data, .data, .sentinel, .sentinel, .data, .pinned], laidTests := true, laidLooks := .later }
def TreeBackUptoCardSaid : Prop := Claim7.holds Tryz.pinned (.plain (OpenSpec.upto treeBackSpec)) treeBackUptoCard

/-- THE SECOND FORM's CARD OF 'augurlaw03.TreeWithin'. -/
def treeWithinUptoCard : Claim7 := { stood := { row := treeWithinUptoRow, standIns := [], harness := (true, "614d6a3fc9592d27cce9d1c5f3ea9250940c0e180e1942f7e679bdb7d40c9fd0"), looks := true }, kinds := [], alts := [], laidByText := true, laidKinds := [.data, .data, .data, .data, .sentinel, .sentinel, .data, .pinned], laidTests := true, laidLooks := .later }
def TreeWithinUptoCardSaid : Prop := Claim7.holds Tryz.pinned (.plain (OpenSpec.upto treeWithinSpec)) treeWithinUptoCard
end Rows
end Go.Proofs.YtnpoloachkcadaaGreatDoor
