/-
  DERIVED. GIVEN WITH THE SEED: THE CARDS: each row of YtjpepfgbilbcdaaDoorRows.lean that lists a variable, with what it lists TIED to the program's text (the seventh form; the later family's looks); each row that meets fmt, with fmt's text TOLD by the authors' own Lean function (tested against real Go, not proved from fmt's source: count such statements apart). THE CARD IS WHAT COUNTS. Prove the row's statement (the work); the ties are given (YtjpepfgbilbcdaaDoorTie.lean); close each card by the builder's one call (the guide's Derived/Test/ToyasCard.lean, 'card_holds'). Laid BY PROGRAM, IN A SANDBOX (cutbox-door.mjs). By AI agents, Wed Nov 11 2026. No macro, syntax, notation, axiom, sorry.
-/
import Derived.Test.YtjpepfgbilbcdaaDoorRows
import GoSem.ClaimSeven
namespace Go.Proofs.YtjpepfgbilbcdaaDoor
namespace Rows

/-- THE TIED CARD OF 'augurlaw06.EvalNumbers'. -/
def evalNumbersCard : Claim7 := { stood := { row := evalNumbersRow, standIns := [], harness := (true, "a9f9ecf9b88635afe4a147a756506d66430228d149ec1ef73bf554de98e902da"), looks := false }, kinds := [], alts := [], laidByText := true, laidKinds := [.data, .data, .data, .data], laidTests := true, laidLooks := .later }
def EvalNumbersCardSaid : Prop := Claim7.holds Tryd.pinned (.plain (OpenSpec.ofChange evalNumbersSpec)) evalNumbersCard

/-- THE TIED CARD OF 'augurlaw22.LearnNumbers'. -/
def learnNumbersCard : Claim7 := { stood := { row := learnNumbersRow, standIns := [], harness := (true, "a9f9ecf9b88635afe4a147a756506d66430228d149ec1ef73bf554de98e902da"), looks := false }, kinds := [], alts := [], laidByText := true, laidKinds := [.data, .data, .data], laidTests := true, laidLooks := .later }
def LearnNumbersCardSaid : Prop := Claim7.holds Tryd.pinned (.plain (OpenSpec.ofChange learnNumbersSpec)) learnNumbersCard

/-- THE TIED CARD OF 'augurlaw14.MooreNumbers'. -/
def mooreNumbersCard : Claim7 := { stood := { row := mooreNumbersRow, standIns := [], harness := (true, "a9f9ecf9b88635afe4a147a756506d66430228d149ec1ef73bf554de98e902da"), looks := false }, kinds := [], alts := [], laidByText := true, laidKinds := [.data, .data, .data], laidTests := true, laidLooks := .later }
def MooreNumbersCardSaid : Prop := Claim7.holds Tryd.pinned (.plain (OpenSpec.ofChange mooreNumbersSpec)) mooreNumbersCard

/-- THE SECOND FORM's CARD OF 'augurlaw06.EvalNumbers'. -/
def evalNumbersUptoCard : Claim7 := { stood := { row := evalNumbersUptoRow, standIns := [], harness := (true, "a9f9ecf9b88635afe4a147a756506d66430228d149ec1ef73bf554de98e902da"), looks := false }, kinds := [], alts := [], laidByText := true, laidKinds := [.data, .data, .data, .data], laidTests := true, laidLooks := .later }
def EvalNumbersUptoCardSaid : Prop := Claim7.holds Tryd.pinned (.plain (OpenSpec.upto evalNumbersSpec)) evalNumbersUptoCard

/-- THE SECOND FORM's CARD OF 'augurlaw22.LearnNumbers'. -/
def learnNumbersUptoCard : Claim7 := { stood := { row := learnNumbersUptoRow, standIns := [], harness := (true, "a9f9ecf9b88635afe4a147a756506d66430228d149ec1ef73bf554de98e902da"), looks := false }, kinds := [], alts := [], laidByText := true, laidKinds := [.data, .data, .data], laidTests := true, laidLooks := .later }
def LearnNumbersUptoCardSaid : Prop := Claim7.holds Tryd.pinned (.plain (OpenSpec.upto learnNumbersSpec)) learnNumbersUptoCard

/-- THE SECOND FORM's CARD OF 'augurlaw14.MooreNumbers'. -/
def mooreNumbersUptoCard : Claim7 := { stood := { row := mooreNumbersUptoRow, standIns := [], harness := (true, "a9f9ecf9b88635afe4a147a756506d66430228d149ec1ef73bf554de98e902da"), looks := false }, kinds := [], alts := [], laidByText := true, laidKinds := [.data, .data, .data], laidTests := true, laidLooks := .later }
def MooreNumbersUptoCardSaid : Prop := Claim7.holds Tryd.pinned (.plain (OpenSpec.upto mooreNumbersSpec)) mooreNumbersUptoCard
end Rows
end Go.Proofs.YtjpepfgbilbcdaaDoor
