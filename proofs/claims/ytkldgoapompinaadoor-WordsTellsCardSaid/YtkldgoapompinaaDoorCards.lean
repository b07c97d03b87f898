/-
  DERIVED. GIVEN WITH THE SEED: THE CARDS: each row of YtkldgoapompinaaDoorRows.lean that lists a variable, with what it lists TIED to the program's text (the seventh form; the later family's looks); each row that meets fmt, with fmt's text TOLD by the authors' own Lean function (tested against real Go, not proved from fmt's source: count such statements apart). THE CARD IS WHAT COUNTS. Prove the row's statement (the work); the ties are given (YtkldgoapompinaaDoorTie.lean); close each card by the builder's one call (the guide's Derived/Test/ToyasCard.lean, 'card_holds'). Laid BY PROGRAM, IN A SANDBOX (cutbox-door.mjs). By AI agents, Wed Nov 11 2026. No macro, syntax, notation, axiom, sorry.
-/
import Derived.Test.YtkldgoapompinaaDoorRows
import GoSem.ClaimSeven
namespace Go.Proofs.YtkldgoapompinaaDoor
namespace Rows

/-- THE TIED CARD OF 'augurlaw05.WordsNumbers'. -/
def wordsNumbersCard : Claim7 := { stood := { row := wordsNumbersRow, standIns := [], harness := (true, "daeb6149bc6fbafce4057f100049c1d88cd219e436605ff1943a54fa5fd2693d"), looks := false }, kinds := [], alts := [], laidByText := true, laidKinds := [.data, .data, .data], laidTests := true, laidLooks := .later }
def WordsNumbersCardSaid : Prop := Claim7.holds Tryd.pinned (.plain (OpenSpec.ofChange wordsNumbersSpec)) wordsNumbersCard

/-- THE TIED CARD OF 'augurlaw05.WordsTells'. -/
def wordsTellsCard : Claim7 := { stood := { row := wordsTellsRow, standIns := [], harness := (true, "daeb6149bc6fbafce4057f100049c1d88cd219e436605ff1943a54fa5fd2693d"), looks := false }, kinds := [], alts := [], laidByText := true, laidKinds := [.data, .data, .data], laidTests := true, laidLooks := .later }
def WordsTellsCardSaid : Prop := Claim7.holds Tryd.pinned (.plain (OpenSpec.ofChange wordsTellsSpec)) wordsTellsCard

/-- THE TIED CARD OF 'augurlaw05.WordsSame'. -/
def wordsSameCard : Claim7 := { stood := { row := wordsSameRow, standIns := [], harness := (true, "daeb6149bc6fbafce4057f100049c1d88cd219e436605ff1943a54fa5fd2693d"), looks := false }, kinds := [], alts := [], laidByText := true, laidKinds := [.data, .data, .data], laidTests := true, laidLooks := .later }
def WordsSameCardSaid : Prop := Claim7.holds Tryd.pinned (.plain (OpenSpec.ofChange wordsSameSpec)) wordsSameCard

/-- THE TIED CARD OF 'augurlaw05.WordsNormal'. -/
def wordsNormalCard : Claim7 := { stood := { row := wordsNormalRow, standIns := [], harness := (true, "daeb6149bc6fbafce4057f100049c1d88cd219e436605ff1943a54fa5fd2693d"), looks := false }, kinds := [], alts := [], laidByText := true, laidKinds := [.data, .data, .data], laidTests := true, laidLooks := .later }
def WordsNormalCardSaid : Prop := Claim7.holds Tryd.pinned (.plain (OpenSpec.ofChange wordsNormalSpec)) wordsNormalCard

/-- THE TIED CARD OF 'augurlaw05.WordsParts'. -/
def wordsPartsCard : Claim7 := { stood := { row := wordsPartsRow, standIns := [], harness := (true, "daeb6149bc6fbafce4057f100049c1d88cd219e436605ff1943a54fa5fd2693d"), looks := false }, kinds := [], alts := [], laidByText := true, laidKinds := [.data, .data, .data], laidTests := true, laidLooks := .later }
def WordsPartsCardSaid : Prop := Claim7.holds Tryd.pinned (.plain (OpenSpec.ofChange wordsPartsSpec)) wordsPartsCard

/-- THE TIED CARD OF 'augurlaw05.WordsAll'. -/
def wordsAllCard : Claim7 := { stood := { row := wordsAllRow, standIns := [], harness := (true, "daeb6149bc6fbafce4057f100049c1d88cd219e436605ff1943a54fa5fd2693d"), looks := false }, kinds := [], alts := [], laidByText := true, laidKinds := [.data, .data, .data], laidTests := true, laidLooks := .later }
def WordsAllCardSaid : Prop := Claim7.holds Tryd.pinned (.plain (OpenSpec.ofChange wordsAllSpec)) wordsAllCard

/-- THE TIED CARD OF 'augurlaw05.WordsOnce'. -/
def wordsOnceCard : Claim7 := { stood := { row := wordsOnceRow, standIns := [], harness := (true, "daeb6149bc6fbafce4057f100049c1d88cd219e436605ff1943a54fa5fd2693d"), looks := false }, kinds := [], alts := [], laidByText := true, laidKinds := [.data, .data, .data], laidTests := true, laidLooks := .later }
def WordsOnceCardSaid : Prop := Claim7.holds Tryd.pinned (.plain (OpenSpec.ofChange wordsOnceSpec)) wordsOnceCard

/-- THE TIED CARD OF 'augurlaw05.WordsReads'. -/
def wordsReadsCard : Claim7 := { stood := { row := wordsReadsRow, standIns := [], harness := (true, "daeb6149bc6fbafce4057f100049c1d88cd219e436605ff1943a54fa5fd2693d"), looks := false }, kinds := [], alts := [], laidByText := true, laidKinds := [.data, .data, .data], laidTests := true, laidLooks := .later }
def WordsReadsCardSaid : Prop := Claim7.holds Tryd.pinned (.plain (OpenSpec.ofChange wordsReadsSpec)) wordsReadsCard

/-- THE TIED CARD OF 'augurlaw05.WordsBack'. -/
def wordsBackCard : Claim7 := { stood := { row := wordsBackRow, standIns := [], harness := (true, "daeb6149bc6fbafce4057f100049c1d88cd219e436605ff1943a54fa5fd2693d"), looks := false }, kinds := [], alts := [], laidByText := true, laidKinds := [.data, .data, .data], laidTests := true, laidLooks := .later }
def WordsBackCardSaid : Prop := Claim7.holds Tryd.pinned (.plain (OpenSpec.ofChange wordsBackSpec)) wordsBackCard

/-- THE SECOND FORM's CARD OF 'augurlaw05.WordsNumbers'. -/
def wordsNumbersUptoCard : Claim7 := { stood := { row := wordsNumbersUptoRow, standIns := [], harness := (true, "daeb6149bc6fbafce4057f100049c1d88cd219e436605ff1943a54fa5fd2693d"), looks := false }, kinds := [], alts := [], laidByText := true, laidKinds := [.data, .data, .data], laidTests := true, laidLooks := .later }
def WordsNumbersUptoCardSaid : Prop := Claim7.holds Tryd.pinned (.plain (OpenSpec.upto wordsNumbersSpec)) wordsNumbersUptoCard

/-- THE SECOND FORM's CARD OF 'augurlaw05.WordsTells'. -/
def wordsTellsUptoCard : Claim7 := { stood := { row := wordsTellsUptoRow, standIns := [], harness := (true, "daeb6149bc6fbafce4057f100049c1d88cd219e436605ff1943a54fa5fd2693d"), looks := false }, kinds := [], alts := [], laidByText := true, laidKinds := [.data, .data, .data], laidTests := true, laidLooks := .later }
def WordsTellsUptoCardSaid : Prop := Claim7.holds Tryd.pinned (.plain (OpenSpec.upto wordsTellsSpec)) wordsTellsUptoCard

/-- THE SECOND FORM's CARD OF 'augurlaw05.WordsSame'. -/
def wordsSameUptoCard : Claim7 := { stood := { row := wordsSameUptoRow, standIns := [], harness := (true, "daeb6149bc6fbafce4057f100049c1d88cd219e436605ff1943a54fa5fd2693d"), looks := false }, kinds := [], alts := [], laidByText := true, laidKinds := [.data, .data, .data], laidTests := true, laidLooks := .later }
def WordsSameUptoCardSaid : Prop := Claim7.holds Tryd.pinned (.plain (OpenSpec.upto wordsSameSpec)) wordsSameUptoCard

/-- THE SECOND FORM's CARD OF 'augurlaw05.WordsNormal'. -/
def wordsNormalUptoCard : Claim7 := { stood := { row := wordsNormalUptoRow, standIns := [], harness := (true, "daeb6149bc6fbafce4057f100049c1d88cd219e436605ff1943a54fa5fd2693d"), looks := false }, kinds := [], alts := [], laidByText := true, laidKinds := [.data, .data, .data], laidTests := true, laidLooks := .later }
def WordsNormalUptoCardSaid : Prop := Claim7.holds Tryd.pinned (.plain (OpenSpec.upto wordsNormalSpec)) wordsNormalUptoCard

/-- THE SECOND FORM's CARD OF 'augurlaw05.WordsParts'. -/
def wordsPartsUptoCard : Claim7 := { stood := { row := wordsPartsUptoRow, standIns := [], harness := (true, "daeb6149bc6fbafce4057f100049c1d88cd219e436605ff1943a54fa5fd2693d"), looks := false }, kinds := [], alts := [], laidByText := true, laidKinds := [.data, .data, .data], laidTests := true, laidLooks := .later }
def WordsPartsUptoCardSaid : Prop := Claim7.holds Tryd.pinned (.plain (OpenSpec.upto wordsPartsSpec)) wordsPartsUptoCard

/-- THE SECOND FORM's CARD OF 'augurlaw05.WordsAll'. -/
def wordsAllUptoCard : Claim7 := { stood := { row := wordsAllUptoRow, standIns := [], harness := (true, "daeb6149bc6fbafce4057f100049c1d88cd219e436605ff1943a54fa5fd2693d"), looks := false }, kinds := [], alts := [], laidByText := true, laidKinds := [.data, .data, .data], laidTests := true, laidLooks := .later }
def WordsAllUptoCardSaid : Prop := Claim7.holds Tryd.pinned (.plain (OpenSpec.upto wordsAllSpec)) wordsAllUptoCard

/-- THE SECOND FORM's CARD OF 'augurlaw05.WordsOnce'. -/
def wordsOnceUptoCard : Claim7 := { stood := { row := wordsOnceUptoRow, standIns := [], harness := (true, "daeb6149bc6fbafce4057f100049c1d88cd219e436605ff1943a54fa5fd2693d"), looks := false }, kinds := [], alts := [], laidByText := true, laidKinds := [.data, .data, .data], laidTests := true, laidLooks := .later }
def WordsOnceUptoCardSaid : Prop := Claim7.holds Tryd.pinned (.plain (OpenSpec.upto wordsOnceSpec)) wordsOnceUptoCard

/-- THE SECOND FORM's CARD OF 'augurlaw05.WordsReads'. -/
def wordsReadsUptoCard : Claim7 := { stood := { row := wordsReadsUptoRow, standIns := [], harness := (true, "daeb6149bc6fbafce4057f100049c1d88cd219e436605ff1943a54fa5fd2693d"), looks := false }, kinds := [], alts := [], laidByText := true, laidKinds := [.data, .data, .data], laidTests := true, laidLooks := .later }
def WordsReadsUptoCardSaid : Prop := Claim7.holds Tryd.pinned (.plain (OpenSpec.upto wordsReadsSpec)) wordsReadsUptoCard

/-- THE SECOND FORM's CARD OF 'augurlaw05.WordsBack'. -/
def wordsBackUptoCard : Claim7 := { stood := { row := wordsBackUptoRow, standIns := [], harness := (true, "daeb6149bc6fbafce4057f100049c1d88cd219e436605ff1943a54fa5fd2693d"), looks := false }, kinds := [], alts := [], laidByText := true, laidKinds := [.data, .data, .data], laidTests := true, laidLooks := .later }
def WordsBackUptoCardSaid : Prop := Claim7.holds Tryd.pinned (.plain (OpenSpec.upto wordsBackSpec)) wordsBackUptoCard
end Rows
end Go.Proofs.YtkldgoapompinaaDoor
