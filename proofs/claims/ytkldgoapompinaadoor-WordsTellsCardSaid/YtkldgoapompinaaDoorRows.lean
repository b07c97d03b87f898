/-
  NARROWER THAN 'FOR EVERY INPUT', by the rows' own cells (each row's printed sentence says how): WordsNumbers: laid · WordsTells: laid · WordsSame: laid · WordsNormal: laid · WordsParts: laid · WordsAll: laid · WordsOnce: laid · WordsReads: laid · WordsBack: laid.
  DERIVED. THE GIVEN ROWS OF THIS SEAT. 9 by the template 'for every input the law returns true; each argument reads behind the call as it read before'; 0 by the template 'total and deterministic' (their statements: YtkldgoapompinaaDoorTotals.lean).
  GIVEN WITH THE SEED: the statements are not yours to turn. If you find one false, say at which input.
  Laid BY PROGRAM, IN A SANDBOX (cutbox-rows.mjs): the forced cells as the released guide's own fill.sh prints them over the translation 92203c00bdc2c675… (all of the seat's roots in one cut). By AI agents, Wed Nov 11 2026. No macro, syntax, notation, axiom, sorry.
-/
import Derived.Test.YtkldgoapompinaaDoorChecked
import GoSem.Claim
import GoSem.ClaimJoined
import GoSem.ClaimMapViews
import Derived.JoinedTies
import Derived.KernelRfl
namespace Go.Proofs.YtkldgoapompinaaDoor
/- THE CELL 'sum', in the pinned program and in every row, IS THE sha256 OF THE DUMP (.gsa) THAT YtkldgoapompinaaDoorProg.lean LOADS. Nothing in Lean hashes anything: it is a label: what it is worth is what the hold of that sum in a sandbox is worth. -/
noncomputable def Tryd.pinned : Pinned := { name := "ytkldgoapompinaadoor", sum := "92203c00bdc2c67549ac7e638fb694cde4f1f9d31fb829fd3687807949abf2f2", checked := Tryd.checked }
namespace Rows
def none {H : Type} : Left H := { results := [], args := [] }

/- WHAT THE LISTED PACKAGE-LEVEL VARIABLES READ AS WHEN THE CALL BEGINS. Each datum BY PROGRAM (the guide's laid-datum.mjs) off the statement by which the dump's own 'gosem.cut.vars' lays the variable. In a bare row this is a premise. The card (YtkldgoapompinaaDoorCards.lean) ties it to the program's text. -/
def laid_math_bits_deBruijn32tab {H : Type} : DataW H := .agg [.lit (.int .u8 0), .lit (.int .u8 1), .lit (.int .u8 28), .lit (.int .u8 2), .lit (.int .u8 29), .lit (.int .u8 14), .lit (.int .u8 24), .lit (.int .u8 3), .lit (.int .u8 30), .lit (.int .u8 22), .lit (.int .u8 20), .lit (.int .u8 15), .lit (.int .u8 25), .lit (.int .u8 17), .lit (.int .u8 4), .lit (.int .u8 8), .lit (.int .u8 31), .lit (.int .u8 27), .lit (.int .u8 13), .lit (.int .u8 23), .lit (.int .u8 21), .lit (.int .u8 19), .lit (.int .u8 16), .lit (.int .u8 7), .lit (.int .u8 26), .lit (.int .u8 12), .lit (.int .u8 18), .lit (.int .u8 6), .lit (.int .u8 11), .lit (.int .u8 5), .lit (.int .u8 10), .lit (.int .u8 9)]
def laid_math_bits_deBruijn64tab {H : Type} : DataW H := .agg [.lit (.int .u8 0), .lit (.int .u8 1), .lit (.int .u8 56), .lit (.int .u8 2), .lit (.int .u8 57), .lit (.int .u8 49), .lit (.int .u8 28), .lit (.int .u8 3), .lit (.int .u8 61), .lit (.int .u8 58), .lit (.int .u8 42), .lit (.int .u8 50), .lit (.int .u8 38), .lit (.int .u8 29), .lit (.int .u8 17), .lit (.int .u8 4), .lit (.int .u8 62), .lit (.int .u8 47), .lit (.int .u8 59), .lit (.int .u8 36), .lit (.int .u8 45), .lit (.int .u8 43), .lit (.int .u8 51), .lit (.int .u8 22), .lit (.int .u8 53), .lit (.int .u8 39), .lit (.int .u8 33), .lit (.int .u8 30), .lit (.int .u8 24), .lit (.int .u8 18), .lit (.int .u8 12), .lit (.int .u8 5), .lit (.int .u8 63), .lit (.int .u8 55), .lit (.int .u8 48), .lit (.int .u8 27), .lit (.int .u8 60), .lit (.int .u8 41), .lit (.int .u8 37), .lit (.int .u8 16), .lit (.int .u8 46), .lit (.int .u8 35), .lit (.int .u8 44), .lit (.int .u8 21), .lit (.int .u8 52), .lit (.int .u8 32), .lit (.int .u8 23), .lit (.int .u8 11), .lit (.int .u8 54), .lit (.int .u8 26), .lit (.int .u8 40), .lit (.int .u8 15), .lit (.int .u8 34), .lit (.int .u8 20), .lit (.int .u8 31), .lit (.int .u8 10), .lit (.int .u8 25), .lit (.int .u8 14), .lit (.int .u8 19), .lit (.int .u8 9), .lit (.int .u8 13), .lit (.int .u8 8), .lit (.int .u8 7), .lit (.int .u8 6)]
def laid_internal_strconv_uint64pow10 {H : Type} : DataW H := .agg [.lit (.int .u64 1), .lit (.int .u64 10), .lit (.int .u64 100), .lit (.int .u64 1000), .lit (.int .u64 10000), .lit (.int .u64 100000), .lit (.int .u64 1000000), .lit (.int .u64 10000000), .lit (.int .u64 100000000), .lit (.int .u64 1000000000), .lit (.int .u64 10000000000), .lit (.int .u64 100000000000), .lit (.int .u64 1000000000000), .lit (.int .u64 10000000000000), .lit (.int .u64 100000000000000), .lit (.int .u64 1000000000000000), .lit (.int .u64 10000000000000000), .lit (.int .u64 100000000000000000), .lit (.int .u64 1000000000000000000), .lit (.int .u64 10000000000000000000)]

/-- 'augurlaw05.WordsNumbers': WHATEVER THE INPUT: true; the input reads as it did. -/
def wordsNumbersSpec : ChangeSpec := { name := "wordsNumbers", fn := fun _ => fun
  | [] => { results := [.lit (.bool true)], args := [] }
  | _ => none }
def wordsNumbersRow : OpenClaim := { program := "ytkldgoapompinaadoor", sum := "92203c00bdc2c67549ac7e638fb694cde4f1f9d31fb829fd3687807949abf2f2", func := "augur/augurlaw05.WordsNumbers", spec := "wordsNumbers", inPlace := ["internal/abi.NoEscape"], unfollowed := true, recurses := true, named := ["internal/strconv.uint64pow10", "math/bits.deBruijn32tab", "math/bits.deBruijn64tab"], apart := false, laid := [("math/bits.deBruijn32tab", laid_math_bits_deBruijn32tab), ("math/bits.deBruijn64tab", laid_math_bits_deBruijn64tab), ("internal/strconv.uint64pow10", laid_internal_strconv_uint64pow10)] }
def WordsNumbersSaid : Prop := wordsNumbersRow.holds Tryd.pinned (OpenSpec.ofChange wordsNumbersSpec)

/-- ITS FALSE NEIGHBOUR: 'it returns false'. Refute it at one input. -/
def wordsNumbersWrong : ChangeSpec := { name := "wordsNumbers", fn := fun _ => fun
  | [] => { results := [.lit (.bool false)], args := [] }
  | _ => none }
def WordsNumbersWrongFalsely : Prop := wordsNumbersRow.holds Tryd.pinned (OpenSpec.ofChange wordsNumbersWrong)

/-- 'augurlaw05.WordsTells': WHATEVER THE INPUT: true; the input reads as it did. -/
def wordsTellsSpec : ChangeSpec := { name := "wordsTells", fn := fun _ => fun
  | [d1, d2, d3, d4, d5] => { results := [.lit (.bool true)], args := [d1, d2, d3, d4, d5] }
  | _ => none }
def wordsTellsRow : OpenClaim := { program := "ytkldgoapompinaadoor", sum := "92203c00bdc2c67549ac7e638fb694cde4f1f9d31fb829fd3687807949abf2f2", func := "augur/augurlaw05.WordsTells", spec := "wordsTells", inPlace := ["internal/abi.NoEscape"], unfollowed := true, recurses := true, named := ["internal/strconv.uint64pow10", "math/bits.deBruijn32tab", "math/bits.deBruijn64tab"], apart := false, laid := [("math/bits.deBruijn32tab", laid_math_bits_deBruijn32tab), ("math/bits.deBruijn64tab", laid_math_bits_deBruijn64tab), ("internal/strconv.uint64pow10", laid_internal_strconv_uint64pow10)] }
def WordsTellsSaid : Prop := wordsTellsRow.holds Tryd.pinned (OpenSpec.ofChange wordsTellsSpec)

/-- ITS FALSE NEIGHBOUR: 'it returns false'. Refute it at one input. -/
def wordsTellsWrong : ChangeSpec := { name := "wordsTells", fn := fun _ => fun
  | [d1, d2, d3, d4, d5] => { results := [.lit (.bool false)], args := [d1, d2, d3, d4, d5] }
  | _ => none }
def WordsTellsWrongFalsely : Prop := wordsTellsRow.holds Tryd.pinned (OpenSpec.ofChange wordsTellsWrong)

/-- 'augurlaw05.WordsSame': WHATEVER THE INPUT: true; the input reads as it did. -/
def wordsSameSpec : ChangeSpec := { name := "wordsSame", fn := fun _ => fun
  | [d1, d2] => { results := [.lit (.bool true)], args := [d1, d2] }
  | _ => none }
def wordsSameRow : OpenClaim := { program := "ytkldgoapompinaadoor", sum := "92203c00bdc2c67549ac7e638fb694cde4f1f9d31fb829fd3687807949abf2f2", func := "augur/augurlaw05.WordsSame", spec := "wordsSame", inPlace := ["internal/abi.NoEscape"], unfollowed := true, recurses := true, named := ["internal/strconv.uint64pow10", "math/bits.deBruijn32tab", "math/bits.deBruijn64tab"], apart := false, laid := [("math/bits.deBruijn32tab", laid_math_bits_deBruijn32tab), ("math/bits.deBruijn64tab", laid_math_bits_deBruijn64tab), ("internal/strconv.uint64pow10", laid_internal_strconv_uint64pow10)] }
def WordsSameSaid : Prop := wordsSameRow.holds Tryd.pinned (OpenSpec.ofChange wordsSameSpec)

/-- ITS FALSE NEIGHBOUR: 'it returns false'. Refute it at one input. -/
def wordsSameWrong : ChangeSpec := { name := "wordsSame", fn := fun _ => fun
  | [d1, d2] => { results := [.lit (.bool false)], args := [d1, d2] }
  | _ => none }
def WordsSameWrongFalsely : Prop := wordsSameRow.holds Tryd.pinned (OpenSpec.ofChange wordsSameWrong)

/-- 'augurlaw05.WordsNormal': WHATEVER THE INPUT: true; the input reads as it did. -/
def wordsNormalSpec : ChangeSpec := { name := "wordsNormal", fn := fun _ => fun
  | [d1, d2, d3] => { results := [.lit (.bool true)], args := [d1, d2, d3] }
  | _ => none }
def wordsNormalRow : OpenClaim := { program := "ytkldgoapompinaadoor", sum := "92203c00bdc2c67549ac7e638fb694cde4f1f9d31fb829fd3687807949abf2f2", func := "augur/augurlaw05.WordsNormal", spec := "wordsNormal", inPlace := ["internal/abi.NoEscape"], unfollowed := true, recurses := true, named := ["internal/strconv.uint64pow10", "math/bits.deBruijn32tab", "math/bits.deBruijn64tab"], apart := false, laid := [("math/bits.deBruijn32tab", laid_math_bits_deBruijn32tab), ("math/bits.deBruijn64tab", laid_math_bits_deBruijn64tab), ("internal/strconv.uint64pow10", laid_internal_strconv_uint64pow10)] }
def WordsNormalSaid : Prop := wordsNormalRow.holds Tryd.pinned (OpenSpec.ofChange wordsNormalSpec)

/-- ITS FALSE NEIGHBOUR: 'it returns false'. Refute it at one input. -/
def wordsNormalWrong : ChangeSpec := { name := "wordsNormal", fn := fun _ => fun
  | [d1, d2, d3] => { results := [.lit (.bool false)], args := [d1, d2, d3] }
  | _ => none }
def WordsNormalWrongFalsely : Prop := wordsNormalRow.holds Tryd.pinned (OpenSpec.ofChange wordsNormalWrong)

/-- 'augurlaw05.WordsParts': WHATEVER THE INPUT: true; the input reads as it did. -/
def wordsPartsSpec : ChangeSpec := { name := "wordsParts", fn := fun _ => fun
  | [d1, d2, d3] => { results := [.lit (.bool true)], args := [d1, d2, d3] }
  | _ => none }
def wordsPartsRow : OpenClaim := { program := "ytkldgoapompinaadoor", sum := "92203c00bdc2c67549ac7e638fb694cde4f1f9d31fb829fd3687807949abf2f2", func := "augur/augurlaw05.WordsParts", spec := "wordsParts", inPlace := ["internal/abi.NoEscape"], unfollowed := true, recurses := true, named := ["internal/strconv.uint64pow10", "math/bits.deBruijn32tab", "math/bits.deBruijn64tab"], apart := false, laid := [("math/bits.deBruijn32tab", laid_math_bits_deBruijn32tab), ("math/bits.deBruijn64tab", laid_math_bits_deBruijn64tab), ("internal/strconv.uint64pow10", laid_internal_strconv_uint64pow10)] }
def WordsPartsSaid : Prop := wordsPartsRow.holds Tryd.pinned (OpenSpec.ofChange wordsPartsSpec)

/-- ITS FALSE NEIGHBOUR: 'it returns false'. Refute it at one input. -/
def wordsPartsWrong : ChangeSpec := { name := "wordsParts", fn := fun _ => fun
  | [d1, d2, d3] => { results := [.lit (.bool false)], args := [d1, d2, d3] }
  | _ => none }
def WordsPartsWrongFalsely : Prop := wordsPartsRow.holds Tryd.pinned (OpenSpec.ofChange wordsPartsWrong)

/-- 'augurlaw05.WordsAll': WHATEVER THE INPUT: true; the input reads as it did. -/
def wordsAllSpec : ChangeSpec := { name := "wordsAll", fn := fun _ => fun
  | [d1, d2, d3, d4] => { results := [.lit (.bool true)], args := [d1, d2, d3, d4] }
  | _ => none }
def wordsAllRow : OpenClaim := { program := "ytkldgoapompinaadoor", sum := "92203c00bdc2c67549ac7e638fb694cde4f1f9d31fb829fd3687807949abf2f2", func := "augur/augurlaw05.WordsAll", spec := "wordsAll", inPlace := ["internal/abi.NoEscape"], unfollowed := true, recurses := true, named := ["internal/strconv.uint64pow10", "math/bits.deBruijn32tab", "math/bits.deBruijn64tab"], apart := false, laid := [("math/bits.deBruijn32tab", laid_math_bits_deBruijn32tab), ("math/bits.deBruijn64tab", laid_math_bits_deBruijn64tab), ("internal/strconv.uint64pow10", laid_internal_strconv_uint64pow10)] }
def WordsAllSaid : Prop := wordsAllRow.holds Tryd.pinned (OpenSpec.ofChange wordsAllSpec)

/-- ITS FALSE NEIGHBOUR: 'it returns false'. Refute it at one input. -/
def wordsAllWrong : ChangeSpec := { name := "wordsAll", fn := fun _ => fun
  | [d1, d2, d3, d4] => { results := [.lit (.bool false)], args := [d1, d2, d3, d4] }
  | _ => none }
def WordsAllWrongFalsely : Prop := wordsAllRow.holds Tryd.pinned (OpenSpec.ofChange wordsAllWrong)

/-- 'augurlaw05.WordsOnce': WHATEVER THE INPUT: true; the input reads as it did. -/
def wordsOnceSpec : ChangeSpec := { name := "wordsOnce", fn := fun _ => fun
  | [d1, d2, d3] => { results := [.lit (.bool true)], args := [d1, d2, d3] }
  | _ => none }
def wordsOnceRow : OpenClaim := { program := "ytkldgoapompinaadoor", sum := "92203c00bdc2c67549ac7e638fb694cde4f1f9d31fb829fd3687807949abf2f2", func := "augur/augurlaw05.WordsOnce", spec := "wordsOnce", inPlace := ["internal/abi.NoEscape"], unfollowed := true, recurses := true, named := ["internal/strconv.uint64pow10", "math/bits.deBruijn32tab", "math/bits.deBruijn64tab"], apart := false, laid := [("math/bits.deBruijn32tab", laid_math_bits_deBruijn32tab), ("math/bits.deBruijn64tab", laid_math_bits_deBruijn64tab), ("internal/strconv.uint64pow10", laid_internal_strconv_uint64pow10)] }
def WordsOnceSaid : Prop := wordsOnceRow.holds Tryd.pinned (OpenSpec.ofChange wordsOnceSpec)

/-- ITS FALSE NEIGHBOUR: 'it returns false'. Refute it at one input. -/
def wordsOnceWrong : ChangeSpec := { name := "wordsOnce", fn := fun _ => fun
  | [d1, d2, d3] => { results := [.lit (.bool false)], args := [d1, d2, d3] }
  | _ => none }
def WordsOnceWrongFalsely : Prop := wordsOnceRow.holds Tryd.pinned (OpenSpec.ofChange wordsOnceWrong)

/-- 'augurlaw05.WordsReads': WHATEVER THE INPUT: true; the input reads as it did. -/
def wordsReadsSpec : ChangeSpec := { name := "wordsReads", fn := fun _ => fun
  | [d] => { results := [.lit (.bool true)], args := [d] }
  | _ => none }
def wordsReadsRow : OpenClaim := { program := "ytkldgoapompinaadoor", sum := "92203c00bdc2c67549ac7e638fb694cde4f1f9d31fb829fd3687807949abf2f2", func := "augur/augurlaw05.WordsReads", spec := "wordsReads", inPlace := ["internal/abi.NoEscape"], unfollowed := true, recurses := true, named := ["internal/strconv.uint64pow10", "math/bits.deBruijn32tab", "math/bits.deBruijn64tab"], apart := false, laid := [("math/bits.deBruijn32tab", laid_math_bits_deBruijn32tab), ("math/bits.deBruijn64tab", laid_math_bits_deBruijn64tab), ("internal/strconv.uint64pow10", laid_internal_strconv_uint64pow10)] }
def WordsReadsSaid : Prop := wordsReadsRow.holds Tryd.pinned (OpenSpec.ofChange wordsReadsSpec)

/-- ITS FALSE NEIGHBOUR: 'it returns false'. Refute it at one input. -/
def wordsReadsWrong : ChangeSpec := { name := "wordsReads", fn := fun _ => fun
  | [d] => { results := [.lit (.bool false)], args := [d] }
  | _ => none }
def WordsReadsWrongFalsely : Prop := wordsReadsRow.holds Tryd.pinned (OpenSpec.ofChange wordsReadsWrong)

/-- 'augurlaw05.WordsBack': WHATEVER THE INPUT: true; the input reads as it did. -/
def wordsBackSpec : ChangeSpec := { name := "wordsBack", fn := fun _ => fun
  | [d] => { results := [.lit (.bool true)], args := [d] }
  | _ => none }
def wordsBackRow : OpenClaim := { program := "ytkldgoapompinaadoor", sum := "92203c00bdc2c67549ac7e638fb694cde4f1f9d31fb829fd3687807949abf2f2", func := "augur/augurlaw05.WordsBack", spec := "wordsBack", inPlace := ["internal/abi.NoEscape"], unfollowed := true, recurses := true, named := ["internal/strconv.uint64pow10", "math/bits.deBruijn32tab", "math/bits.deBruijn64tab"], apart := false, laid := [("math/bits.deBruijn32tab", laid_math_bits_deBruijn32tab), ("math/bits.deBruijn64tab", laid_math_bits_deBruijn64tab), ("internal/strconv.uint64pow10", laid_internal_strconv_uint64pow10)] }
def WordsBackSaid : Prop := wordsBackRow.holds Tryd.pinned (OpenSpec.ofChange wordsBackSpec)

/-- ITS FALSE NEIGHBOUR: 'it returns false'. Refute it at one input. -/
def wordsBackWrong : ChangeSpec := { name := "wordsBack", fn := fun _ => fun
  | [d] => { results := [.lit (.bool false)], args := [d] }
  | _ => none }
def WordsBackWrongFalsely : Prop := wordsBackRow.holds Tryd.pinned (OpenSpec.ofChange wordsBackWrong)

/- THE SECOND FORM. 'bulk': how many values and letters a reading holds, each counted each time it is reached (what is shared counts as often as it is met; a slice's spare places count too). A statement '..UptoSaid' is the law's where the arguments, and the package variables that the reading takes, are together of bulk at most 1048576: NARROWER than '..Said'. Prove '..Said' where nothing that the law and all that it calls make is longer than what came in: it says more and counts as full. Else prove '..UptoSaid'. A law counts once. -/
mutual
def uptoBulk {H : Type} : DataW H → Nat
  | .lit (.string bytes) => bytes.length + 1
  | .lit _ => 1
  | .nil => 1
  | .ptr d => uptoBulk d + 1
  | .slice elems spare => uptoBulkAll elems + uptoBulkAll spare + 1
  | .agg parts => uptoBulkAll parts + 1
  | .iface _ d => uptoBulk d + 1
  | .map entries => uptoBulkEntries entries + 1
  | .held _ => 1
def uptoBulkAll {H : Type} : List (DataW H) → Nat
  | [] => 0
  | d :: r => uptoBulk d + uptoBulkAll r
def uptoBulkEntries {H : Type} : List (Lit × DataW H) → Nat
  | [] => 0
  | x :: r => uptoBulkEntry x + uptoBulkEntries r
def uptoBulkEntry {H : Type} : Lit × DataW H → Nat
  | (.string bytes, d) => bytes.length + uptoBulk d + 1
  | (_, d) => uptoBulk d + 1
 end
def uptoSmall : (H : Type) → List (DataW H) → Bool := fun _ ds => decide (uptoBulkAll ds ≤ 1048576)
def OpenSpec.upto (s : _root_.Go.ChangeSpec) : _root_.Go.OpenSpec := { _root_.Go.OpenSpec.ofChange s with cond := some uptoSmall }

/-- 'augurlaw05.WordsNumbers', WHERE WHAT IT READS IS OF BULK AT MOST 1048576: true; the input reads as it did. -/
def wordsNumbersUptoRow : OpenClaim := { program := "ytkldgoapompinaadoor", sum := "92203c00bdc2c67549ac7e638fb694cde4f1f9d31fb829fd3687807949abf2f2", func := "augur/augurlaw05.WordsNumbers", spec := "wordsNumbers", inPlace := ["internal/abi.NoEscape"], unfollowed := true, recurses := true, named := ["internal/strconv.uint64pow10", "math/bits.deBruijn32tab", "math/bits.deBruijn64tab"], apart := false, laid := [("math/bits.deBruijn32tab", laid_math_bits_deBruijn32tab), ("math/bits.deBruijn64tab", laid_math_bits_deBruijn64tab), ("internal/strconv.uint64pow10", laid_internal_strconv_uint64pow10)], narrowed := true }
def WordsNumbersUptoSaid : Prop := wordsNumbersUptoRow.holds Tryd.pinned (OpenSpec.upto wordsNumbersSpec)

/-- 'augurlaw05.WordsTells', WHERE WHAT IT READS IS OF BULK AT MOST 1048576: true; the input reads as it did. -/
def wordsTellsUptoRow : OpenClaim := { program := "ytkldgoapompinaadoor", sum := "92203c00bdc2c67549ac7e638fb694cde4f1f9d31fb829fd3687807949abf2f2", func := "augur/augurlaw05.WordsTells", spec := "wordsTells", inPlace := ["internal/abi.NoEscape"], unfollowed := true, recurses := true, named := ["internal/strconv.uint64pow10", "math/bits.deBruijn32tab", "math/bits.deBruijn64tab"], apart := false, laid := [("math/bits.deBruijn32tab", laid_math_bits_deBruijn32tab), ("math/bits.deBruijn64tab", laid_math_bits_deBruijn64tab), ("internal/strconv.uint64pow10", laid_internal_strconv_uint64pow10)], narrowed := true }
def WordsTellsUptoSaid : Prop := wordsTellsUptoRow.holds Tryd.pinned (OpenSpec.upto wordsTellsSpec)

/-- 'augurlaw05.WordsSame', WHERE WHAT IT READS IS OF BULK AT MOST 1048576: true; the input reads as it did. -/
def wordsSameUptoRow : OpenClaim := { program := "ytkldgoapompinaadoor", sum := "92203c00bdc2c67549ac7e638fb694cde4f1f9d31fb829fd3687807949abf2f2", func := "augur/augurlaw05.WordsSame", spec := "wordsSame", inPlace := ["internal/abi.NoEscape"], unfollowed := true, recurses := true, named := ["internal/strconv.uint64pow10", "math/bits.deBruijn32tab", "math/bits.deBruijn64tab"], apart := false, laid := [("math/bits.deBruijn32tab", laid_math_bits_deBruijn32tab), ("math/bits.deBruijn64tab", laid_math_bits_deBruijn64tab), ("internal/strconv.uint64pow10", laid_internal_strconv_uint64pow10)], narrowed := true }
def WordsSameUptoSaid : Prop := wordsSameUptoRow.holds Tryd.pinned (OpenSpec.upto wordsSameSpec)

/-- 'augurlaw05.WordsNormal', WHERE WHAT IT READS IS OF BULK AT MOST 1048576: true; the input reads as it did. -/
def wordsNormalUptoRow : OpenClaim := { program := "ytkldgoapompinaadoor", sum := "92203c00bdc2c67549ac7e638fb694cde4f1f9d31fb829fd3687807949abf2f2", func := "augur/augurlaw05.WordsNormal", spec := "wordsNormal", inPlace := ["internal/abi.NoEscape"], unfollowed := true, recurses := true, named := ["internal/strconv.uint64pow10", "math/bits.deBruijn32tab", "math/bits.deBruijn64tab"], apart := false, laid := [("math/bits.deBruijn32tab", laid_math_bits_deBruijn32tab), ("math/bits.deBruijn64tab", laid_math_bits_deBruijn64tab), ("internal/strconv.uint64pow10", laid_internal_strconv_uint64pow10)], narrowed := true }
def WordsNormalUptoSaid : Prop := wordsNormalUptoRow.holds Tryd.pinned (OpenSpec.upto wordsNormalSpec)

/-- 'augurlaw05.WordsParts', WHERE WHAT IT READS IS OF BULK AT MOST 1048576: true; the input reads as it did. -/
def wordsPartsUptoRow : OpenClaim := { program := "ytkldgoapompinaadoor", sum := "92203c00bdc2c67549ac7e638fb694cde4f1f9d31fb829fd3687807949abf2f2", func := "augur/augurlaw05.WordsParts", spec := "wordsParts", inPlace := ["internal/abi.NoEscape"], unfollowed := true, recurses := true, named := ["internal/strconv.uint64pow10", "math/bits.deBruijn32tab", "math/bits.deBruijn64tab"], apart := false, laid := [("math/bits.deBruijn32tab", laid_math_bits_deBruijn32tab), ("math/bits.deBruijn64tab", laid_math_bits_deBruijn64tab), ("internal/strconv.uint64pow10", laid_internal_strconv_uint64pow10)], narrowed := true }
def WordsPartsUptoSaid : Prop := wordsPartsUptoRow.holds Tryd.pinned (OpenSpec.upto wordsPartsSpec)

/-- 'augurlaw05.WordsAll', WHERE WHAT IT READS IS OF BULK AT MOST 1048576: true; the input reads as it did. -/
def wordsAllUptoRow : OpenClaim := { program := "ytkldgoapompinaadoor", sum := "92203c00bdc2c67549ac7e638fb694cde4f1f9d31fb829fd3687807949abf2f2", func := "augur/augurlaw05.WordsAll", spec := "wordsAll", inPlace := ["internal/abi.NoEscape"], unfollowed := true, recurses := true, named := ["internal/strconv.uint64pow10", "math/bits.deBruijn32tab", "math/bits.deBruijn64tab"], apart := false, laid := [("math/bits.deBruijn32tab", laid_math_bits_deBruijn32tab), ("math/bits.deBruijn64tab", laid_math_bits_deBruijn64tab), ("internal/strconv.uint64pow10", laid_internal_strconv_uint64pow10)], narrowed := true }
def WordsAllUptoSaid : Prop := wordsAllUptoRow.holds Tryd.pinned (OpenSpec.upto wordsAllSpec)

/-- 'augurlaw05.WordsOnce', WHERE WHAT IT READS IS OF BULK AT MOST 1048576: true; the input reads as it did. -/
def wordsOnceUptoRow : OpenClaim := { program := "ytkldgoapompinaadoor", sum := "92203c00bdc2c67549ac7e638fb694cde4f1f9d31fb829fd3687807949abf2f2", func := "augur/augurlaw05.WordsOnce", spec := "wordsOnce", inPlace := ["internal/abi.NoEscape"], unfollowed := true, recurses := true, named := ["internal/strconv.uint64pow10", "math/bits.deBruijn32tab", "math/bits.deBruijn64tab"], apart := false, laid := [("math/bits.deBruijn32tab", laid_math_bits_deBruijn32tab), ("math/bits.deBruijn64tab", laid_math_bits_deBruijn64tab), ("internal/strconv.uint64pow10", laid_internal_strconv_uint64pow10)], narrowed := true }
def WordsOnceUptoSaid : Prop := wordsOnceUptoRow.holds Tryd.pinned (OpenSpec.upto wordsOnceSpec)

/-- 'augurlaw05.WordsReads', WHERE WHAT IT READS IS OF BULK AT MOST 1048576: true; the input reads as it did. -/
def wordsReadsUptoRow : OpenClaim := { program := "ytkldgoapompinaadoor", sum := "92203c00bdc2c67549ac7e638fb694cde4f1f9d31fb829fd3687807949abf2f2", func := "augur/augurlaw05.WordsReads", spec := "wordsReads", inPlace := ["internal/abi.NoEscape"], unfollowed := true, recurses := true, named := ["internal/strconv.uint64pow10", "math/bits.deBruijn32tab", "math/bits.deBruijn64tab"], apart := false, laid := [("math/bits.deBruijn32tab", laid_math_bits_deBruijn32tab), ("math/bits.deBruijn64tab", laid_math_bits_deBruijn64tab), ("internal/strconv.uint64pow10", laid_internal_strconv_uint64pow10)], narrowed := true }
def WordsReadsUptoSaid : Prop := wordsReadsUptoRow.holds Tryd.pinned (OpenSpec.upto wordsReadsSpec)

/-- 'augurlaw05.WordsBack', WHERE WHAT IT READS IS OF BULK AT MOST 1048576: true; the input reads as it did. -/
def wordsBackUptoRow : OpenClaim := { program := "ytkldgoapompinaadoor", sum := "92203c00bdc2c67549ac7e638fb694cde4f1f9d31fb829fd3687807949abf2f2", func := "augur/augurlaw05.WordsBack", spec := "wordsBack", inPlace := ["internal/abi.NoEscape"], unfollowed := true, recurses := true, named := ["internal/strconv.uint64pow10", "math/bits.deBruijn32tab", "math/bits.deBruijn64tab"], apart := false, laid := [("math/bits.deBruijn32tab", laid_math_bits_deBruijn32tab), ("math/bits.deBruijn64tab", laid_math_bits_deBruijn64tab), ("internal/strconv.uint64pow10", laid_internal_strconv_uint64pow10)], narrowed := true }
def WordsBackUptoSaid : Prop := wordsBackUptoRow.holds Tryd.pinned (OpenSpec.upto wordsBackSpec)

end Rows
end Go.Proofs.YtkldgoapompinaaDoor
