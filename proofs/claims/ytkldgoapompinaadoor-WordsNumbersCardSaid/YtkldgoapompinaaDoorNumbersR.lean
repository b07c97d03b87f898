/- THE RUN of 'augurlaw05.WordsNumbers', worked out by the kernel. -/
import Derived.Test.YtkldgoapompinaaDoorIrT
import Derived.KernelRfl
namespace Go.Proofs.YtkldgoapompinaaDoor.wordsNumbers
set_option maxRecDepth 100000 in
theorem run_yes : Ai.yes Ai.Tryd.tab (99 + 1) 3 [] (Ai.bare 16) = true := by kernel_rfl
end Go.Proofs.YtkldgoapompinaaDoor.wordsNumbers
