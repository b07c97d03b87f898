/- THE RUN of 'augurlaw05.works', worked out by the kernel. -/
import Derived.Test.YtkldgoapompinaaDoorIrTT
import Derived.KernelRfl
namespace Go.Proofs.YtkldgoapompinaaDoor.Ai.WB
set_option maxRecDepth 100000 in
theorem run_yes:Ai.yes Ai.Tryd.tab (99 + 1) 12 [] (Ai.bare 16)=true:=by kernel_rfl
end Go.Proofs.YtkldgoapompinaaDoor.Ai.WB
