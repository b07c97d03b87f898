/- THE RUN of 'augurlaw07.NnfNames', worked out by the kernel. -/
import Derived.Test.YtbeldhnfhifliaaDoorIrNnfT
import Derived.KernelRfl
namespace Go.Proofs.YtbeldhnfhifliaaDoor.nnfNames
def tab0 : List Int := [(-1), 0, 0, 0, 1, 2, 2, 2, 2, 1, 1, 1, 2, 2, 2, 2, 1, 1, 1, 1, 2, 2]
set_option maxRecDepth 100000 in
theorem run_yes (t0 : TypeId) : Ai.yes Ai.Tryd.tab (99 + 1) 3 [] (Ai.known 16 [(0, t0, tab0.map (Value.int .i8))]) = true := by kernel_rfl
end Go.Proofs.YtbeldhnfhifliaaDoor.nnfNames
