/- THE RUN of 'augurlaw14.MooreNumbers', worked out by the kernel. -/
import Derived.Test.YtjpepfgbilbcdaaDoorIrMT
import Derived.KernelRfl
namespace Go.Proofs.YtjpepfgbilbcdaaDoor.mooreNumbers
def tab2 : List Int := [0, 1, 28, 2, 29, 14, 24, 3, 30, 22, 20, 15, 25, 17, 4, 8, 31, 27, 13, 23, 21, 19, 16, 7, 26, 12, 18, 6, 11, 5, 10, 9]
def tab3 : List Int := [0, 1, 56, 2, 57, 49, 28, 3, 61, 58, 42, 50, 38, 29, 17, 4, 62, 47, 59, 36, 45, 43, 51, 22, 53, 39, 33, 30, 24, 18, 12, 5, 63, 55, 48, 27, 60, 41, 37, 16, 46, 35, 44, 21, 52, 32, 23, 11, 54, 26, 40, 15, 34, 20, 31, 10, 25, 14, 19, 9, 13, 8, 7, 6]
def tab1 : List Int := [1, 10, 100, 1000, 10000, 100000, 1000000, 10000000, 100000000, 1000000000, 10000000000, 100000000000, 1000000000000, 10000000000000, 100000000000000, 1000000000000000, 10000000000000000, 100000000000000000, 1000000000000000000, 10000000000000000000]
set_option maxRecDepth 100000 in
theorem run_yes (t2 t3 t1 : TypeId) : Ai.yes Ai.Tryd.tab (99 + 1) 5 [] (Ai.known 16 [(2, t2, tab2.map (Value.int .u8)), (3, t3, tab3.map (Value.int .u8)), (1, t1, tab1.map (Value.int .u64))]) = true := by kernel_rfl
end Go.Proofs.YtjpepfgbilbcdaaDoor.mooreNumbers
