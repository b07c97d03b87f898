/- A PART OF THE PROOF THAT AN INTERPRETER OF THE PROGRAM'S FUNCTIONS IS SOUND: a step of it. -/
import Derived.Test.YtjpepfgbilbcdaaDoorAiZi
import Derived.Test.YtjpepfgbilbcdaaDoorIrM
import Derived.Test.YtjpepfgbilbcdaaDoorProg
import Derived.KernelRfl
namespace Go.Proofs.YtjpepfgbilbcdaaDoor.Ai.Tryd
open Go
set_option maxRecDepth 100000
theorem h5 : (Go.Proofs.Tryd.prog.funcs[5]?).bind (cFunc Go.Proofs.Tryd.prog 4 [86]) = some c5 := by kernel_rfl
theorem h8 : (Go.Proofs.Tryd.prog.funcs[8]?).bind (cFunc Go.Proofs.Tryd.prog 4 [86]) = some c8 := by kernel_rfl
theorem h21 : (Go.Proofs.Tryd.prog.funcs[21]?).bind (cFunc Go.Proofs.Tryd.prog 4 [86]) = some c21 := by kernel_rfl
theorem h22 : (Go.Proofs.Tryd.prog.funcs[22]?).bind (cFunc Go.Proofs.Tryd.prog 4 [86]) = some c22 := by kernel_rfl
theorem h23 : (Go.Proofs.Tryd.prog.funcs[23]?).bind (cFunc Go.Proofs.Tryd.prog 4 [86]) = some c23 := by kernel_rfl
theorem h24 : (Go.Proofs.Tryd.prog.funcs[24]?).bind (cFunc Go.Proofs.Tryd.prog 4 [86]) = some c24 := by kernel_rfl
theorem h25 : (Go.Proofs.Tryd.prog.funcs[25]?).bind (cFunc Go.Proofs.Tryd.prog 4 [86]) = some c25 := by kernel_rfl
theorem h26 : (Go.Proofs.Tryd.prog.funcs[26]?).bind (cFunc Go.Proofs.Tryd.prog 4 [86]) = some c26 := by kernel_rfl
theorem h27 : (Go.Proofs.Tryd.prog.funcs[27]?).bind (cFunc Go.Proofs.Tryd.prog 4 [86]) = some c27 := by kernel_rfl
theorem h28 : (Go.Proofs.Tryd.prog.funcs[28]?).bind (cFunc Go.Proofs.Tryd.prog 4 [86]) = some c28 := by kernel_rfl
theorem h29 : (Go.Proofs.Tryd.prog.funcs[29]?).bind (cFunc Go.Proofs.Tryd.prog 4 [86]) = some c29 := by kernel_rfl
theorem h35 : (Go.Proofs.Tryd.prog.funcs[35]?).bind (cFunc Go.Proofs.Tryd.prog 4 [86]) = some c35 := by kernel_rfl
theorem h39 : (Go.Proofs.Tryd.prog.funcs[39]?).bind (cFunc Go.Proofs.Tryd.prog 4 [86]) = some c39 := by kernel_rfl
theorem h47 : (Go.Proofs.Tryd.prog.funcs[47]?).bind (cFunc Go.Proofs.Tryd.prog 4 [86]) = some c47 := by kernel_rfl
theorem h48 : (Go.Proofs.Tryd.prog.funcs[48]?).bind (cFunc Go.Proofs.Tryd.prog 4 [86]) = some c48 := by kernel_rfl
theorem h49 : (Go.Proofs.Tryd.prog.funcs[49]?).bind (cFunc Go.Proofs.Tryd.prog 4 [86]) = some c49 := by kernel_rfl
theorem h50 : (Go.Proofs.Tryd.prog.funcs[50]?).bind (cFunc Go.Proofs.Tryd.prog 4 [86]) = some c50 := by kernel_rfl
theorem h51 : (Go.Proofs.Tryd.prog.funcs[51]?).bind (cFunc Go.Proofs.Tryd.prog 4 [86]) = some c51 := by kernel_rfl
theorem h52 : (Go.Proofs.Tryd.prog.funcs[52]?).bind (cFunc Go.Proofs.Tryd.prog 4 [86]) = some c52 := by kernel_rfl
theorem h53 : (Go.Proofs.Tryd.prog.funcs[53]?).bind (cFunc Go.Proofs.Tryd.prog 4 [86]) = some c53 := by kernel_rfl
theorem h54 : (Go.Proofs.Tryd.prog.funcs[54]?).bind (cFunc Go.Proofs.Tryd.prog 4 [86]) = some c54 := by kernel_rfl
theorem h55 : (Go.Proofs.Tryd.prog.funcs[55]?).bind (cFunc Go.Proofs.Tryd.prog 4 [86]) = some c55 := by kernel_rfl
theorem h56 : (Go.Proofs.Tryd.prog.funcs[56]?).bind (cFunc Go.Proofs.Tryd.prog 4 [86]) = some c56 := by kernel_rfl
theorem h65 : (Go.Proofs.Tryd.prog.funcs[65]?).bind (cFunc Go.Proofs.Tryd.prog 4 [86]) = some c65 := by kernel_rfl
theorem h73 : (Go.Proofs.Tryd.prog.funcs[73]?).bind (cFunc Go.Proofs.Tryd.prog 4 [86]) = some c73 := by kernel_rfl
theorem h74 : (Go.Proofs.Tryd.prog.funcs[74]?).bind (cFunc Go.Proofs.Tryd.prog 4 [86]) = some c74 := by kernel_rfl
theorem h75 : (Go.Proofs.Tryd.prog.funcs[75]?).bind (cFunc Go.Proofs.Tryd.prog 4 [86]) = some c75 := by kernel_rfl
theorem h76 : (Go.Proofs.Tryd.prog.funcs[76]?).bind (cFunc Go.Proofs.Tryd.prog 4 [86]) = some c76 := by kernel_rfl
theorem h77 : (Go.Proofs.Tryd.prog.funcs[77]?).bind (cFunc Go.Proofs.Tryd.prog 4 [86]) = some c77 := by kernel_rfl
theorem h78 : (Go.Proofs.Tryd.prog.funcs[78]?).bind (cFunc Go.Proofs.Tryd.prog 4 [86]) = some c78 := by kernel_rfl
theorem h84 : (Go.Proofs.Tryd.prog.funcs[84]?).bind (cFunc Go.Proofs.Tryd.prog 4 [86]) = some c84 := by kernel_rfl
theorem h107 : (Go.Proofs.Tryd.prog.funcs[107]?).bind (cFunc Go.Proofs.Tryd.prog 4 [86]) = some c107 := by kernel_rfl
theorem h108 : (Go.Proofs.Tryd.prog.funcs[108]?).bind (cFunc Go.Proofs.Tryd.prog 4 [86]) = some c108 := by kernel_rfl
theorem h109 : (Go.Proofs.Tryd.prog.funcs[109]?).bind (cFunc Go.Proofs.Tryd.prog 4 [86]) = some c109 := by kernel_rfl
theorem h110 : (Go.Proofs.Tryd.prog.funcs[110]?).bind (cFunc Go.Proofs.Tryd.prog 4 [86]) = some c110 := by kernel_rfl
theorem h119 : (Go.Proofs.Tryd.prog.funcs[119]?).bind (cFunc Go.Proofs.Tryd.prog 4 [86]) = some c119 := by kernel_rfl
theorem h121 : (Go.Proofs.Tryd.prog.funcs[121]?).bind (cFunc Go.Proofs.Tryd.prog 4 [86]) = some c121 := by kernel_rfl
theorem h122 : (Go.Proofs.Tryd.prog.funcs[122]?).bind (cFunc Go.Proofs.Tryd.prog 4 [86]) = some c122 := by kernel_rfl
theorem h123 : (Go.Proofs.Tryd.prog.funcs[123]?).bind (cFunc Go.Proofs.Tryd.prog 4 [86]) = some c123 := by kernel_rfl
theorem h126 : (Go.Proofs.Tryd.prog.funcs[126]?).bind (cFunc Go.Proofs.Tryd.prog 4 [86]) = some c126 := by kernel_rfl
theorem h127 : (Go.Proofs.Tryd.prog.funcs[127]?).bind (cFunc Go.Proofs.Tryd.prog 4 [86]) = some c127 := by kernel_rfl
theorem h128 : (Go.Proofs.Tryd.prog.funcs[128]?).bind (cFunc Go.Proofs.Tryd.prog 4 [86]) = some c128 := by kernel_rfl
theorem h129 : (Go.Proofs.Tryd.prog.funcs[129]?).bind (cFunc Go.Proofs.Tryd.prog 4 [86]) = some c129 := by kernel_rfl
theorem h131 : (Go.Proofs.Tryd.prog.funcs[131]?).bind (cFunc Go.Proofs.Tryd.prog 4 [86]) = some c131 := by kernel_rfl
theorem h132 : (Go.Proofs.Tryd.prog.funcs[132]?).bind (cFunc Go.Proofs.Tryd.prog 4 [86]) = some c132 := by kernel_rfl
theorem h133 : (Go.Proofs.Tryd.prog.funcs[133]?).bind (cFunc Go.Proofs.Tryd.prog 4 [86]) = some c133 := by kernel_rfl
theorem h134 : (Go.Proofs.Tryd.prog.funcs[134]?).bind (cFunc Go.Proofs.Tryd.prog 4 [86]) = some c134 := by kernel_rfl
theorem h135 : (Go.Proofs.Tryd.prog.funcs[135]?).bind (cFunc Go.Proofs.Tryd.prog 4 [86]) = some c135 := by kernel_rfl
theorem h136 : (Go.Proofs.Tryd.prog.funcs[136]?).bind (cFunc Go.Proofs.Tryd.prog 4 [86]) = some c136 := by kernel_rfl
theorem h137 : (Go.Proofs.Tryd.prog.funcs[137]?).bind (cFunc Go.Proofs.Tryd.prog 4 [86]) = some c137 := by kernel_rfl
theorem h138 : (Go.Proofs.Tryd.prog.funcs[138]?).bind (cFunc Go.Proofs.Tryd.prog 4 [86]) = some c138 := by kernel_rfl
theorem h139 : (Go.Proofs.Tryd.prog.funcs[139]?).bind (cFunc Go.Proofs.Tryd.prog 4 [86]) = some c139 := by kernel_rfl
theorem tab_at : TabAt Go.Proofs.Tryd.prog 4 [86] 1 0 tab := ⟨⟨⟨⟨⟨⟨⟨⟨trivial, tab_one h127, trivial⟩, tab_none, trivial⟩, tab_none, trivial⟩, tab_none, ⟨trivial, tab_one h47, trivial⟩⟩, tab_none, ⟨⟨⟨⟨trivial, tab_one h135, trivial⟩, tab_none, trivial⟩, tab_one h39, trivial⟩, tab_one h23, ⟨trivial, tab_one h55, ⟨trivial, tab_one h119, trivial⟩⟩⟩⟩, tab_none, ⟨⟨⟨⟨⟨trivial, tab_one h131, trivial⟩, tab_none, trivial⟩, tab_one h35, trivial⟩, tab_none, ⟨trivial, tab_one h51, trivial⟩⟩, tab_none, ⟨⟨⟨⟨trivial, tab_one h139, trivial⟩, tab_one h75, trivial⟩, tab_none, ⟨trivial, tab_one h107, trivial⟩⟩, tab_one h27, ⟨trivial, tab_none, ⟨trivial, tab_one h123, trivial⟩⟩⟩⟩⟩, tab_none, ⟨⟨⟨⟨⟨⟨trivial, tab_one h129, trivial⟩, tab_one h65, trivial⟩, tab_none, trivial⟩, tab_none, ⟨trivial, tab_one h49, trivial⟩⟩, tab_none, ⟨⟨⟨⟨trivial, tab_one h137, trivial⟩, tab_one h73, trivial⟩, tab_none, trivial⟩, tab_one h25, ⟨trivial, tab_none, ⟨trivial, tab_one h121, trivial⟩⟩⟩⟩, tab_one h5, ⟨⟨⟨⟨⟨trivial, tab_one h133, trivial⟩, tab_none, trivial⟩, tab_none, trivial⟩, tab_one h21, ⟨trivial, tab_one h53, trivial⟩⟩, tab_none, ⟨⟨⟨trivial, tab_one h77, trivial⟩, tab_none, ⟨trivial, tab_one h109, trivial⟩⟩, tab_one h29, trivial⟩⟩⟩⟩, tab_none, ⟨⟨⟨⟨⟨⟨⟨trivial, tab_one h128, trivial⟩, tab_none, trivial⟩, tab_none, trivial⟩, tab_none, ⟨trivial, tab_one h48, trivial⟩⟩, tab_one h8, ⟨⟨⟨⟨trivial, tab_one h136, trivial⟩, tab_none, trivial⟩, tab_none, trivial⟩, tab_one h24, ⟨trivial, tab_one h56, trivial⟩⟩⟩, tab_none, ⟨⟨⟨⟨⟨trivial, tab_one h132, trivial⟩, tab_none, trivial⟩, tab_none, trivial⟩, tab_none, ⟨⟨trivial, tab_one h84, trivial⟩, tab_one h52, trivial⟩⟩, tab_none, ⟨⟨⟨trivial, tab_one h76, trivial⟩, tab_none, ⟨trivial, tab_one h108, trivial⟩⟩, tab_one h28, trivial⟩⟩⟩, tab_none, ⟨⟨⟨trivial, tab_none, ⟨trivial, tab_one h50, trivial⟩⟩, tab_none, ⟨⟨⟨⟨trivial, tab_one h138, trivial⟩, tab_one h74, trivial⟩, tab_none, trivial⟩, tab_one h26, ⟨trivial, tab_none, ⟨trivial, tab_one h122, trivial⟩⟩⟩⟩, tab_none, ⟨⟨⟨⟨⟨trivial, tab_one h134, trivial⟩, tab_none, trivial⟩, tab_none, trivial⟩, tab_one h22, ⟨trivial, tab_one h54, trivial⟩⟩, tab_none, ⟨⟨⟨trivial, tab_one h78, trivial⟩, tab_none, ⟨trivial, tab_one h110, trivial⟩⟩, tab_none, ⟨trivial, tab_none, ⟨trivial, tab_one h126, trivial⟩⟩⟩⟩⟩⟩⟩
theorem mixed : Go.Proofs.Tryd.prog.follows .mixedOrders = true := by kernel_rfl
end Go.Proofs.YtjpepfgbilbcdaaDoor.Ai.Tryd
