/- A PART OF THE PROOF THAT AN INTERPRETER OF THE PROGRAM'S FUNCTIONS IS SOUND: a step of it. -/
import Derived.Test.YtjpepfgbilbcdaaDoorAiZi
import Derived.Test.YtjpepfgbilbcdaaDoorIrL
import Derived.Test.YtjpepfgbilbcdaaDoorProg
import Derived.KernelRfl
namespace Go.Proofs.YtjpepfgbilbcdaaDoor.Ai.Tryd
open Go
set_option maxRecDepth 100000
theorem h4 : (Go.Proofs.Tryd.prog.funcs[4]?).bind (cFunc Go.Proofs.Tryd.prog 4 [86]) = some c4 := by kernel_rfl
theorem h7 : (Go.Proofs.Tryd.prog.funcs[7]?).bind (cFunc Go.Proofs.Tryd.prog 4 [86]) = some c7 := by kernel_rfl
theorem h17 : (Go.Proofs.Tryd.prog.funcs[17]?).bind (cFunc Go.Proofs.Tryd.prog 4 [86]) = some c17 := by kernel_rfl
theorem h18 : (Go.Proofs.Tryd.prog.funcs[18]?).bind (cFunc Go.Proofs.Tryd.prog 4 [86]) = some c18 := by kernel_rfl
theorem h19 : (Go.Proofs.Tryd.prog.funcs[19]?).bind (cFunc Go.Proofs.Tryd.prog 4 [86]) = some c19 := by kernel_rfl
theorem h20 : (Go.Proofs.Tryd.prog.funcs[20]?).bind (cFunc Go.Proofs.Tryd.prog 4 [86]) = some c20 := by kernel_rfl
theorem h22 : (Go.Proofs.Tryd.prog.funcs[22]?).bind (cFunc Go.Proofs.Tryd.prog 4 [86]) = some c22 := by kernel_rfl
theorem h27 : (Go.Proofs.Tryd.prog.funcs[27]?).bind (cFunc Go.Proofs.Tryd.prog 4 [86]) = some c27 := by kernel_rfl
theorem h35 : (Go.Proofs.Tryd.prog.funcs[35]?).bind (cFunc Go.Proofs.Tryd.prog 4 [86]) = some c35 := by kernel_rfl
theorem h38 : (Go.Proofs.Tryd.prog.funcs[38]?).bind (cFunc Go.Proofs.Tryd.prog 4 [86]) = some c38 := by kernel_rfl
theorem h39 : (Go.Proofs.Tryd.prog.funcs[39]?).bind (cFunc Go.Proofs.Tryd.prog 4 [86]) = some c39 := by kernel_rfl
theorem h40 : (Go.Proofs.Tryd.prog.funcs[40]?).bind (cFunc Go.Proofs.Tryd.prog 4 [86]) = some c40 := by kernel_rfl
theorem h41 : (Go.Proofs.Tryd.prog.funcs[41]?).bind (cFunc Go.Proofs.Tryd.prog 4 [86]) = some c41 := by kernel_rfl
theorem h42 : (Go.Proofs.Tryd.prog.funcs[42]?).bind (cFunc Go.Proofs.Tryd.prog 4 [86]) = some c42 := by kernel_rfl
theorem h43 : (Go.Proofs.Tryd.prog.funcs[43]?).bind (cFunc Go.Proofs.Tryd.prog 4 [86]) = some c43 := by kernel_rfl
theorem h44 : (Go.Proofs.Tryd.prog.funcs[44]?).bind (cFunc Go.Proofs.Tryd.prog 4 [86]) = some c44 := by kernel_rfl
theorem h45 : (Go.Proofs.Tryd.prog.funcs[45]?).bind (cFunc Go.Proofs.Tryd.prog 4 [86]) = some c45 := by kernel_rfl
theorem h46 : (Go.Proofs.Tryd.prog.funcs[46]?).bind (cFunc Go.Proofs.Tryd.prog 4 [86]) = some c46 := by kernel_rfl
theorem h47 : (Go.Proofs.Tryd.prog.funcs[47]?).bind (cFunc Go.Proofs.Tryd.prog 4 [86]) = some c47 := by kernel_rfl
theorem h48 : (Go.Proofs.Tryd.prog.funcs[48]?).bind (cFunc Go.Proofs.Tryd.prog 4 [86]) = some c48 := by kernel_rfl
theorem h51 : (Go.Proofs.Tryd.prog.funcs[51]?).bind (cFunc Go.Proofs.Tryd.prog 4 [86]) = some c51 := by kernel_rfl
theorem h52 : (Go.Proofs.Tryd.prog.funcs[52]?).bind (cFunc Go.Proofs.Tryd.prog 4 [86]) = some c52 := by kernel_rfl
theorem h53 : (Go.Proofs.Tryd.prog.funcs[53]?).bind (cFunc Go.Proofs.Tryd.prog 4 [86]) = some c53 := by kernel_rfl
theorem h65 : (Go.Proofs.Tryd.prog.funcs[65]?).bind (cFunc Go.Proofs.Tryd.prog 4 [86]) = some c65 := by kernel_rfl
theorem h67 : (Go.Proofs.Tryd.prog.funcs[67]?).bind (cFunc Go.Proofs.Tryd.prog 4 [86]) = some c67 := by kernel_rfl
theorem h68 : (Go.Proofs.Tryd.prog.funcs[68]?).bind (cFunc Go.Proofs.Tryd.prog 4 [86]) = some c68 := by kernel_rfl
theorem h69 : (Go.Proofs.Tryd.prog.funcs[69]?).bind (cFunc Go.Proofs.Tryd.prog 4 [86]) = some c69 := by kernel_rfl
theorem h70 : (Go.Proofs.Tryd.prog.funcs[70]?).bind (cFunc Go.Proofs.Tryd.prog 4 [86]) = some c70 := by kernel_rfl
theorem h71 : (Go.Proofs.Tryd.prog.funcs[71]?).bind (cFunc Go.Proofs.Tryd.prog 4 [86]) = some c71 := by kernel_rfl
theorem h72 : (Go.Proofs.Tryd.prog.funcs[72]?).bind (cFunc Go.Proofs.Tryd.prog 4 [86]) = some c72 := by kernel_rfl
theorem h77 : (Go.Proofs.Tryd.prog.funcs[77]?).bind (cFunc Go.Proofs.Tryd.prog 4 [86]) = some c77 := by kernel_rfl
theorem h78 : (Go.Proofs.Tryd.prog.funcs[78]?).bind (cFunc Go.Proofs.Tryd.prog 4 [86]) = some c78 := by kernel_rfl
theorem h84 : (Go.Proofs.Tryd.prog.funcs[84]?).bind (cFunc Go.Proofs.Tryd.prog 4 [86]) = some c84 := by kernel_rfl
theorem h104 : (Go.Proofs.Tryd.prog.funcs[104]?).bind (cFunc Go.Proofs.Tryd.prog 4 [86]) = some c104 := by kernel_rfl
theorem h105 : (Go.Proofs.Tryd.prog.funcs[105]?).bind (cFunc Go.Proofs.Tryd.prog 4 [86]) = some c105 := by kernel_rfl
theorem h106 : (Go.Proofs.Tryd.prog.funcs[106]?).bind (cFunc Go.Proofs.Tryd.prog 4 [86]) = some c106 := by kernel_rfl
theorem h110 : (Go.Proofs.Tryd.prog.funcs[110]?).bind (cFunc Go.Proofs.Tryd.prog 4 [86]) = some c110 := by kernel_rfl
theorem h119 : (Go.Proofs.Tryd.prog.funcs[119]?).bind (cFunc Go.Proofs.Tryd.prog 4 [86]) = some c119 := by kernel_rfl
theorem h120 : (Go.Proofs.Tryd.prog.funcs[120]?).bind (cFunc Go.Proofs.Tryd.prog 4 [86]) = some c120 := by kernel_rfl
theorem h126 : (Go.Proofs.Tryd.prog.funcs[126]?).bind (cFunc Go.Proofs.Tryd.prog 4 [86]) = some c126 := by kernel_rfl
theorem h127 : (Go.Proofs.Tryd.prog.funcs[127]?).bind (cFunc Go.Proofs.Tryd.prog 4 [86]) = some c127 := by kernel_rfl
theorem h128 : (Go.Proofs.Tryd.prog.funcs[128]?).bind (cFunc Go.Proofs.Tryd.prog 4 [86]) = some c128 := by kernel_rfl
theorem h129 : (Go.Proofs.Tryd.prog.funcs[129]?).bind (cFunc Go.Proofs.Tryd.prog 4 [86]) = some c129 := by kernel_rfl
theorem h133 : (Go.Proofs.Tryd.prog.funcs[133]?).bind (cFunc Go.Proofs.Tryd.prog 4 [86]) = some c133 := by kernel_rfl
theorem h134 : (Go.Proofs.Tryd.prog.funcs[134]?).bind (cFunc Go.Proofs.Tryd.prog 4 [86]) = some c134 := by kernel_rfl
theorem h135 : (Go.Proofs.Tryd.prog.funcs[135]?).bind (cFunc Go.Proofs.Tryd.prog 4 [86]) = some c135 := by kernel_rfl
theorem h136 : (Go.Proofs.Tryd.prog.funcs[136]?).bind (cFunc Go.Proofs.Tryd.prog 4 [86]) = some c136 := by kernel_rfl
theorem h137 : (Go.Proofs.Tryd.prog.funcs[137]?).bind (cFunc Go.Proofs.Tryd.prog 4 [86]) = some c137 := by kernel_rfl
theorem h138 : (Go.Proofs.Tryd.prog.funcs[138]?).bind (cFunc Go.Proofs.Tryd.prog 4 [86]) = some c138 := by kernel_rfl
theorem h139 : (Go.Proofs.Tryd.prog.funcs[139]?).bind (cFunc Go.Proofs.Tryd.prog 4 [86]) = some c139 := by kernel_rfl
theorem h156 : (Go.Proofs.Tryd.prog.funcs[156]?).bind (cFunc Go.Proofs.Tryd.prog 4 [86]) = some c156 := by kernel_rfl
theorem h157 : (Go.Proofs.Tryd.prog.funcs[157]?).bind (cFunc Go.Proofs.Tryd.prog 4 [86]) = some c157 := by kernel_rfl
theorem h158 : (Go.Proofs.Tryd.prog.funcs[158]?).bind (cFunc Go.Proofs.Tryd.prog 4 [86]) = some c158 := by kernel_rfl
theorem h159 : (Go.Proofs.Tryd.prog.funcs[159]?).bind (cFunc Go.Proofs.Tryd.prog 4 [86]) = some c159 := by kernel_rfl
theorem tab_at : TabAt Go.Proofs.Tryd.prog 4 [86] 1 0 tab := ⟨⟨⟨⟨⟨⟨⟨⟨trivial, tab_one h127, trivial⟩, tab_none, trivial⟩, tab_none, ⟨⟨trivial, tab_one h159, trivial⟩, tab_none, trivial⟩⟩, tab_none, ⟨trivial, tab_one h47, trivial⟩⟩, tab_one h7, ⟨⟨⟨⟨trivial, tab_one h135, trivial⟩, tab_one h71, trivial⟩, tab_one h39, trivial⟩, tab_none, ⟨trivial, tab_none, ⟨trivial, tab_one h119, trivial⟩⟩⟩⟩, tab_none, ⟨⟨⟨⟨trivial, tab_one h67, trivial⟩, tab_one h35, trivial⟩, tab_one h19, ⟨trivial, tab_one h51, trivial⟩⟩, tab_none, ⟨⟨⟨⟨trivial, tab_one h139, trivial⟩, tab_none, trivial⟩, tab_one h43, trivial⟩, tab_one h27, trivial⟩⟩⟩, tab_none, ⟨⟨⟨⟨⟨⟨trivial, tab_one h129, trivial⟩, tab_one h65, trivial⟩, tab_none, trivial⟩, tab_one h17, trivial⟩, tab_none, ⟨⟨⟨⟨trivial, tab_one h137, trivial⟩, tab_none, trivial⟩, tab_one h41, ⟨trivial, tab_one h105, trivial⟩⟩, tab_none, trivial⟩⟩, tab_none, ⟨⟨⟨⟨⟨trivial, tab_one h133, trivial⟩, tab_one h69, trivial⟩, tab_none, trivial⟩, tab_none, ⟨trivial, tab_one h53, trivial⟩⟩, tab_none, ⟨⟨⟨trivial, tab_one h77, trivial⟩, tab_one h45, trivial⟩, tab_none, ⟨⟨⟨trivial, tab_one h157, trivial⟩, tab_none, trivial⟩, tab_none, trivial⟩⟩⟩⟩⟩, tab_none, ⟨⟨⟨⟨⟨⟨⟨trivial, tab_one h128, trivial⟩, tab_none, trivial⟩, tab_none, trivial⟩, tab_none, ⟨trivial, tab_one h48, trivial⟩⟩, tab_none, ⟨⟨⟨⟨trivial, tab_one h136, trivial⟩, tab_one h72, trivial⟩, tab_one h40, ⟨trivial, tab_one h104, trivial⟩⟩, tab_none, ⟨trivial, tab_none, ⟨trivial, tab_one h120, trivial⟩⟩⟩⟩, tab_one h4, ⟨⟨⟨⟨trivial, tab_one h68, trivial⟩, tab_none, trivial⟩, tab_one h20, ⟨⟨trivial, tab_one h84, trivial⟩, tab_one h52, trivial⟩⟩, tab_none, ⟨⟨trivial, tab_one h44, trivial⟩, tab_none, ⟨⟨⟨trivial, tab_one h156, trivial⟩, tab_none, trivial⟩, tab_none, trivial⟩⟩⟩⟩, tab_none, ⟨⟨⟨trivial, tab_one h18, trivial⟩, tab_none, ⟨⟨⟨⟨trivial, tab_one h138, trivial⟩, tab_none, trivial⟩, tab_one h42, ⟨trivial, tab_one h106, trivial⟩⟩, tab_none, trivial⟩⟩, tab_none, ⟨⟨⟨⟨⟨trivial, tab_one h134, trivial⟩, tab_one h70, trivial⟩, tab_one h38, trivial⟩, tab_one h22, trivial⟩, tab_none, ⟨⟨⟨trivial, tab_one h78, trivial⟩, tab_one h46, ⟨trivial, tab_one h110, trivial⟩⟩, tab_none, ⟨⟨⟨trivial, tab_one h158, trivial⟩, tab_none, trivial⟩, tab_none, ⟨trivial, tab_one h126, trivial⟩⟩⟩⟩⟩⟩⟩
theorem mixed : Go.Proofs.Tryd.prog.follows .mixedOrders = true := by kernel_rfl
end Go.Proofs.YtjpepfgbilbcdaaDoor.Ai.Tryd
