/- A PART OF THE PROOF THAT AN INTERPRETER OF THE PROGRAM'S FUNCTIONS IS SOUND: a step of it. -/
import Derived.Test.YtjpepfgbilbcdaaDoorAiZi
import Derived.Test.YtjpepfgbilbcdaaDoorIrE
import Derived.Test.YtjpepfgbilbcdaaDoorProg
import Derived.KernelRfl
namespace Go.Proofs.YtjpepfgbilbcdaaDoor.Ai.Tryd
open Go
set_option maxRecDepth 100000
theorem h3 : (Go.Proofs.Tryd.prog.funcs[3]?).bind (cFunc Go.Proofs.Tryd.prog 4 [86]) = some c3 := by kernel_rfl
theorem h6 : (Go.Proofs.Tryd.prog.funcs[6]?).bind (cFunc Go.Proofs.Tryd.prog 4 [86]) = some c6 := by kernel_rfl
theorem h9 : (Go.Proofs.Tryd.prog.funcs[9]?).bind (cFunc Go.Proofs.Tryd.prog 4 [86]) = some c9 := by kernel_rfl
theorem h10 : (Go.Proofs.Tryd.prog.funcs[10]?).bind (cFunc Go.Proofs.Tryd.prog 4 [86]) = some c10 := by kernel_rfl
theorem h11 : (Go.Proofs.Tryd.prog.funcs[11]?).bind (cFunc Go.Proofs.Tryd.prog 4 [86]) = some c11 := by kernel_rfl
theorem h12 : (Go.Proofs.Tryd.prog.funcs[12]?).bind (cFunc Go.Proofs.Tryd.prog 4 [86]) = some c12 := by kernel_rfl
theorem h13 : (Go.Proofs.Tryd.prog.funcs[13]?).bind (cFunc Go.Proofs.Tryd.prog 4 [86]) = some c13 := by kernel_rfl
theorem h14 : (Go.Proofs.Tryd.prog.funcs[14]?).bind (cFunc Go.Proofs.Tryd.prog 4 [86]) = some c14 := by kernel_rfl
theorem h15 : (Go.Proofs.Tryd.prog.funcs[15]?).bind (cFunc Go.Proofs.Tryd.prog 4 [86]) = some c15 := by kernel_rfl
theorem h16 : (Go.Proofs.Tryd.prog.funcs[16]?).bind (cFunc Go.Proofs.Tryd.prog 4 [86]) = some c16 := by kernel_rfl
theorem h30 : (Go.Proofs.Tryd.prog.funcs[30]?).bind (cFunc Go.Proofs.Tryd.prog 4 [86]) = some c30 := by kernel_rfl
theorem h31 : (Go.Proofs.Tryd.prog.funcs[31]?).bind (cFunc Go.Proofs.Tryd.prog 4 [86]) = some c31 := by kernel_rfl
theorem h32 : (Go.Proofs.Tryd.prog.funcs[32]?).bind (cFunc Go.Proofs.Tryd.prog 4 [86]) = some c32 := by kernel_rfl
theorem h33 : (Go.Proofs.Tryd.prog.funcs[33]?).bind (cFunc Go.Proofs.Tryd.prog 4 [86]) = some c33 := by kernel_rfl
theorem h34 : (Go.Proofs.Tryd.prog.funcs[34]?).bind (cFunc Go.Proofs.Tryd.prog 4 [86]) = some c34 := by kernel_rfl
theorem h35 : (Go.Proofs.Tryd.prog.funcs[35]?).bind (cFunc Go.Proofs.Tryd.prog 4 [86]) = some c35 := by kernel_rfl
theorem h36 : (Go.Proofs.Tryd.prog.funcs[36]?).bind (cFunc Go.Proofs.Tryd.prog 4 [86]) = some c36 := by kernel_rfl
theorem h37 : (Go.Proofs.Tryd.prog.funcs[37]?).bind (cFunc Go.Proofs.Tryd.prog 4 [86]) = some c37 := by kernel_rfl
theorem h57 : (Go.Proofs.Tryd.prog.funcs[57]?).bind (cFunc Go.Proofs.Tryd.prog 4 [86]) = some c57 := by kernel_rfl
theorem h58 : (Go.Proofs.Tryd.prog.funcs[58]?).bind (cFunc Go.Proofs.Tryd.prog 4 [86]) = some c58 := by kernel_rfl
theorem h59 : (Go.Proofs.Tryd.prog.funcs[59]?).bind (cFunc Go.Proofs.Tryd.prog 4 [86]) = some c59 := by kernel_rfl
theorem h60 : (Go.Proofs.Tryd.prog.funcs[60]?).bind (cFunc Go.Proofs.Tryd.prog 4 [86]) = some c60 := by kernel_rfl
theorem h61 : (Go.Proofs.Tryd.prog.funcs[61]?).bind (cFunc Go.Proofs.Tryd.prog 4 [86]) = some c61 := by kernel_rfl
theorem h62 : (Go.Proofs.Tryd.prog.funcs[62]?).bind (cFunc Go.Proofs.Tryd.prog 4 [86]) = some c62 := by kernel_rfl
theorem h63 : (Go.Proofs.Tryd.prog.funcs[63]?).bind (cFunc Go.Proofs.Tryd.prog 4 [86]) = some c63 := by kernel_rfl
theorem h64 : (Go.Proofs.Tryd.prog.funcs[64]?).bind (cFunc Go.Proofs.Tryd.prog 4 [86]) = some c64 := by kernel_rfl
theorem h65 : (Go.Proofs.Tryd.prog.funcs[65]?).bind (cFunc Go.Proofs.Tryd.prog 4 [86]) = some c65 := by kernel_rfl
theorem h66 : (Go.Proofs.Tryd.prog.funcs[66]?).bind (cFunc Go.Proofs.Tryd.prog 4 [86]) = some c66 := by kernel_rfl
theorem h79 : (Go.Proofs.Tryd.prog.funcs[79]?).bind (cFunc Go.Proofs.Tryd.prog 4 [86]) = some c79 := by kernel_rfl
theorem h80 : (Go.Proofs.Tryd.prog.funcs[80]?).bind (cFunc Go.Proofs.Tryd.prog 4 [86]) = some c80 := by kernel_rfl
theorem h81 : (Go.Proofs.Tryd.prog.funcs[81]?).bind (cFunc Go.Proofs.Tryd.prog 4 [86]) = some c81 := by kernel_rfl
theorem h82 : (Go.Proofs.Tryd.prog.funcs[82]?).bind (cFunc Go.Proofs.Tryd.prog 4 [86]) = some c82 := by kernel_rfl
theorem h83 : (Go.Proofs.Tryd.prog.funcs[83]?).bind (cFunc Go.Proofs.Tryd.prog 4 [86]) = some c83 := by kernel_rfl
theorem h84 : (Go.Proofs.Tryd.prog.funcs[84]?).bind (cFunc Go.Proofs.Tryd.prog 4 [86]) = some c84 := by kernel_rfl
theorem h85 : (Go.Proofs.Tryd.prog.funcs[85]?).bind (cFunc Go.Proofs.Tryd.prog 4 [86]) = some c85 := by kernel_rfl
theorem h86 : (Go.Proofs.Tryd.prog.funcs[86]?).bind (cFunc Go.Proofs.Tryd.prog 4 [86]) = some c86 := by kernel_rfl
theorem h87 : (Go.Proofs.Tryd.prog.funcs[87]?).bind (cFunc Go.Proofs.Tryd.prog 4 [86]) = some c87 := by kernel_rfl
theorem h88 : (Go.Proofs.Tryd.prog.funcs[88]?).bind (cFunc Go.Proofs.Tryd.prog 4 [86]) = some c88 := by kernel_rfl
theorem h89 : (Go.Proofs.Tryd.prog.funcs[89]?).bind (cFunc Go.Proofs.Tryd.prog 4 [86]) = some c89 := by kernel_rfl
theorem h90 : (Go.Proofs.Tryd.prog.funcs[90]?).bind (cFunc Go.Proofs.Tryd.prog 4 [86]) = some c90 := by kernel_rfl
theorem h91 : (Go.Proofs.Tryd.prog.funcs[91]?).bind (cFunc Go.Proofs.Tryd.prog 4 [86]) = some c91 := by kernel_rfl
theorem h92 : (Go.Proofs.Tryd.prog.funcs[92]?).bind (cFunc Go.Proofs.Tryd.prog 4 [86]) = some c92 := by kernel_rfl
theorem h93 : (Go.Proofs.Tryd.prog.funcs[93]?).bind (cFunc Go.Proofs.Tryd.prog 4 [86]) = some c93 := by kernel_rfl
theorem h94 : (Go.Proofs.Tryd.prog.funcs[94]?).bind (cFunc Go.Proofs.Tryd.prog 4 [86]) = some c94 := by kernel_rfl
theorem h95 : (Go.Proofs.Tryd.prog.funcs[95]?).bind (cFunc Go.Proofs.Tryd.prog 4 [86]) = some c95 := by kernel_rfl
theorem h96 : (Go.Proofs.Tryd.prog.funcs[96]?).bind (cFunc Go.Proofs.Tryd.prog 4 [86]) = some c96 := by kernel_rfl
theorem h97 : (Go.Proofs.Tryd.prog.funcs[97]?).bind (cFunc Go.Proofs.Tryd.prog 4 [86]) = some c97 := by kernel_rfl
theorem h98 : (Go.Proofs.Tryd.prog.funcs[98]?).bind (cFunc Go.Proofs.Tryd.prog 4 [86]) = some c98 := by kernel_rfl
theorem h99 : (Go.Proofs.Tryd.prog.funcs[99]?).bind (cFunc Go.Proofs.Tryd.prog 4 [86]) = some c99 := by kernel_rfl
theorem h100 : (Go.Proofs.Tryd.prog.funcs[100]?).bind (cFunc Go.Proofs.Tryd.prog 4 [86]) = some c100 := by kernel_rfl
theorem h101 : (Go.Proofs.Tryd.prog.funcs[101]?).bind (cFunc Go.Proofs.Tryd.prog 4 [86]) = some c101 := by kernel_rfl
theorem h102 : (Go.Proofs.Tryd.prog.funcs[102]?).bind (cFunc Go.Proofs.Tryd.prog 4 [86]) = some c102 := by kernel_rfl
theorem h103 : (Go.Proofs.Tryd.prog.funcs[103]?).bind (cFunc Go.Proofs.Tryd.prog 4 [86]) = some c103 := by kernel_rfl
theorem h111 : (Go.Proofs.Tryd.prog.funcs[111]?).bind (cFunc Go.Proofs.Tryd.prog 4 [86]) = some c111 := by kernel_rfl
theorem h112 : (Go.Proofs.Tryd.prog.funcs[112]?).bind (cFunc Go.Proofs.Tryd.prog 4 [86]) = some c112 := by kernel_rfl
theorem h113 : (Go.Proofs.Tryd.prog.funcs[113]?).bind (cFunc Go.Proofs.Tryd.prog 4 [86]) = some c113 := by kernel_rfl
theorem h114 : (Go.Proofs.Tryd.prog.funcs[114]?).bind (cFunc Go.Proofs.Tryd.prog 4 [86]) = some c114 := by kernel_rfl
theorem h115 : (Go.Proofs.Tryd.prog.funcs[115]?).bind (cFunc Go.Proofs.Tryd.prog 4 [86]) = some c115 := by kernel_rfl
theorem h116 : (Go.Proofs.Tryd.prog.funcs[116]?).bind (cFunc Go.Proofs.Tryd.prog 4 [86]) = some c116 := by kernel_rfl
theorem h117 : (Go.Proofs.Tryd.prog.funcs[117]?).bind (cFunc Go.Proofs.Tryd.prog 4 [86]) = some c117 := by kernel_rfl
theorem h118 : (Go.Proofs.Tryd.prog.funcs[118]?).bind (cFunc Go.Proofs.Tryd.prog 4 [86]) = some c118 := by kernel_rfl
theorem h119 : (Go.Proofs.Tryd.prog.funcs[119]?).bind (cFunc Go.Proofs.Tryd.prog 4 [86]) = some c119 := by kernel_rfl
theorem h124 : (Go.Proofs.Tryd.prog.funcs[124]?).bind (cFunc Go.Proofs.Tryd.prog 4 [86]) = some c124 := by kernel_rfl
theorem h125 : (Go.Proofs.Tryd.prog.funcs[125]?).bind (cFunc Go.Proofs.Tryd.prog 4 [86]) = some c125 := by kernel_rfl
theorem h126 : (Go.Proofs.Tryd.prog.funcs[126]?).bind (cFunc Go.Proofs.Tryd.prog 4 [86]) = some c126 := by kernel_rfl
theorem h127 : (Go.Proofs.Tryd.prog.funcs[127]?).bind (cFunc Go.Proofs.Tryd.prog 4 [86]) = some c127 := by kernel_rfl
theorem h128 : (Go.Proofs.Tryd.prog.funcs[128]?).bind (cFunc Go.Proofs.Tryd.prog 4 [86]) = some c128 := by kernel_rfl
theorem h129 : (Go.Proofs.Tryd.prog.funcs[129]?).bind (cFunc Go.Proofs.Tryd.prog 4 [86]) = some c129 := by kernel_rfl
theorem h133 : (Go.Proofs.Tryd.prog.funcs[133]?).bind (cFunc Go.Proofs.Tryd.prog 4 [86]) = some c133 := by kernel_rfl
theorem h134 : (Go.Proofs.Tryd.prog.funcs[134]?).bind (cFunc Go.Proofs.Tryd.prog 4 [86]) = some c134 := by kernel_rfl
theorem h135 : (Go.Proofs.Tryd.prog.funcs[135]?).bind (cFunc Go.Proofs.Tryd.prog 4 [86]) = some c135 := by kernel_rfl
theorem h136 : (Go.Proofs.Tryd.prog.funcs[136]?).bind (cFunc Go.Proofs.Tryd.prog 4 [86]) = some c136 := by kernel_rfl
theorem h137 : (Go.Proofs.Tryd.prog.funcs[137]?).bind (cFunc Go.Proofs.Tryd.prog 4 [86]) = some c137 := by kernel_rfl
theorem h138 : (Go.Proofs.Tryd.prog.funcs[138]?).bind (cFunc Go.Proofs.Tryd.prog 4 [86]) = some c138 := by kernel_rfl
theorem h139 : (Go.Proofs.Tryd.prog.funcs[139]?).bind (cFunc Go.Proofs.Tryd.prog 4 [86]) = some c139 := by kernel_rfl
theorem tab_at : TabAt Go.Proofs.Tryd.prog 4 [86] 1 0 tab := ⟨⟨⟨⟨⟨⟨⟨⟨trivial, tab_one h127, trivial⟩, tab_one h63, trivial⟩, tab_one h31, ⟨trivial, tab_one h95, trivial⟩⟩, tab_one h15, ⟨⟨trivial, tab_one h79, trivial⟩, tab_none, ⟨trivial, tab_one h111, trivial⟩⟩⟩, tab_none, ⟨⟨⟨⟨trivial, tab_one h135, trivial⟩, tab_none, trivial⟩, tab_none, ⟨trivial, tab_one h103, trivial⟩⟩, tab_none, ⟨⟨trivial, tab_one h87, trivial⟩, tab_none, ⟨trivial, tab_one h119, trivial⟩⟩⟩⟩, tab_one h3, ⟨⟨⟨trivial, tab_one h35, ⟨trivial, tab_one h99, trivial⟩⟩, tab_none, ⟨⟨trivial, tab_one h83, trivial⟩, tab_none, ⟨trivial, tab_one h115, trivial⟩⟩⟩, tab_one h11, ⟨⟨⟨⟨trivial, tab_one h139, trivial⟩, tab_none, trivial⟩, tab_none, trivial⟩, tab_none, ⟨⟨trivial, tab_one h91, trivial⟩, tab_one h59, trivial⟩⟩⟩⟩, tab_none, ⟨⟨⟨⟨⟨⟨trivial, tab_one h129, trivial⟩, tab_one h65, trivial⟩, tab_one h33, ⟨trivial, tab_one h97, trivial⟩⟩, tab_none, ⟨⟨trivial, tab_one h81, trivial⟩, tab_none, ⟨trivial, tab_one h113, trivial⟩⟩⟩, tab_one h9, ⟨⟨⟨⟨trivial, tab_one h137, trivial⟩, tab_none, trivial⟩, tab_none, trivial⟩, tab_none, ⟨⟨trivial, tab_one h89, trivial⟩, tab_one h57, trivial⟩⟩⟩, tab_none, ⟨⟨⟨⟨⟨trivial, tab_one h133, trivial⟩, tab_none, trivial⟩, tab_one h37, ⟨trivial, tab_one h101, trivial⟩⟩, tab_none, ⟨⟨trivial, tab_one h85, trivial⟩, tab_none, ⟨trivial, tab_one h117, trivial⟩⟩⟩, tab_one h13, ⟨trivial, tab_none, ⟨⟨trivial, tab_one h93, trivial⟩, tab_one h61, ⟨trivial, tab_one h125, trivial⟩⟩⟩⟩⟩⟩, tab_none, ⟨⟨⟨⟨⟨⟨⟨trivial, tab_one h128, trivial⟩, tab_one h64, trivial⟩, tab_one h32, ⟨trivial, tab_one h96, trivial⟩⟩, tab_one h16, ⟨⟨trivial, tab_one h80, trivial⟩, tab_none, ⟨trivial, tab_one h112, trivial⟩⟩⟩, tab_none, ⟨⟨⟨⟨trivial, tab_one h136, trivial⟩, tab_none, trivial⟩, tab_none, trivial⟩, tab_none, ⟨⟨trivial, tab_one h88, trivial⟩, tab_none, trivial⟩⟩⟩, tab_none, ⟨⟨⟨trivial, tab_one h36, ⟨trivial, tab_one h100, trivial⟩⟩, tab_none, ⟨⟨trivial, tab_one h84, trivial⟩, tab_none, ⟨trivial, tab_one h116, trivial⟩⟩⟩, tab_one h12, ⟨trivial, tab_none, ⟨⟨trivial, tab_one h92, trivial⟩, tab_one h60, ⟨trivial, tab_one h124, trivial⟩⟩⟩⟩⟩, tab_none, ⟨⟨⟨⟨⟨trivial, tab_one h66, trivial⟩, tab_one h34, ⟨trivial, tab_one h98, trivial⟩⟩, tab_none, ⟨⟨trivial, tab_one h82, trivial⟩, tab_none, ⟨trivial, tab_one h114, trivial⟩⟩⟩, tab_one h10, ⟨⟨⟨⟨trivial, tab_one h138, trivial⟩, tab_none, trivial⟩, tab_none, trivial⟩, tab_none, ⟨⟨trivial, tab_one h90, trivial⟩, tab_one h58, trivial⟩⟩⟩, tab_one h6, ⟨⟨⟨⟨⟨trivial, tab_one h134, trivial⟩, tab_none, trivial⟩, tab_none, ⟨trivial, tab_one h102, trivial⟩⟩, tab_none, ⟨⟨trivial, tab_one h86, trivial⟩, tab_none, ⟨trivial, tab_one h118, trivial⟩⟩⟩, tab_one h14, ⟨trivial, tab_one h30, ⟨⟨trivial, tab_one h94, trivial⟩, tab_one h62, ⟨trivial, tab_one h126, trivial⟩⟩⟩⟩⟩⟩⟩
theorem mixed : Go.Proofs.Tryd.prog.follows .mixedOrders = true := by kernel_rfl
end Go.Proofs.YtjpepfgbilbcdaaDoor.Ai.Tryd
