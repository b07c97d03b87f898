/- A PART OF THE PROOF THAT AN INTERPRETER OF THE PROGRAM'S FUNCTIONS IS SOUND: a step of it. -/
import Derived.Test.YtjpepfgbilbcdaaGreatDoorAiZi
import Derived.Test.YtjpepfgbilbcdaaGreatDoorIrT
import Derived.Test.YtjpepfgbilbcdaaGreatDoorProg
import Derived.KernelRfl
namespace Go.Proofs.YtjpepfgbilbcdaaGreatDoor.Ai.Tryz
open Go
set_option maxRecDepth 100000
theorem h5 : (Go.Proofs.Tryz.prog.funcs[5]?).bind (cFunc Go.Proofs.Tryz.prog 10 [276]) = some c5 := by kernel_rfl
theorem h9 : (Go.Proofs.Tryz.prog.funcs[9]?).bind (cFunc Go.Proofs.Tryz.prog 10 [276]) = some c9 := by kernel_rfl
theorem h18 : (Go.Proofs.Tryz.prog.funcs[18]?).bind (cFunc Go.Proofs.Tryz.prog 10 [276]) = some c18 := by kernel_rfl
theorem h19 : (Go.Proofs.Tryz.prog.funcs[19]?).bind (cFunc Go.Proofs.Tryz.prog 10 [276]) = some c19 := by kernel_rfl
theorem h20 : (Go.Proofs.Tryz.prog.funcs[20]?).bind (cFunc Go.Proofs.Tryz.prog 10 [276]) = some c20 := by kernel_rfl
theorem h21 : (Go.Proofs.Tryz.prog.funcs[21]?).bind (cFunc Go.Proofs.Tryz.prog 10 [276]) = some c21 := by kernel_rfl
theorem h22 : (Go.Proofs.Tryz.prog.funcs[22]?).bind (cFunc Go.Proofs.Tryz.prog 10 [276]) = some c22 := by kernel_rfl
theorem h23 : (Go.Proofs.Tryz.prog.funcs[23]?).bind (cFunc Go.Proofs.Tryz.prog 10 [276]) = some c23 := by kernel_rfl
theorem h24 : (Go.Proofs.Tryz.prog.funcs[24]?).bind (cFunc Go.Proofs.Tryz.prog 10 [276]) = some c24 := by kernel_rfl
theorem h25 : (Go.Proofs.Tryz.prog.funcs[25]?).bind (cFunc Go.Proofs.Tryz.prog 10 [276]) = some c25 := by kernel_rfl
theorem h26 : (Go.Proofs.Tryz.prog.funcs[26]?).bind (cFunc Go.Proofs.Tryz.prog 10 [276]) = some c26 := by kernel_rfl
theorem h27 : (Go.Proofs.Tryz.prog.funcs[27]?).bind (cFunc Go.Proofs.Tryz.prog 10 [276]) = some c27 := by kernel_rfl
theorem h28 : (Go.Proofs.Tryz.prog.funcs[28]?).bind (cFunc Go.Proofs.Tryz.prog 10 [276]) = some c28 := by kernel_rfl
theorem h29 : (Go.Proofs.Tryz.prog.funcs[29]?).bind (cFunc Go.Proofs.Tryz.prog 10 [276]) = some c29 := by kernel_rfl
theorem h59 : (Go.Proofs.Tryz.prog.funcs[59]?).bind (cFunc Go.Proofs.Tryz.prog 10 [276]) = some c59 := by kernel_rfl
theorem h60 : (Go.Proofs.Tryz.prog.funcs[60]?).bind (cFunc Go.Proofs.Tryz.prog 10 [276]) = some c60 := by kernel_rfl
theorem h61 : (Go.Proofs.Tryz.prog.funcs[61]?).bind (cFunc Go.Proofs.Tryz.prog 10 [276]) = some c61 := by kernel_rfl
theorem h62 : (Go.Proofs.Tryz.prog.funcs[62]?).bind (cFunc Go.Proofs.Tryz.prog 10 [276]) = some c62 := by kernel_rfl
theorem h63 : (Go.Proofs.Tryz.prog.funcs[63]?).bind (cFunc Go.Proofs.Tryz.prog 10 [276]) = some c63 := by kernel_rfl
theorem h64 : (Go.Proofs.Tryz.prog.funcs[64]?).bind (cFunc Go.Proofs.Tryz.prog 10 [276]) = some c64 := by kernel_rfl
theorem h65 : (Go.Proofs.Tryz.prog.funcs[65]?).bind (cFunc Go.Proofs.Tryz.prog 10 [276]) = some c65 := by kernel_rfl
theorem h66 : (Go.Proofs.Tryz.prog.funcs[66]?).bind (cFunc Go.Proofs.Tryz.prog 10 [276]) = some c66 := by kernel_rfl
theorem h67 : (Go.Proofs.Tryz.prog.funcs[67]?).bind (cFunc Go.Proofs.Tryz.prog 10 [276]) = some c67 := by kernel_rfl
theorem h68 : (Go.Proofs.Tryz.prog.funcs[68]?).bind (cFunc Go.Proofs.Tryz.prog 10 [276]) = some c68 := by kernel_rfl
theorem h69 : (Go.Proofs.Tryz.prog.funcs[69]?).bind (cFunc Go.Proofs.Tryz.prog 10 [276]) = some c69 := by kernel_rfl
theorem h70 : (Go.Proofs.Tryz.prog.funcs[70]?).bind (cFunc Go.Proofs.Tryz.prog 10 [276]) = some c70 := by kernel_rfl
theorem h71 : (Go.Proofs.Tryz.prog.funcs[71]?).bind (cFunc Go.Proofs.Tryz.prog 10 [276]) = some c71 := by kernel_rfl
theorem h72 : (Go.Proofs.Tryz.prog.funcs[72]?).bind (cFunc Go.Proofs.Tryz.prog 10 [276]) = some c72 := by kernel_rfl
theorem h73 : (Go.Proofs.Tryz.prog.funcs[73]?).bind (cFunc Go.Proofs.Tryz.prog 10 [276]) = some c73 := by kernel_rfl
theorem h74 : (Go.Proofs.Tryz.prog.funcs[74]?).bind (cFunc Go.Proofs.Tryz.prog 10 [276]) = some c74 := by kernel_rfl
theorem h75 : (Go.Proofs.Tryz.prog.funcs[75]?).bind (cFunc Go.Proofs.Tryz.prog 10 [276]) = some c75 := by kernel_rfl
theorem h76 : (Go.Proofs.Tryz.prog.funcs[76]?).bind (cFunc Go.Proofs.Tryz.prog 10 [276]) = some c76 := by kernel_rfl
theorem h77 : (Go.Proofs.Tryz.prog.funcs[77]?).bind (cFunc Go.Proofs.Tryz.prog 10 [276]) = some c77 := by kernel_rfl
theorem h78 : (Go.Proofs.Tryz.prog.funcs[78]?).bind (cFunc Go.Proofs.Tryz.prog 10 [276]) = some c78 := by kernel_rfl
theorem h79 : (Go.Proofs.Tryz.prog.funcs[79]?).bind (cFunc Go.Proofs.Tryz.prog 10 [276]) = some c79 := by kernel_rfl
theorem h80 : (Go.Proofs.Tryz.prog.funcs[80]?).bind (cFunc Go.Proofs.Tryz.prog 10 [276]) = some c80 := by kernel_rfl
theorem h81 : (Go.Proofs.Tryz.prog.funcs[81]?).bind (cFunc Go.Proofs.Tryz.prog 10 [276]) = some c81 := by kernel_rfl
theorem h82 : (Go.Proofs.Tryz.prog.funcs[82]?).bind (cFunc Go.Proofs.Tryz.prog 10 [276]) = some c82 := by kernel_rfl
theorem h138 : (Go.Proofs.Tryz.prog.funcs[138]?).bind (cFunc Go.Proofs.Tryz.prog 10 [276]) = some c138 := by kernel_rfl
theorem h139 : (Go.Proofs.Tryz.prog.funcs[139]?).bind (cFunc Go.Proofs.Tryz.prog 10 [276]) = some c139 := by kernel_rfl
theorem h140 : (Go.Proofs.Tryz.prog.funcs[140]?).bind (cFunc Go.Proofs.Tryz.prog 10 [276]) = some c140 := by kernel_rfl
theorem h141 : (Go.Proofs.Tryz.prog.funcs[141]?).bind (cFunc Go.Proofs.Tryz.prog 10 [276]) = some c141 := by kernel_rfl
theorem h142 : (Go.Proofs.Tryz.prog.funcs[142]?).bind (cFunc Go.Proofs.Tryz.prog 10 [276]) = some c142 := by kernel_rfl
theorem h143 : (Go.Proofs.Tryz.prog.funcs[143]?).bind (cFunc Go.Proofs.Tryz.prog 10 [276]) = some c143 := by kernel_rfl
theorem h144 : (Go.Proofs.Tryz.prog.funcs[144]?).bind (cFunc Go.Proofs.Tryz.prog 10 [276]) = some c144 := by kernel_rfl
theorem h145 : (Go.Proofs.Tryz.prog.funcs[145]?).bind (cFunc Go.Proofs.Tryz.prog 10 [276]) = some c145 := by kernel_rfl
theorem h146 : (Go.Proofs.Tryz.prog.funcs[146]?).bind (cFunc Go.Proofs.Tryz.prog 10 [276]) = some c146 := by kernel_rfl
theorem h147 : (Go.Proofs.Tryz.prog.funcs[147]?).bind (cFunc Go.Proofs.Tryz.prog 10 [276]) = some c147 := by kernel_rfl
theorem h148 : (Go.Proofs.Tryz.prog.funcs[148]?).bind (cFunc Go.Proofs.Tryz.prog 10 [276]) = some c148 := by kernel_rfl
theorem h149 : (Go.Proofs.Tryz.prog.funcs[149]?).bind (cFunc Go.Proofs.Tryz.prog 10 [276]) = some c149 := by kernel_rfl
theorem h150 : (Go.Proofs.Tryz.prog.funcs[150]?).bind (cFunc Go.Proofs.Tryz.prog 10 [276]) = some c150 := by kernel_rfl
theorem h151 : (Go.Proofs.Tryz.prog.funcs[151]?).bind (cFunc Go.Proofs.Tryz.prog 10 [276]) = some c151 := by kernel_rfl
theorem h152 : (Go.Proofs.Tryz.prog.funcs[152]?).bind (cFunc Go.Proofs.Tryz.prog 10 [276]) = some c152 := by kernel_rfl
theorem h157 : (Go.Proofs.Tryz.prog.funcs[157]?).bind (cFunc Go.Proofs.Tryz.prog 10 [276]) = some c157 := by kernel_rfl
theorem h172 : (Go.Proofs.Tryz.prog.funcs[172]?).bind (cFunc Go.Proofs.Tryz.prog 10 [276]) = some c172 := by kernel_rfl
theorem h173 : (Go.Proofs.Tryz.prog.funcs[173]?).bind (cFunc Go.Proofs.Tryz.prog 10 [276]) = some c173 := by kernel_rfl
theorem h174 : (Go.Proofs.Tryz.prog.funcs[174]?).bind (cFunc Go.Proofs.Tryz.prog 10 [276]) = some c174 := by kernel_rfl
theorem h175 : (Go.Proofs.Tryz.prog.funcs[175]?).bind (cFunc Go.Proofs.Tryz.prog 10 [276]) = some c175 := by kernel_rfl
theorem h176 : (Go.Proofs.Tryz.prog.funcs[176]?).bind (cFunc Go.Proofs.Tryz.prog 10 [276]) = some c176 := by kernel_rfl
theorem h177 : (Go.Proofs.Tryz.prog.funcs[177]?).bind (cFunc Go.Proofs.Tryz.prog 10 [276]) = some c177 := by kernel_rfl
theorem h178 : (Go.Proofs.Tryz.prog.funcs[178]?).bind (cFunc Go.Proofs.Tryz.prog 10 [276]) = some c178 := by kernel_rfl
theorem h179 : (Go.Proofs.Tryz.prog.funcs[179]?).bind (cFunc Go.Proofs.Tryz.prog 10 [276]) = some c179 := by kernel_rfl
theorem h180 : (Go.Proofs.Tryz.prog.funcs[180]?).bind (cFunc Go.Proofs.Tryz.prog 10 [276]) = some c180 := by kernel_rfl
theorem h181 : (Go.Proofs.Tryz.prog.funcs[181]?).bind (cFunc Go.Proofs.Tryz.prog 10 [276]) = some c181 := by kernel_rfl
theorem h182 : (Go.Proofs.Tryz.prog.funcs[182]?).bind (cFunc Go.Proofs.Tryz.prog 10 [276]) = some c182 := by kernel_rfl
theorem h183 : (Go.Proofs.Tryz.prog.funcs[183]?).bind (cFunc Go.Proofs.Tryz.prog 10 [276]) = some c183 := by kernel_rfl
theorem h184 : (Go.Proofs.Tryz.prog.funcs[184]?).bind (cFunc Go.Proofs.Tryz.prog 10 [276]) = some c184 := by kernel_rfl
theorem h185 : (Go.Proofs.Tryz.prog.funcs[185]?).bind (cFunc Go.Proofs.Tryz.prog 10 [276]) = some c185 := by kernel_rfl
theorem h186 : (Go.Proofs.Tryz.prog.funcs[186]?).bind (cFunc Go.Proofs.Tryz.prog 10 [276]) = some c186 := by kernel_rfl
theorem h187 : (Go.Proofs.Tryz.prog.funcs[187]?).bind (cFunc Go.Proofs.Tryz.prog 10 [276]) = some c187 := by kernel_rfl
theorem h188 : (Go.Proofs.Tryz.prog.funcs[188]?).bind (cFunc Go.Proofs.Tryz.prog 10 [276]) = some c188 := by kernel_rfl
theorem h189 : (Go.Proofs.Tryz.prog.funcs[189]?).bind (cFunc Go.Proofs.Tryz.prog 10 [276]) = some c189 := by kernel_rfl
theorem h190 : (Go.Proofs.Tryz.prog.funcs[190]?).bind (cFunc Go.Proofs.Tryz.prog 10 [276]) = some c190 := by kernel_rfl
theorem h191 : (Go.Proofs.Tryz.prog.funcs[191]?).bind (cFunc Go.Proofs.Tryz.prog 10 [276]) = some c191 := by kernel_rfl
theorem h192 : (Go.Proofs.Tryz.prog.funcs[192]?).bind (cFunc Go.Proofs.Tryz.prog 10 [276]) = some c192 := by kernel_rfl
theorem h193 : (Go.Proofs.Tryz.prog.funcs[193]?).bind (cFunc Go.Proofs.Tryz.prog 10 [276]) = some c193 := by kernel_rfl
theorem h224 : (Go.Proofs.Tryz.prog.funcs[224]?).bind (cFunc Go.Proofs.Tryz.prog 10 [276]) = some c224 := by kernel_rfl
theorem h225 : (Go.Proofs.Tryz.prog.funcs[225]?).bind (cFunc Go.Proofs.Tryz.prog 10 [276]) = some c225 := by kernel_rfl
theorem h226 : (Go.Proofs.Tryz.prog.funcs[226]?).bind (cFunc Go.Proofs.Tryz.prog 10 [276]) = some c226 := by kernel_rfl
theorem h227 : (Go.Proofs.Tryz.prog.funcs[227]?).bind (cFunc Go.Proofs.Tryz.prog 10 [276]) = some c227 := by kernel_rfl
theorem h228 : (Go.Proofs.Tryz.prog.funcs[228]?).bind (cFunc Go.Proofs.Tryz.prog 10 [276]) = some c228 := by kernel_rfl
theorem h229 : (Go.Proofs.Tryz.prog.funcs[229]?).bind (cFunc Go.Proofs.Tryz.prog 10 [276]) = some c229 := by kernel_rfl
theorem h230 : (Go.Proofs.Tryz.prog.funcs[230]?).bind (cFunc Go.Proofs.Tryz.prog 10 [276]) = some c230 := by kernel_rfl
theorem h231 : (Go.Proofs.Tryz.prog.funcs[231]?).bind (cFunc Go.Proofs.Tryz.prog 10 [276]) = some c231 := by kernel_rfl
theorem h232 : (Go.Proofs.Tryz.prog.funcs[232]?).bind (cFunc Go.Proofs.Tryz.prog 10 [276]) = some c232 := by kernel_rfl
theorem h233 : (Go.Proofs.Tryz.prog.funcs[233]?).bind (cFunc Go.Proofs.Tryz.prog 10 [276]) = some c233 := by kernel_rfl
theorem h234 : (Go.Proofs.Tryz.prog.funcs[234]?).bind (cFunc Go.Proofs.Tryz.prog 10 [276]) = some c234 := by kernel_rfl
theorem h235 : (Go.Proofs.Tryz.prog.funcs[235]?).bind (cFunc Go.Proofs.Tryz.prog 10 [276]) = some c235 := by kernel_rfl
theorem h236 : (Go.Proofs.Tryz.prog.funcs[236]?).bind (cFunc Go.Proofs.Tryz.prog 10 [276]) = some c236 := by kernel_rfl
theorem h237 : (Go.Proofs.Tryz.prog.funcs[237]?).bind (cFunc Go.Proofs.Tryz.prog 10 [276]) = some c237 := by kernel_rfl
theorem h251 : (Go.Proofs.Tryz.prog.funcs[251]?).bind (cFunc Go.Proofs.Tryz.prog 10 [276]) = some c251 := by kernel_rfl
theorem h252 : (Go.Proofs.Tryz.prog.funcs[252]?).bind (cFunc Go.Proofs.Tryz.prog 10 [276]) = some c252 := by kernel_rfl
theorem h254 : (Go.Proofs.Tryz.prog.funcs[254]?).bind (cFunc Go.Proofs.Tryz.prog 10 [276]) = some c254 := by kernel_rfl
theorem h255 : (Go.Proofs.Tryz.prog.funcs[255]?).bind (cFunc Go.Proofs.Tryz.prog 10 [276]) = some c255 := by kernel_rfl
theorem h256 : (Go.Proofs.Tryz.prog.funcs[256]?).bind (cFunc Go.Proofs.Tryz.prog 10 [276]) = some c256 := by kernel_rfl
theorem h257 : (Go.Proofs.Tryz.prog.funcs[257]?).bind (cFunc Go.Proofs.Tryz.prog 10 [276]) = some c257 := by kernel_rfl
theorem h258 : (Go.Proofs.Tryz.prog.funcs[258]?).bind (cFunc Go.Proofs.Tryz.prog 10 [276]) = some c258 := by kernel_rfl
theorem h259 : (Go.Proofs.Tryz.prog.funcs[259]?).bind (cFunc Go.Proofs.Tryz.prog 10 [276]) = some c259 := by kernel_rfl
theorem h260 : (Go.Proofs.Tryz.prog.funcs[260]?).bind (cFunc Go.Proofs.Tryz.prog 10 [276]) = some c260 := by kernel_rfl
theorem h261 : (Go.Proofs.Tryz.prog.funcs[261]?).bind (cFunc Go.Proofs.Tryz.prog 10 [276]) = some c261 := by kernel_rfl
theorem h267 : (Go.Proofs.Tryz.prog.funcs[267]?).bind (cFunc Go.Proofs.Tryz.prog 10 [276]) = some c267 := by kernel_rfl
theorem h268 : (Go.Proofs.Tryz.prog.funcs[268]?).bind (cFunc Go.Proofs.Tryz.prog 10 [276]) = some c268 := by kernel_rfl
theorem h269 : (Go.Proofs.Tryz.prog.funcs[269]?).bind (cFunc Go.Proofs.Tryz.prog 10 [276]) = some c269 := by kernel_rfl
theorem tab_at : TabAt Go.Proofs.Tryz.prog 10 [276] 1 0 tab := ⟨⟨⟨⟨⟨⟨⟨⟨⟨trivial, tab_one h255, trivial⟩, tab_none, trivial⟩, tab_one h63, ⟨trivial, tab_one h191, trivial⟩⟩, tab_none, trivial⟩, tab_none, ⟨⟨⟨trivial, tab_one h143, trivial⟩, tab_one h79, trivial⟩, tab_none, ⟨⟨trivial, tab_one h175, trivial⟩, tab_none, trivial⟩⟩⟩, tab_none, ⟨⟨⟨trivial, tab_one h71, trivial⟩, tab_none, ⟨trivial, tab_none, ⟨trivial, tab_one h231, trivial⟩⟩⟩, tab_one h23, ⟨⟨⟨trivial, tab_one h151, trivial⟩, tab_none, trivial⟩, tab_none, ⟨⟨trivial, tab_one h183, trivial⟩, tab_none, trivial⟩⟩⟩⟩, tab_none, ⟨⟨⟨⟨⟨⟨trivial, tab_one h259, trivial⟩, tab_none, trivial⟩, tab_one h67, trivial⟩, tab_none, ⟨trivial, tab_none, ⟨trivial, tab_one h227, trivial⟩⟩⟩, tab_one h19, ⟨⟨⟨trivial, tab_one h147, trivial⟩, tab_none, trivial⟩, tab_none, ⟨⟨trivial, tab_one h179, trivial⟩, tab_none, trivial⟩⟩⟩, tab_none, ⟨⟨⟨⟨⟨trivial, tab_one h267, trivial⟩, tab_one h139, trivial⟩, tab_one h75, trivial⟩, tab_none, ⟨trivial, tab_none, ⟨trivial, tab_one h235, trivial⟩⟩⟩, tab_one h27, ⟨trivial, tab_one h59, ⟨⟨trivial, tab_one h187, trivial⟩, tab_none, ⟨trivial, tab_one h251, trivial⟩⟩⟩⟩⟩⟩, tab_none, ⟨⟨⟨⟨⟨⟨⟨trivial, tab_one h257, trivial⟩, tab_none, trivial⟩, tab_one h65, ⟨trivial, tab_one h193, trivial⟩⟩, tab_none, ⟨trivial, tab_none, ⟨trivial, tab_one h225, trivial⟩⟩⟩, tab_none, ⟨⟨⟨trivial, tab_one h145, trivial⟩, tab_one h81, trivial⟩, tab_none, ⟨⟨trivial, tab_one h177, trivial⟩, tab_none, trivial⟩⟩⟩, tab_one h9, ⟨⟨⟨trivial, tab_one h73, trivial⟩, tab_none, ⟨trivial, tab_none, ⟨trivial, tab_one h233, trivial⟩⟩⟩, tab_one h25, ⟨trivial, tab_none, ⟨⟨trivial, tab_one h185, trivial⟩, tab_none, trivial⟩⟩⟩⟩, tab_one h5, ⟨⟨⟨⟨⟨⟨trivial, tab_one h261, trivial⟩, tab_none, trivial⟩, tab_one h69, trivial⟩, tab_none, ⟨trivial, tab_none, ⟨trivial, tab_one h229, trivial⟩⟩⟩, tab_one h21, ⟨⟨⟨trivial, tab_one h149, trivial⟩, tab_none, trivial⟩, tab_none, ⟨⟨trivial, tab_one h181, trivial⟩, tab_none, trivial⟩⟩⟩, tab_none, ⟨⟨⟨⟨⟨trivial, tab_one h269, trivial⟩, tab_one h141, trivial⟩, tab_one h77, trivial⟩, tab_none, ⟨⟨trivial, tab_one h173, trivial⟩, tab_none, ⟨trivial, tab_one h237, trivial⟩⟩⟩, tab_one h29, ⟨⟨⟨trivial, tab_one h157, trivial⟩, tab_none, trivial⟩, tab_one h61, ⟨⟨trivial, tab_one h189, trivial⟩, tab_none, trivial⟩⟩⟩⟩⟩⟩, tab_none, ⟨⟨⟨⟨⟨⟨⟨⟨trivial, tab_one h256, trivial⟩, tab_none, trivial⟩, tab_one h64, ⟨trivial, tab_one h192, trivial⟩⟩, tab_none, ⟨trivial, tab_none, ⟨trivial, tab_one h224, trivial⟩⟩⟩, tab_none, ⟨⟨⟨trivial, tab_one h144, trivial⟩, tab_one h80, trivial⟩, tab_none, ⟨⟨trivial, tab_one h176, trivial⟩, tab_none, trivial⟩⟩⟩, tab_none, ⟨⟨⟨trivial, tab_one h72, trivial⟩, tab_none, ⟨trivial, tab_none, ⟨trivial, tab_one h232, trivial⟩⟩⟩, tab_one h24, ⟨⟨⟨trivial, tab_one h152, trivial⟩, tab_none, trivial⟩, tab_none, ⟨⟨trivial, tab_one h184, trivial⟩, tab_none, trivial⟩⟩⟩⟩, tab_none, ⟨⟨⟨⟨⟨⟨trivial, tab_one h260, trivial⟩, tab_none, trivial⟩, tab_one h68, trivial⟩, tab_none, ⟨trivial, tab_none, ⟨trivial, tab_one h228, trivial⟩⟩⟩, tab_one h20, ⟨⟨⟨trivial, tab_one h148, trivial⟩, tab_none, trivial⟩, tab_none, ⟨⟨trivial, tab_one h180, trivial⟩, tab_none, trivial⟩⟩⟩, tab_none, ⟨⟨⟨⟨⟨trivial, tab_one h268, trivial⟩, tab_one h140, trivial⟩, tab_one h76, trivial⟩, tab_none, ⟨⟨trivial, tab_one h172, trivial⟩, tab_none, ⟨trivial, tab_one h236, trivial⟩⟩⟩, tab_one h28, ⟨trivial, tab_one h60, ⟨⟨trivial, tab_one h188, trivial⟩, tab_none, ⟨trivial, tab_one h252, trivial⟩⟩⟩⟩⟩⟩, tab_none, ⟨⟨⟨⟨⟨⟨⟨trivial, tab_one h258, trivial⟩, tab_none, trivial⟩, tab_one h66, trivial⟩, tab_none, ⟨trivial, tab_none, ⟨trivial, tab_one h226, trivial⟩⟩⟩, tab_one h18, ⟨⟨⟨trivial, tab_one h146, trivial⟩, tab_one h82, trivial⟩, tab_none, ⟨⟨trivial, tab_one h178, trivial⟩, tab_none, trivial⟩⟩⟩, tab_none, ⟨⟨⟨⟨trivial, tab_one h138, trivial⟩, tab_one h74, trivial⟩, tab_none, ⟨trivial, tab_none, ⟨trivial, tab_one h234, trivial⟩⟩⟩, tab_one h26, ⟨trivial, tab_none, ⟨⟨trivial, tab_one h186, trivial⟩, tab_none, trivial⟩⟩⟩⟩, tab_none, ⟨⟨⟨⟨trivial, tab_one h70, trivial⟩, tab_none, ⟨trivial, tab_none, ⟨trivial, tab_one h230, trivial⟩⟩⟩, tab_one h22, ⟨⟨⟨trivial, tab_one h150, trivial⟩, tab_none, trivial⟩, tab_none, ⟨⟨trivial, tab_one h182, trivial⟩, tab_none, trivial⟩⟩⟩, tab_none, ⟨⟨⟨⟨trivial, tab_one h142, trivial⟩, tab_one h78, trivial⟩, tab_none, ⟨⟨trivial, tab_one h174, trivial⟩, tab_none, trivial⟩⟩, tab_none, ⟨trivial, tab_one h62, ⟨⟨trivial, tab_one h190, trivial⟩, tab_none, ⟨trivial, tab_one h254, trivial⟩⟩⟩⟩⟩⟩⟩⟩
theorem mixed : Go.Proofs.Tryz.prog.follows .mixedOrders = true := by kernel_rfl
end Go.Proofs.YtjpepfgbilbcdaaGreatDoor.Ai.Tryz
