/- A PART OF THE PROOF: a step of the proof that the law's code does what its contracts say, by an interpreter of the program's functions that is proved to be sound. -/
import Derived.Test.YtnpoloachkcadaaGreatDoorAi3
import Derived.Test.YtnpoloachkcadaaGreatDoorIrH
import Derived.Test.YtnpoloachkcadaaGreatDoorProg
import Derived.KernelRfl
namespace Go.Proofs.YtnpoloachkcadaaGreatDoor.Ai.Tryz
open Go
set_option maxRecDepth 100000
theorem h4:(Go.Proofs.Tryz.prog.funcs[4]?).bind (cFunc Go.Proofs.Tryz.prog 9 [185])=some c4:=by kernel_rfl
theorem h14:(Go.Proofs.Tryz.prog.funcs[14]?).bind (cFunc Go.Proofs.Tryz.prog 9 [185])=some c14:=by kernel_rfl
theorem h15:(Go.Proofs.Tryz.prog.funcs[15]?).bind (cFunc Go.Proofs.Tryz.prog 9 [185])=some c15:=by kernel_rfl
theorem h16:(Go.Proofs.Tryz.prog.funcs[16]?).bind (cFunc Go.Proofs.Tryz.prog 9 [185])=some c16:=by kernel_rfl
theorem h17:(Go.Proofs.Tryz.prog.funcs[17]?).bind (cFunc Go.Proofs.Tryz.prog 9 [185])=some c17:=by kernel_rfl
theorem h18:(Go.Proofs.Tryz.prog.funcs[18]?).bind (cFunc Go.Proofs.Tryz.prog 9 [185])=some c18:=by kernel_rfl
theorem h19:(Go.Proofs.Tryz.prog.funcs[19]?).bind (cFunc Go.Proofs.Tryz.prog 9 [185])=some c19:=by kernel_rfl
theorem h20:(Go.Proofs.Tryz.prog.funcs[20]?).bind (cFunc Go.Proofs.Tryz.prog 9 [185])=some c20:=by kernel_rfl
theorem h21:(Go.Proofs.Tryz.prog.funcs[21]?).bind (cFunc Go.Proofs.Tryz.prog 9 [185])=some c21:=by kernel_rfl
theorem h22:(Go.Proofs.Tryz.prog.funcs[22]?).bind (cFunc Go.Proofs.Tryz.prog 9 [185])=some c22:=by kernel_rfl
theorem h23:(Go.Proofs.Tryz.prog.funcs[23]?).bind (cFunc Go.Proofs.Tryz.prog 9 [185])=some c23:=by kernel_rfl
theorem h26:(Go.Proofs.Tryz.prog.funcs[26]?).bind (cFunc Go.Proofs.Tryz.prog 9 [185])=some c26:=by kernel_rfl
theorem h27:(Go.Proofs.Tryz.prog.funcs[27]?).bind (cFunc Go.Proofs.Tryz.prog 9 [185])=some c27:=by kernel_rfl
theorem h28:(Go.Proofs.Tryz.prog.funcs[28]?).bind (cFunc Go.Proofs.Tryz.prog 9 [185])=some c28:=by kernel_rfl
theorem h32:(Go.Proofs.Tryz.prog.funcs[32]?).bind (cFunc Go.Proofs.Tryz.prog 9 [185])=some c32:=by kernel_rfl
theorem h33:(Go.Proofs.Tryz.prog.funcs[33]?).bind (cFunc Go.Proofs.Tryz.prog 9 [185])=some c33:=by kernel_rfl
theorem h34:(Go.Proofs.Tryz.prog.funcs[34]?).bind (cFunc Go.Proofs.Tryz.prog 9 [185])=some c34:=by kernel_rfl
theorem h39:(Go.Proofs.Tryz.prog.funcs[39]?).bind (cFunc Go.Proofs.Tryz.prog 9 [185])=some c39:=by kernel_rfl
theorem h43:(Go.Proofs.Tryz.prog.funcs[43]?).bind (cFunc Go.Proofs.Tryz.prog 9 [185])=some c43:=by kernel_rfl
theorem h44:(Go.Proofs.Tryz.prog.funcs[44]?).bind (cFunc Go.Proofs.Tryz.prog 9 [185])=some c44:=by kernel_rfl
theorem h47:(Go.Proofs.Tryz.prog.funcs[47]?).bind (cFunc Go.Proofs.Tryz.prog 9 [185])=some c47:=by kernel_rfl
theorem h51:(Go.Proofs.Tryz.prog.funcs[51]?).bind (cFunc Go.Proofs.Tryz.prog 9 [185])=some c51:=by kernel_rfl
theorem h54:(Go.Proofs.Tryz.prog.funcs[54]?).bind (cFunc Go.Proofs.Tryz.prog 9 [185])=some c54:=by kernel_rfl
theorem h55:(Go.Proofs.Tryz.prog.funcs[55]?).bind (cFunc Go.Proofs.Tryz.prog 9 [185])=some c55:=by kernel_rfl
theorem h56:(Go.Proofs.Tryz.prog.funcs[56]?).bind (cFunc Go.Proofs.Tryz.prog 9 [185])=some c56:=by kernel_rfl
theorem h57:(Go.Proofs.Tryz.prog.funcs[57]?).bind (cFunc Go.Proofs.Tryz.prog 9 [185])=some c57:=by kernel_rfl
theorem h58:(Go.Proofs.Tryz.prog.funcs[58]?).bind (cFunc Go.Proofs.Tryz.prog 9 [185])=some c58:=by kernel_rfl
theorem h59:(Go.Proofs.Tryz.prog.funcs[59]?).bind (cFunc Go.Proofs.Tryz.prog 9 [185])=some c59:=by kernel_rfl
theorem h60:(Go.Proofs.Tryz.prog.funcs[60]?).bind (cFunc Go.Proofs.Tryz.prog 9 [185])=some c60:=by kernel_rfl
theorem h61:(Go.Proofs.Tryz.prog.funcs[61]?).bind (cFunc Go.Proofs.Tryz.prog 9 [185])=some c61:=by kernel_rfl
theorem h62:(Go.Proofs.Tryz.prog.funcs[62]?).bind (cFunc Go.Proofs.Tryz.prog 9 [185])=some c62:=by kernel_rfl
theorem h63:(Go.Proofs.Tryz.prog.funcs[63]?).bind (cFunc Go.Proofs.Tryz.prog 9 [185])=some c63:=by kernel_rfl
theorem h65:(Go.Proofs.Tryz.prog.funcs[65]?).bind (cFunc Go.Proofs.Tryz.prog 9 [185])=some c65:=by kernel_rfl
theorem h66:(Go.Proofs.Tryz.prog.funcs[66]?).bind (cFunc Go.Proofs.Tryz.prog 9 [185])=some c66:=by kernel_rfl
theorem h67:(Go.Proofs.Tryz.prog.funcs[67]?).bind (cFunc Go.Proofs.Tryz.prog 9 [185])=some c67:=by kernel_rfl
theorem h68:(Go.Proofs.Tryz.prog.funcs[68]?).bind (cFunc Go.Proofs.Tryz.prog 9 [185])=some c68:=by kernel_rfl
theorem h69:(Go.Proofs.Tryz.prog.funcs[69]?).bind (cFunc Go.Proofs.Tryz.prog 9 [185])=some c69:=by kernel_rfl
theorem h70:(Go.Proofs.Tryz.prog.funcs[70]?).bind (cFunc Go.Proofs.Tryz.prog 9 [185])=some c70:=by kernel_rfl
theorem h71:(Go.Proofs.Tryz.prog.funcs[71]?).bind (cFunc Go.Proofs.Tryz.prog 9 [185])=some c71:=by kernel_rfl
theorem h85:(Go.Proofs.Tryz.prog.funcs[85]?).bind (cFunc Go.Proofs.Tryz.prog 9 [185])=some c85:=by kernel_rfl
theorem h86:(Go.Proofs.Tryz.prog.funcs[86]?).bind (cFunc Go.Proofs.Tryz.prog 9 [185])=some c86:=by kernel_rfl
theorem h87:(Go.Proofs.Tryz.prog.funcs[87]?).bind (cFunc Go.Proofs.Tryz.prog 9 [185])=some c87:=by kernel_rfl
theorem h89:(Go.Proofs.Tryz.prog.funcs[89]?).bind (cFunc Go.Proofs.Tryz.prog 9 [185])=some c89:=by kernel_rfl
theorem h90:(Go.Proofs.Tryz.prog.funcs[90]?).bind (cFunc Go.Proofs.Tryz.prog 9 [185])=some c90:=by kernel_rfl
theorem h91:(Go.Proofs.Tryz.prog.funcs[91]?).bind (cFunc Go.Proofs.Tryz.prog 9 [185])=some c91:=by kernel_rfl
theorem h92:(Go.Proofs.Tryz.prog.funcs[92]?).bind (cFunc Go.Proofs.Tryz.prog 9 [185])=some c92:=by kernel_rfl
theorem h93:(Go.Proofs.Tryz.prog.funcs[93]?).bind (cFunc Go.Proofs.Tryz.prog 9 [185])=some c93:=by kernel_rfl
theorem h96:(Go.Proofs.Tryz.prog.funcs[96]?).bind (cFunc Go.Proofs.Tryz.prog 9 [185])=some c96:=by kernel_rfl
theorem h98:(Go.Proofs.Tryz.prog.funcs[98]?).bind (cFunc Go.Proofs.Tryz.prog 9 [185])=some c98:=by kernel_rfl
theorem h99:(Go.Proofs.Tryz.prog.funcs[99]?).bind (cFunc Go.Proofs.Tryz.prog 9 [185])=some c99:=by kernel_rfl
theorem h100:(Go.Proofs.Tryz.prog.funcs[100]?).bind (cFunc Go.Proofs.Tryz.prog 9 [185])=some c100:=by kernel_rfl
theorem h101:(Go.Proofs.Tryz.prog.funcs[101]?).bind (cFunc Go.Proofs.Tryz.prog 9 [185])=some c101:=by kernel_rfl
theorem h102:(Go.Proofs.Tryz.prog.funcs[102]?).bind (cFunc Go.Proofs.Tryz.prog 9 [185])=some c102:=by kernel_rfl
theorem h103:(Go.Proofs.Tryz.prog.funcs[103]?).bind (cFunc Go.Proofs.Tryz.prog 9 [185])=some c103:=by kernel_rfl
theorem h105:(Go.Proofs.Tryz.prog.funcs[105]?).bind (cFunc Go.Proofs.Tryz.prog 9 [185])=some c105:=by kernel_rfl
theorem h106:(Go.Proofs.Tryz.prog.funcs[106]?).bind (cFunc Go.Proofs.Tryz.prog 9 [185])=some c106:=by kernel_rfl
theorem h107:(Go.Proofs.Tryz.prog.funcs[107]?).bind (cFunc Go.Proofs.Tryz.prog 9 [185])=some c107:=by kernel_rfl
theorem h108:(Go.Proofs.Tryz.prog.funcs[108]?).bind (cFunc Go.Proofs.Tryz.prog 9 [185])=some c108:=by kernel_rfl
theorem h109:(Go.Proofs.Tryz.prog.funcs[109]?).bind (cFunc Go.Proofs.Tryz.prog 9 [185])=some c109:=by kernel_rfl
theorem h110:(Go.Proofs.Tryz.prog.funcs[110]?).bind (cFunc Go.Proofs.Tryz.prog 9 [185])=some c110:=by kernel_rfl
theorem h111:(Go.Proofs.Tryz.prog.funcs[111]?).bind (cFunc Go.Proofs.Tryz.prog 9 [185])=some c111:=by kernel_rfl
theorem h115:(Go.Proofs.Tryz.prog.funcs[115]?).bind (cFunc Go.Proofs.Tryz.prog 9 [185])=some c115:=by kernel_rfl
theorem h116:(Go.Proofs.Tryz.prog.funcs[116]?).bind (cFunc Go.Proofs.Tryz.prog 9 [185])=some c116:=by kernel_rfl
theorem h118:(Go.Proofs.Tryz.prog.funcs[118]?).bind (cFunc Go.Proofs.Tryz.prog 9 [185])=some c118:=by kernel_rfl
theorem h119:(Go.Proofs.Tryz.prog.funcs[119]?).bind (cFunc Go.Proofs.Tryz.prog 9 [185])=some c119:=by kernel_rfl
theorem h120:(Go.Proofs.Tryz.prog.funcs[120]?).bind (cFunc Go.Proofs.Tryz.prog 9 [185])=some c120:=by kernel_rfl
theorem h121:(Go.Proofs.Tryz.prog.funcs[121]?).bind (cFunc Go.Proofs.Tryz.prog 9 [185])=some c121:=by kernel_rfl
theorem h122:(Go.Proofs.Tryz.prog.funcs[122]?).bind (cFunc Go.Proofs.Tryz.prog 9 [185])=some c122:=by kernel_rfl
theorem h124:(Go.Proofs.Tryz.prog.funcs[124]?).bind (cFunc Go.Proofs.Tryz.prog 9 [185])=some c124:=by kernel_rfl
theorem h125:(Go.Proofs.Tryz.prog.funcs[125]?).bind (cFunc Go.Proofs.Tryz.prog 9 [185])=some c125:=by kernel_rfl
theorem h126:(Go.Proofs.Tryz.prog.funcs[126]?).bind (cFunc Go.Proofs.Tryz.prog 9 [185])=some c126:=by kernel_rfl
theorem h127:(Go.Proofs.Tryz.prog.funcs[127]?).bind (cFunc Go.Proofs.Tryz.prog 9 [185])=some c127:=by kernel_rfl
theorem h131:(Go.Proofs.Tryz.prog.funcs[131]?).bind (cFunc Go.Proofs.Tryz.prog 9 [185])=some c131:=by kernel_rfl
theorem h135:(Go.Proofs.Tryz.prog.funcs[135]?).bind (cFunc Go.Proofs.Tryz.prog 9 [185])=some c135:=by kernel_rfl
theorem h136:(Go.Proofs.Tryz.prog.funcs[136]?).bind (cFunc Go.Proofs.Tryz.prog 9 [185])=some c136:=by kernel_rfl
theorem h138:(Go.Proofs.Tryz.prog.funcs[138]?).bind (cFunc Go.Proofs.Tryz.prog 9 [185])=some c138:=by kernel_rfl
theorem h139:(Go.Proofs.Tryz.prog.funcs[139]?).bind (cFunc Go.Proofs.Tryz.prog 9 [185])=some c139:=by kernel_rfl
theorem h140:(Go.Proofs.Tryz.prog.funcs[140]?).bind (cFunc Go.Proofs.Tryz.prog 9 [185])=some c140:=by kernel_rfl
theorem h141:(Go.Proofs.Tryz.prog.funcs[141]?).bind (cFunc Go.Proofs.Tryz.prog 9 [185])=some c141:=by kernel_rfl
theorem h142:(Go.Proofs.Tryz.prog.funcs[142]?).bind (cFunc Go.Proofs.Tryz.prog 9 [185])=some c142:=by kernel_rfl
theorem h143:(Go.Proofs.Tryz.prog.funcs[143]?).bind (cFunc Go.Proofs.Tryz.prog 9 [185])=some c143:=by kernel_rfl
theorem h144:(Go.Proofs.Tryz.prog.funcs[144]?).bind (cFunc Go.Proofs.Tryz.prog 9 [185])=some c144:=by kernel_rfl
theorem h145:(Go.Proofs.Tryz.prog.funcs[145]?).bind (cFunc Go.Proofs.Tryz.prog 9 [185])=some c145:=by kernel_rfl
theorem h146:(Go.Proofs.Tryz.prog.funcs[146]?).bind (cFunc Go.Proofs.Tryz.prog 9 [185])=some c146:=by kernel_rfl
theorem h147:(Go.Proofs.Tryz.prog.funcs[147]?).bind (cFunc Go.Proofs.Tryz.prog 9 [185])=some c147:=by kernel_rfl
theorem h153:(Go.Proofs.Tryz.prog.funcs[153]?).bind (cFunc Go.Proofs.Tryz.prog 9 [185])=some c153:=by kernel_rfl
theorem h154:(Go.Proofs.Tryz.prog.funcs[154]?).bind (cFunc Go.Proofs.Tryz.prog 9 [185])=some c154:=by kernel_rfl
theorem h155:(Go.Proofs.Tryz.prog.funcs[155]?).bind (cFunc Go.Proofs.Tryz.prog 9 [185])=some c155:=by kernel_rfl
theorem h156:(Go.Proofs.Tryz.prog.funcs[156]?).bind (cFunc Go.Proofs.Tryz.prog 9 [185])=some c156:=by kernel_rfl
theorem h157:(Go.Proofs.Tryz.prog.funcs[157]?).bind (cFunc Go.Proofs.Tryz.prog 9 [185])=some c157:=by kernel_rfl
theorem h158:(Go.Proofs.Tryz.prog.funcs[158]?).bind (cFunc Go.Proofs.Tryz.prog 9 [185])=some c158:=by kernel_rfl
theorem h159:(Go.Proofs.Tryz.prog.funcs[159]?).bind (cFunc Go.Proofs.Tryz.prog 9 [185])=some c159:=by kernel_rfl
theorem h163:(Go.Proofs.Tryz.prog.funcs[163]?).bind (cFunc Go.Proofs.Tryz.prog 9 [185])=some c163:=by kernel_rfl
theorem h165:(Go.Proofs.Tryz.prog.funcs[165]?).bind (cFunc Go.Proofs.Tryz.prog 9 [185])=some c165:=by kernel_rfl
theorem h167:(Go.Proofs.Tryz.prog.funcs[167]?).bind (cFunc Go.Proofs.Tryz.prog 9 [185])=some c167:=by kernel_rfl
theorem h169:(Go.Proofs.Tryz.prog.funcs[169]?).bind (cFunc Go.Proofs.Tryz.prog 9 [185])=some c169:=by kernel_rfl
theorem h170:(Go.Proofs.Tryz.prog.funcs[170]?).bind (cFunc Go.Proofs.Tryz.prog 9 [185])=some c170:=by kernel_rfl
theorem tab_at:TabAt Go.Proofs.Tryz.prog 9 [185] 1 0 tab:=⟨⟨⟨⟨⟨⟨⟨⟨trivial,tab_one h127,trivial⟩,tab_one h63,trivial⟩,tab_none,⟨⟨trivial,tab_one h159,trivial⟩,tab_none,trivial⟩⟩,tab_one h15,⟨⟨⟨trivial,tab_one h143,trivial⟩,tab_none,trivial⟩,tab_one h47,⟨trivial,tab_one h111,trivial⟩⟩⟩,tab_none,⟨⟨⟨⟨trivial,tab_one h135,trivial⟩,tab_one h71,trivial⟩,tab_one h39,⟨⟨trivial,tab_one h167,trivial⟩,tab_one h103,trivial⟩⟩,tab_one h23,⟨⟨trivial,tab_one h87,trivial⟩,tab_one h55,⟨trivial,tab_one h119,trivial⟩⟩⟩⟩,tab_none,⟨⟨⟨⟨⟨trivial,tab_one h131,trivial⟩,tab_one h67,trivial⟩,tab_none,⟨⟨trivial,tab_one h163,trivial⟩,tab_one h99,trivial⟩⟩,tab_one h19,⟨⟨⟨trivial,tab_one h147,trivial⟩,tab_none,trivial⟩,tab_one h51,⟨trivial,tab_one h115,trivial⟩⟩⟩,tab_none,⟨⟨⟨⟨trivial,tab_one h139,trivial⟩,tab_none,trivial⟩,tab_one h43,⟨trivial,tab_one h107,trivial⟩⟩,tab_one h27,⟨⟨⟨trivial,tab_one h155,trivial⟩,tab_one h91,trivial⟩,tab_one h59,trivial⟩⟩⟩⟩,tab_none,⟨⟨⟨⟨⟨trivial,tab_one h65,trivial⟩,tab_one h33,trivial⟩,tab_one h17,⟨⟨⟨trivial,tab_one h145,trivial⟩,tab_none,trivial⟩,tab_none,trivial⟩⟩,tab_none,⟨⟨trivial,tab_none,⟨⟨trivial,tab_one h169,trivial⟩,tab_one h105,trivial⟩⟩,tab_none,⟨⟨⟨trivial,tab_one h153,trivial⟩,tab_one h89,trivial⟩,tab_one h57,⟨trivial,tab_one h121,trivial⟩⟩⟩⟩,tab_none,⟨⟨⟨⟨trivial,tab_one h69,trivial⟩,tab_none,⟨⟨trivial,tab_one h165,trivial⟩,tab_one h101,trivial⟩⟩,tab_one h21,⟨⟨trivial,tab_one h85,trivial⟩,tab_none,trivial⟩⟩,tab_none,⟨⟨⟨⟨trivial,tab_one h141,trivial⟩,tab_none,trivial⟩,tab_none,⟨trivial,tab_one h109,trivial⟩⟩,tab_none,⟨⟨⟨trivial,tab_one h157,trivial⟩,tab_one h93,trivial⟩,tab_one h61,⟨trivial,tab_one h125,trivial⟩⟩⟩⟩⟩⟩,tab_none,⟨⟨⟨⟨⟨trivial,tab_one h32,⟨trivial,tab_one h96,trivial⟩⟩,tab_one h16,⟨⟨⟨trivial,tab_one h144,trivial⟩,tab_none,trivial⟩,tab_none,trivial⟩⟩,tab_none,⟨⟨⟨⟨trivial,tab_one h136,trivial⟩,tab_none,trivial⟩,tab_none,trivial⟩,tab_none,⟨trivial,tab_one h56,⟨trivial,tab_one h120,trivial⟩⟩⟩⟩,tab_one h4,⟨⟨⟨⟨trivial,tab_one h68,trivial⟩,tab_none,⟨trivial,tab_one h100,trivial⟩⟩,tab_one h20,⟨trivial,tab_none,⟨trivial,tab_one h116,trivial⟩⟩⟩,tab_none,⟨⟨⟨⟨trivial,tab_one h140,trivial⟩,tab_none,trivial⟩,tab_one h44,⟨trivial,tab_one h108,trivial⟩⟩,tab_one h28,⟨⟨⟨trivial,tab_one h156,trivial⟩,tab_one h92,trivial⟩,tab_one h60,⟨trivial,tab_one h124,trivial⟩⟩⟩⟩⟩,tab_none,⟨⟨⟨⟨⟨trivial,tab_one h66,trivial⟩,tab_one h34,⟨trivial,tab_one h98,trivial⟩⟩,tab_one h18,⟨⟨⟨trivial,tab_one h146,trivial⟩,tab_none,trivial⟩,tab_none,trivial⟩⟩,tab_none,⟨⟨⟨⟨trivial,tab_one h138,trivial⟩,tab_none,trivial⟩,tab_none,⟨⟨trivial,tab_one h170,trivial⟩,tab_one h106,trivial⟩⟩,tab_one h26,⟨⟨⟨trivial,tab_one h154,trivial⟩,tab_one h90,trivial⟩,tab_one h58,⟨trivial,tab_one h122,trivial⟩⟩⟩⟩,tab_none,⟨⟨⟨⟨trivial,tab_one h70,trivial⟩,tab_none,⟨trivial,tab_one h102,trivial⟩⟩,tab_one h22,⟨⟨trivial,tab_one h86,trivial⟩,tab_one h54,⟨trivial,tab_one h118,trivial⟩⟩⟩,tab_one h14,⟨⟨⟨⟨trivial,tab_one h142,trivial⟩,tab_none,trivial⟩,tab_none,⟨trivial,tab_one h110,trivial⟩⟩,tab_none,⟨⟨⟨trivial,tab_one h158,trivial⟩,tab_none,trivial⟩,tab_one h62,⟨trivial,tab_one h126,trivial⟩⟩⟩⟩⟩⟩⟩
theorem mixed:Go.Proofs.Tryz.prog.follows .mixedOrders=true:=by kernel_rfl
end Go.Proofs.YtnpoloachkcadaaGreatDoor.Ai.Tryz
