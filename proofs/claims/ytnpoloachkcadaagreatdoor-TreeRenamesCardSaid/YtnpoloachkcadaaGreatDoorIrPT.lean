/- A PART OF THE PROOF: a step of the proof that the law's code does what its contracts say, by an interpreter of the program's functions that is proved to be sound. -/
import Derived.Test.YtnpoloachkcadaaGreatDoorAi3
import Derived.Test.YtnpoloachkcadaaGreatDoorIrP
import Derived.Test.YtnpoloachkcadaaGreatDoorProg
import Derived.KernelRfl
namespace Go.Proofs.YtnpoloachkcadaaGreatDoor.Ai.Tryz
open Go
set_option maxRecDepth 100000
noncomputable def fnq (k:Nat):Option IFunc:=(Go.Proofs.Tryz.prog.funcs[k]?).bind (cFunc Go.Proofs.Tryz.prog 9 [185])
theorem h9:fnq 9=some c9:=by kernel_rfl
theorem h14:fnq 14=some c14:=by kernel_rfl
theorem h15:fnq 15=some c15:=by kernel_rfl
theorem h16:fnq 16=some c16:=by kernel_rfl
theorem h17:fnq 17=some c17:=by kernel_rfl
theorem h18:fnq 18=some c18:=by kernel_rfl
theorem h19:fnq 19=some c19:=by kernel_rfl
theorem h22:fnq 22=some c22:=by kernel_rfl
theorem h26:fnq 26=some c26:=by kernel_rfl
theorem h27:fnq 27=some c27:=by kernel_rfl
theorem h28:fnq 28=some c28:=by kernel_rfl
theorem h29:fnq 29=some c29:=by kernel_rfl
theorem h30:fnq 30=some c30:=by kernel_rfl
theorem h31:fnq 31=some c31:=by kernel_rfl
theorem h32:fnq 32=some c32:=by kernel_rfl
theorem h33:fnq 33=some c33:=by kernel_rfl
theorem h36:fnq 36=some c36:=by kernel_rfl
theorem h37:fnq 37=some c37:=by kernel_rfl
theorem h38:fnq 38=some c38:=by kernel_rfl
theorem h39:fnq 39=some c39:=by kernel_rfl
theorem h43:fnq 43=some c43:=by kernel_rfl
theorem h44:fnq 44=some c44:=by kernel_rfl
theorem h45:fnq 45=some c45:=by kernel_rfl
theorem h47:fnq 47=some c47:=by kernel_rfl
theorem h48:fnq 48=some c48:=by kernel_rfl
theorem h49:fnq 49=some c49:=by kernel_rfl
theorem h50:fnq 50=some c50:=by kernel_rfl
theorem h51:fnq 51=some c51:=by kernel_rfl
theorem h52:fnq 52=some c52:=by kernel_rfl
theorem h53:fnq 53=some c53:=by kernel_rfl
theorem h54:fnq 54=some c54:=by kernel_rfl
theorem h55:fnq 55=some c55:=by kernel_rfl
theorem h56:fnq 56=some c56:=by kernel_rfl
theorem h57:fnq 57=some c57:=by kernel_rfl
theorem h58:fnq 58=some c58:=by kernel_rfl
theorem h59:fnq 59=some c59:=by kernel_rfl
theorem h60:fnq 60=some c60:=by kernel_rfl
theorem h61:fnq 61=some c61:=by kernel_rfl
theorem h63:fnq 63=some c63:=by kernel_rfl
theorem h65:fnq 65=some c65:=by kernel_rfl
theorem h66:fnq 66=some c66:=by kernel_rfl
theorem h67:fnq 67=some c67:=by kernel_rfl
theorem h68:fnq 68=some c68:=by kernel_rfl
theorem h69:fnq 69=some c69:=by kernel_rfl
theorem h70:fnq 70=some c70:=by kernel_rfl
theorem h71:fnq 71=some c71:=by kernel_rfl
theorem h72:fnq 72=some c72:=by kernel_rfl
theorem h73:fnq 73=some c73:=by kernel_rfl
theorem h74:fnq 74=some c74:=by kernel_rfl
theorem h75:fnq 75=some c75:=by kernel_rfl
theorem h76:fnq 76=some c76:=by kernel_rfl
theorem h77:fnq 77=some c77:=by kernel_rfl
theorem h78:fnq 78=some c78:=by kernel_rfl
theorem h79:fnq 79=some c79:=by kernel_rfl
theorem h80:fnq 80=some c80:=by kernel_rfl
theorem h81:fnq 81=some c81:=by kernel_rfl
theorem h82:fnq 82=some c82:=by kernel_rfl
theorem h83:fnq 83=some c83:=by kernel_rfl
theorem h84:fnq 84=some c84:=by kernel_rfl
theorem h85:fnq 85=some c85:=by kernel_rfl
theorem h86:fnq 86=some c86:=by kernel_rfl
theorem h87:fnq 87=some c87:=by kernel_rfl
theorem h89:fnq 89=some c89:=by kernel_rfl
theorem h90:fnq 90=some c90:=by kernel_rfl
theorem h91:fnq 91=some c91:=by kernel_rfl
theorem h92:fnq 92=some c92:=by kernel_rfl
theorem h93:fnq 93=some c93:=by kernel_rfl
theorem h94:fnq 94=some c94:=by kernel_rfl
theorem h95:fnq 95=some c95:=by kernel_rfl
theorem h96:fnq 96=some c96:=by kernel_rfl
theorem h97:fnq 97=some c97:=by kernel_rfl
theorem h98:fnq 98=some c98:=by kernel_rfl
theorem h99:fnq 99=some c99:=by kernel_rfl
theorem h100:fnq 100=some c100:=by kernel_rfl
theorem h101:fnq 101=some c101:=by kernel_rfl
theorem h102:fnq 102=some c102:=by kernel_rfl
theorem h103:fnq 103=some c103:=by kernel_rfl
theorem h104:fnq 104=some c104:=by kernel_rfl
theorem h105:fnq 105=some c105:=by kernel_rfl
theorem h106:fnq 106=some c106:=by kernel_rfl
theorem h107:fnq 107=some c107:=by kernel_rfl
theorem h108:fnq 108=some c108:=by kernel_rfl
theorem h109:fnq 109=some c109:=by kernel_rfl
theorem h110:fnq 110=some c110:=by kernel_rfl
theorem h111:fnq 111=some c111:=by kernel_rfl
theorem h112:fnq 112=some c112:=by kernel_rfl
theorem h113:fnq 113=some c113:=by kernel_rfl
theorem h114:fnq 114=some c114:=by kernel_rfl
theorem h115:fnq 115=some c115:=by kernel_rfl
theorem h116:fnq 116=some c116:=by kernel_rfl
theorem h118:fnq 118=some c118:=by kernel_rfl
theorem h119:fnq 119=some c119:=by kernel_rfl
theorem h120:fnq 120=some c120:=by kernel_rfl
theorem h121:fnq 121=some c121:=by kernel_rfl
theorem h122:fnq 122=some c122:=by kernel_rfl
theorem h123:fnq 123=some c123:=by kernel_rfl
theorem h124:fnq 124=some c124:=by kernel_rfl
theorem h125:fnq 125=some c125:=by kernel_rfl
theorem h126:fnq 126=some c126:=by kernel_rfl
theorem h127:fnq 127=some c127:=by kernel_rfl
theorem h136:fnq 136=some c136:=by kernel_rfl
theorem h138:fnq 138=some c138:=by kernel_rfl
theorem h140:fnq 140=some c140:=by kernel_rfl
theorem h141:fnq 141=some c141:=by kernel_rfl
theorem h142:fnq 142=some c142:=by kernel_rfl
theorem h146:fnq 146=some c146:=by kernel_rfl
theorem h147:fnq 147=some c147:=by kernel_rfl
theorem h154:fnq 154=some c154:=by kernel_rfl
theorem h156:fnq 156=some c156:=by kernel_rfl
theorem h158:fnq 158=some c158:=by kernel_rfl
theorem h163:fnq 163=some c163:=by kernel_rfl
theorem tab_at:TabAt Go.Proofs.Tryz.prog 9 [185] 1 0 tab:=⟨⟨⟨⟨⟨⟨⟨⟨trivial,tab_one h127,trivial⟩,tab_one h63,trivial⟩,tab_one h31,⟨trivial,tab_one h95,trivial⟩⟩,tab_one h15,⟨⟨trivial,tab_one h79,trivial⟩,tab_one h47,⟨trivial,tab_one h111,trivial⟩⟩⟩,tab_none,⟨⟨⟨trivial,tab_one h71,trivial⟩,tab_one h39,⟨trivial,tab_one h103,trivial⟩⟩,tab_none,⟨⟨trivial,tab_one h87,trivial⟩,tab_one h55,⟨trivial,tab_one h119,trivial⟩⟩⟩⟩,tab_none,⟨⟨⟨⟨trivial,tab_one h67,trivial⟩,tab_none,⟨⟨trivial,tab_one h163,trivial⟩,tab_one h99,trivial⟩⟩,tab_one h19,⟨⟨⟨trivial,tab_one h147,trivial⟩,tab_one h83,trivial⟩,tab_one h51,⟨trivial,tab_one h115,trivial⟩⟩⟩,tab_none,⟨⟨⟨trivial,tab_one h75,trivial⟩,tab_one h43,⟨trivial,tab_one h107,trivial⟩⟩,tab_one h27,⟨⟨trivial,tab_one h91,trivial⟩,tab_one h59,⟨trivial,tab_one h123,trivial⟩⟩⟩⟩⟩,tab_none,⟨⟨⟨⟨⟨trivial,tab_one h65,trivial⟩,tab_one h33,⟨trivial,tab_one h97,trivial⟩⟩,tab_one h17,⟨⟨trivial,tab_one h81,trivial⟩,tab_one h49,⟨trivial,tab_one h113,trivial⟩⟩⟩,tab_one h9,⟨⟨⟨trivial,tab_one h73,trivial⟩,tab_none,⟨trivial,tab_one h105,trivial⟩⟩,tab_none,⟨⟨trivial,tab_one h89,trivial⟩,tab_one h57,⟨trivial,tab_one h121,trivial⟩⟩⟩⟩,tab_none,⟨⟨⟨⟨trivial,tab_one h69,trivial⟩,tab_one h37,⟨trivial,tab_one h101,trivial⟩⟩,tab_none,⟨⟨trivial,tab_one h85,trivial⟩,tab_one h53,trivial⟩⟩,tab_none,⟨⟨⟨⟨trivial,tab_one h141,trivial⟩,tab_one h77,trivial⟩,tab_one h45,⟨trivial,tab_one h109,trivial⟩⟩,tab_one h29,⟨⟨trivial,tab_one h93,trivial⟩,tab_one h61,⟨trivial,tab_one h125,trivial⟩⟩⟩⟩⟩⟩,tab_none,⟨⟨⟨⟨⟨trivial,tab_one h32,⟨trivial,tab_one h96,trivial⟩⟩,tab_one h16,⟨⟨trivial,tab_one h80,trivial⟩,tab_one h48,⟨trivial,tab_one h112,trivial⟩⟩⟩,tab_none,⟨⟨⟨⟨trivial,tab_one h136,trivial⟩,tab_one h72,trivial⟩,tab_none,⟨trivial,tab_one h104,trivial⟩⟩,tab_none,⟨trivial,tab_one h56,⟨trivial,tab_one h120,trivial⟩⟩⟩⟩,tab_none,⟨⟨⟨⟨trivial,tab_one h68,trivial⟩,tab_one h36,⟨trivial,tab_one h100,trivial⟩⟩,tab_none,⟨⟨trivial,tab_one h84,trivial⟩,tab_one h52,⟨trivial,tab_one h116,trivial⟩⟩⟩,tab_none,⟨⟨⟨⟨trivial,tab_one h140,trivial⟩,tab_one h76,trivial⟩,tab_one h44,⟨trivial,tab_one h108,trivial⟩⟩,tab_one h28,⟨⟨⟨trivial,tab_one h156,trivial⟩,tab_one h92,trivial⟩,tab_one h60,⟨trivial,tab_one h124,trivial⟩⟩⟩⟩⟩,tab_none,⟨⟨⟨⟨⟨trivial,tab_one h66,trivial⟩,tab_none,⟨trivial,tab_one h98,trivial⟩⟩,tab_one h18,⟨⟨⟨trivial,tab_one h146,trivial⟩,tab_one h82,trivial⟩,tab_one h50,⟨trivial,tab_one h114,trivial⟩⟩⟩,tab_none,⟨⟨⟨⟨trivial,tab_one h138,trivial⟩,tab_one h74,trivial⟩,tab_none,⟨trivial,tab_one h106,trivial⟩⟩,tab_one h26,⟨⟨⟨trivial,tab_one h154,trivial⟩,tab_one h90,trivial⟩,tab_one h58,⟨trivial,tab_one h122,trivial⟩⟩⟩⟩,tab_none,⟨⟨⟨⟨trivial,tab_one h70,trivial⟩,tab_one h38,⟨trivial,tab_one h102,trivial⟩⟩,tab_one h22,⟨⟨trivial,tab_one h86,trivial⟩,tab_one h54,⟨trivial,tab_one h118,trivial⟩⟩⟩,tab_one h14,⟨⟨⟨⟨trivial,tab_one h142,trivial⟩,tab_one h78,trivial⟩,tab_none,⟨trivial,tab_one h110,trivial⟩⟩,tab_one h30,⟨⟨⟨trivial,tab_one h158,trivial⟩,tab_one h94,trivial⟩,tab_none,⟨trivial,tab_one h126,trivial⟩⟩⟩⟩⟩⟩⟩
theorem mixed:Go.Proofs.Tryz.prog.follows .mixedOrders=true:=by kernel_rfl
end Go.Proofs.YtnpoloachkcadaaGreatDoor.Ai.Tryz
