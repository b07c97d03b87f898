/- A PART OF THE PROOF: a step of the proof that the law's code does what its contracts say, by an interpreter of the program's functions that is proved to be sound. -/
import Derived.Test.YtkldgoapompinaaDoorAi3
import Derived.Test.YtkldgoapompinaaDoorIrT
import Derived.Test.YtkldgoapompinaaDoorProg
import Derived.KernelRfl
namespace Go.Proofs.YtkldgoapompinaaDoor.Ai.Tryd
open Go
set_option maxRecDepth 100000
theorem h4:(Go.Proofs.Tryd.prog.funcs[4]?).bind (cFunc Go.Proofs.Tryd.prog 3 [])=some c4:=by kernel_rfl
theorem h12:(Go.Proofs.Tryd.prog.funcs[12]?).bind (cFunc Go.Proofs.Tryd.prog 3 [])=some c12:=by kernel_rfl
theorem h13:(Go.Proofs.Tryd.prog.funcs[13]?).bind (cFunc Go.Proofs.Tryd.prog 3 [])=some c13:=by kernel_rfl
theorem h14:(Go.Proofs.Tryd.prog.funcs[14]?).bind (cFunc Go.Proofs.Tryd.prog 3 [])=some c14:=by kernel_rfl
theorem h15:(Go.Proofs.Tryd.prog.funcs[15]?).bind (cFunc Go.Proofs.Tryd.prog 3 [])=some c15:=by kernel_rfl
theorem h16:(Go.Proofs.Tryd.prog.funcs[16]?).bind (cFunc Go.Proofs.Tryd.prog 3 [])=some c16:=by kernel_rfl
theorem h17:(Go.Proofs.Tryd.prog.funcs[17]?).bind (cFunc Go.Proofs.Tryd.prog 3 [])=some c17:=by kernel_rfl
theorem h18:(Go.Proofs.Tryd.prog.funcs[18]?).bind (cFunc Go.Proofs.Tryd.prog 3 [])=some c18:=by kernel_rfl
theorem h19:(Go.Proofs.Tryd.prog.funcs[19]?).bind (cFunc Go.Proofs.Tryd.prog 3 [])=some c19:=by kernel_rfl
theorem h20:(Go.Proofs.Tryd.prog.funcs[20]?).bind (cFunc Go.Proofs.Tryd.prog 3 [])=some c20:=by kernel_rfl
theorem h21:(Go.Proofs.Tryd.prog.funcs[21]?).bind (cFunc Go.Proofs.Tryd.prog 3 [])=some c21:=by kernel_rfl
theorem h22:(Go.Proofs.Tryd.prog.funcs[22]?).bind (cFunc Go.Proofs.Tryd.prog 3 [])=some c22:=by kernel_rfl
theorem h23:(Go.Proofs.Tryd.prog.funcs[23]?).bind (cFunc Go.Proofs.Tryd.prog 3 [])=some c23:=by kernel_rfl
theorem h24:(Go.Proofs.Tryd.prog.funcs[24]?).bind (cFunc Go.Proofs.Tryd.prog 3 [])=some c24:=by kernel_rfl
theorem h25:(Go.Proofs.Tryd.prog.funcs[25]?).bind (cFunc Go.Proofs.Tryd.prog 3 [])=some c25:=by kernel_rfl
theorem h26:(Go.Proofs.Tryd.prog.funcs[26]?).bind (cFunc Go.Proofs.Tryd.prog 3 [])=some c26:=by kernel_rfl
theorem h27:(Go.Proofs.Tryd.prog.funcs[27]?).bind (cFunc Go.Proofs.Tryd.prog 3 [])=some c27:=by kernel_rfl
theorem h28:(Go.Proofs.Tryd.prog.funcs[28]?).bind (cFunc Go.Proofs.Tryd.prog 3 [])=some c28:=by kernel_rfl
theorem h29:(Go.Proofs.Tryd.prog.funcs[29]?).bind (cFunc Go.Proofs.Tryd.prog 3 [])=some c29:=by kernel_rfl
theorem h30:(Go.Proofs.Tryd.prog.funcs[30]?).bind (cFunc Go.Proofs.Tryd.prog 3 [])=some c30:=by kernel_rfl
theorem h31:(Go.Proofs.Tryd.prog.funcs[31]?).bind (cFunc Go.Proofs.Tryd.prog 3 [])=some c31:=by kernel_rfl
theorem h32:(Go.Proofs.Tryd.prog.funcs[32]?).bind (cFunc Go.Proofs.Tryd.prog 3 [])=some c32:=by kernel_rfl
theorem h33:(Go.Proofs.Tryd.prog.funcs[33]?).bind (cFunc Go.Proofs.Tryd.prog 3 [])=some c33:=by kernel_rfl
theorem h34:(Go.Proofs.Tryd.prog.funcs[34]?).bind (cFunc Go.Proofs.Tryd.prog 3 [])=some c34:=by kernel_rfl
theorem h35:(Go.Proofs.Tryd.prog.funcs[35]?).bind (cFunc Go.Proofs.Tryd.prog 3 [])=some c35:=by kernel_rfl
theorem h36:(Go.Proofs.Tryd.prog.funcs[36]?).bind (cFunc Go.Proofs.Tryd.prog 3 [])=some c36:=by kernel_rfl
theorem h37:(Go.Proofs.Tryd.prog.funcs[37]?).bind (cFunc Go.Proofs.Tryd.prog 3 [])=some c37:=by kernel_rfl
theorem h38:(Go.Proofs.Tryd.prog.funcs[38]?).bind (cFunc Go.Proofs.Tryd.prog 3 [])=some c38:=by kernel_rfl
theorem h39:(Go.Proofs.Tryd.prog.funcs[39]?).bind (cFunc Go.Proofs.Tryd.prog 3 [])=some c39:=by kernel_rfl
theorem h40:(Go.Proofs.Tryd.prog.funcs[40]?).bind (cFunc Go.Proofs.Tryd.prog 3 [])=some c40:=by kernel_rfl
theorem h41:(Go.Proofs.Tryd.prog.funcs[41]?).bind (cFunc Go.Proofs.Tryd.prog 3 [])=some c41:=by kernel_rfl
theorem h42:(Go.Proofs.Tryd.prog.funcs[42]?).bind (cFunc Go.Proofs.Tryd.prog 3 [])=some c42:=by kernel_rfl
theorem h43:(Go.Proofs.Tryd.prog.funcs[43]?).bind (cFunc Go.Proofs.Tryd.prog 3 [])=some c43:=by kernel_rfl
theorem h47:(Go.Proofs.Tryd.prog.funcs[47]?).bind (cFunc Go.Proofs.Tryd.prog 3 [])=some c47:=by kernel_rfl
theorem h50:(Go.Proofs.Tryd.prog.funcs[50]?).bind (cFunc Go.Proofs.Tryd.prog 3 [])=some c50:=by kernel_rfl
theorem h51:(Go.Proofs.Tryd.prog.funcs[51]?).bind (cFunc Go.Proofs.Tryd.prog 3 [])=some c51:=by kernel_rfl
theorem h52:(Go.Proofs.Tryd.prog.funcs[52]?).bind (cFunc Go.Proofs.Tryd.prog 3 [])=some c52:=by kernel_rfl
theorem h53:(Go.Proofs.Tryd.prog.funcs[53]?).bind (cFunc Go.Proofs.Tryd.prog 3 [])=some c53:=by kernel_rfl
theorem h54:(Go.Proofs.Tryd.prog.funcs[54]?).bind (cFunc Go.Proofs.Tryd.prog 3 [])=some c54:=by kernel_rfl
theorem h55:(Go.Proofs.Tryd.prog.funcs[55]?).bind (cFunc Go.Proofs.Tryd.prog 3 [])=some c55:=by kernel_rfl
theorem h56:(Go.Proofs.Tryd.prog.funcs[56]?).bind (cFunc Go.Proofs.Tryd.prog 3 [])=some c56:=by kernel_rfl
theorem h57:(Go.Proofs.Tryd.prog.funcs[57]?).bind (cFunc Go.Proofs.Tryd.prog 3 [])=some c57:=by kernel_rfl
theorem h58:(Go.Proofs.Tryd.prog.funcs[58]?).bind (cFunc Go.Proofs.Tryd.prog 3 [])=some c58:=by kernel_rfl
theorem h59:(Go.Proofs.Tryd.prog.funcs[59]?).bind (cFunc Go.Proofs.Tryd.prog 3 [])=some c59:=by kernel_rfl
theorem h60:(Go.Proofs.Tryd.prog.funcs[60]?).bind (cFunc Go.Proofs.Tryd.prog 3 [])=some c60:=by kernel_rfl
theorem h61:(Go.Proofs.Tryd.prog.funcs[61]?).bind (cFunc Go.Proofs.Tryd.prog 3 [])=some c61:=by kernel_rfl
theorem h62:(Go.Proofs.Tryd.prog.funcs[62]?).bind (cFunc Go.Proofs.Tryd.prog 3 [])=some c62:=by kernel_rfl
theorem h63:(Go.Proofs.Tryd.prog.funcs[63]?).bind (cFunc Go.Proofs.Tryd.prog 3 [])=some c63:=by kernel_rfl
theorem h64:(Go.Proofs.Tryd.prog.funcs[64]?).bind (cFunc Go.Proofs.Tryd.prog 3 [])=some c64:=by kernel_rfl
theorem h65:(Go.Proofs.Tryd.prog.funcs[65]?).bind (cFunc Go.Proofs.Tryd.prog 3 [])=some c65:=by kernel_rfl
theorem h66:(Go.Proofs.Tryd.prog.funcs[66]?).bind (cFunc Go.Proofs.Tryd.prog 3 [])=some c66:=by kernel_rfl
theorem h67:(Go.Proofs.Tryd.prog.funcs[67]?).bind (cFunc Go.Proofs.Tryd.prog 3 [])=some c67:=by kernel_rfl
theorem h68:(Go.Proofs.Tryd.prog.funcs[68]?).bind (cFunc Go.Proofs.Tryd.prog 3 [])=some c68:=by kernel_rfl
theorem h69:(Go.Proofs.Tryd.prog.funcs[69]?).bind (cFunc Go.Proofs.Tryd.prog 3 [])=some c69:=by kernel_rfl
theorem h70:(Go.Proofs.Tryd.prog.funcs[70]?).bind (cFunc Go.Proofs.Tryd.prog 3 [])=some c70:=by kernel_rfl
theorem h71:(Go.Proofs.Tryd.prog.funcs[71]?).bind (cFunc Go.Proofs.Tryd.prog 3 [])=some c71:=by kernel_rfl
theorem h72:(Go.Proofs.Tryd.prog.funcs[72]?).bind (cFunc Go.Proofs.Tryd.prog 3 [])=some c72:=by kernel_rfl
theorem h73:(Go.Proofs.Tryd.prog.funcs[73]?).bind (cFunc Go.Proofs.Tryd.prog 3 [])=some c73:=by kernel_rfl
theorem h74:(Go.Proofs.Tryd.prog.funcs[74]?).bind (cFunc Go.Proofs.Tryd.prog 3 [])=some c74:=by kernel_rfl
theorem h75:(Go.Proofs.Tryd.prog.funcs[75]?).bind (cFunc Go.Proofs.Tryd.prog 3 [])=some c75:=by kernel_rfl
theorem h78:(Go.Proofs.Tryd.prog.funcs[78]?).bind (cFunc Go.Proofs.Tryd.prog 3 [])=some c78:=by kernel_rfl
theorem h79:(Go.Proofs.Tryd.prog.funcs[79]?).bind (cFunc Go.Proofs.Tryd.prog 3 [])=some c79:=by kernel_rfl
theorem h81:(Go.Proofs.Tryd.prog.funcs[81]?).bind (cFunc Go.Proofs.Tryd.prog 3 [])=some c81:=by kernel_rfl
theorem h82:(Go.Proofs.Tryd.prog.funcs[82]?).bind (cFunc Go.Proofs.Tryd.prog 3 [])=some c82:=by kernel_rfl
theorem h83:(Go.Proofs.Tryd.prog.funcs[83]?).bind (cFunc Go.Proofs.Tryd.prog 3 [])=some c83:=by kernel_rfl
theorem h84:(Go.Proofs.Tryd.prog.funcs[84]?).bind (cFunc Go.Proofs.Tryd.prog 3 [])=some c84:=by kernel_rfl
theorem h85:(Go.Proofs.Tryd.prog.funcs[85]?).bind (cFunc Go.Proofs.Tryd.prog 3 [])=some c85:=by kernel_rfl
theorem h86:(Go.Proofs.Tryd.prog.funcs[86]?).bind (cFunc Go.Proofs.Tryd.prog 3 [])=some c86:=by kernel_rfl
theorem h87:(Go.Proofs.Tryd.prog.funcs[87]?).bind (cFunc Go.Proofs.Tryd.prog 3 [])=some c87:=by kernel_rfl
theorem h90:(Go.Proofs.Tryd.prog.funcs[90]?).bind (cFunc Go.Proofs.Tryd.prog 3 [])=some c90:=by kernel_rfl
theorem h91:(Go.Proofs.Tryd.prog.funcs[91]?).bind (cFunc Go.Proofs.Tryd.prog 3 [])=some c91:=by kernel_rfl
theorem h92:(Go.Proofs.Tryd.prog.funcs[92]?).bind (cFunc Go.Proofs.Tryd.prog 3 [])=some c92:=by kernel_rfl
theorem tab_at:TabAt Go.Proofs.Tryd.prog 3 [] 1 0 tab:=⟨⟨⟨⟨⟨⟨⟨trivial,tab_one h63,trivial⟩,tab_one h31,trivial⟩,tab_one h15,⟨⟨trivial,tab_one h79,trivial⟩,tab_one h47,trivial⟩⟩,tab_none,⟨⟨⟨trivial,tab_one h71,trivial⟩,tab_one h39,trivial⟩,tab_one h23,⟨⟨trivial,tab_one h87,trivial⟩,tab_one h55,trivial⟩⟩⟩,tab_none,⟨⟨⟨⟨trivial,tab_one h67,trivial⟩,tab_one h35,trivial⟩,tab_one h19,⟨⟨trivial,tab_one h83,trivial⟩,tab_one h51,trivial⟩⟩,tab_none,⟨⟨⟨trivial,tab_one h75,trivial⟩,tab_one h43,trivial⟩,tab_one h27,⟨⟨trivial,tab_one h91,trivial⟩,tab_one h59,trivial⟩⟩⟩⟩,tab_none,⟨⟨⟨⟨⟨trivial,tab_one h65,trivial⟩,tab_one h33,trivial⟩,tab_one h17,⟨⟨trivial,tab_one h81,trivial⟩,tab_none,trivial⟩⟩,tab_none,⟨⟨⟨trivial,tab_one h73,trivial⟩,tab_one h41,trivial⟩,tab_one h25,⟨trivial,tab_one h57,trivial⟩⟩⟩,tab_none,⟨⟨⟨⟨trivial,tab_one h69,trivial⟩,tab_one h37,trivial⟩,tab_one h21,⟨⟨trivial,tab_one h85,trivial⟩,tab_one h53,trivial⟩⟩,tab_one h13,⟨trivial,tab_one h29,⟨trivial,tab_one h61,trivial⟩⟩⟩⟩⟩,tab_none,⟨⟨⟨⟨⟨⟨trivial,tab_one h64,trivial⟩,tab_one h32,trivial⟩,tab_one h16,trivial⟩,tab_none,⟨⟨⟨trivial,tab_one h72,trivial⟩,tab_one h40,trivial⟩,tab_one h24,⟨trivial,tab_one h56,trivial⟩⟩⟩,tab_one h4,⟨⟨⟨⟨trivial,tab_one h68,trivial⟩,tab_one h36,trivial⟩,tab_one h20,⟨⟨trivial,tab_one h84,trivial⟩,tab_one h52,trivial⟩⟩,tab_one h12,⟨trivial,tab_one h28,⟨⟨trivial,tab_one h92,trivial⟩,tab_one h60,trivial⟩⟩⟩⟩,tab_none,⟨⟨⟨⟨⟨trivial,tab_one h66,trivial⟩,tab_one h34,trivial⟩,tab_one h18,⟨⟨trivial,tab_one h82,trivial⟩,tab_one h50,trivial⟩⟩,tab_none,⟨⟨⟨trivial,tab_one h74,trivial⟩,tab_one h42,trivial⟩,tab_one h26,⟨⟨trivial,tab_one h90,trivial⟩,tab_one h58,trivial⟩⟩⟩,tab_none,⟨⟨⟨⟨trivial,tab_one h70,trivial⟩,tab_one h38,trivial⟩,tab_one h22,⟨⟨trivial,tab_one h86,trivial⟩,tab_one h54,trivial⟩⟩,tab_one h14,⟨⟨⟨trivial,tab_one h78,trivial⟩,tab_none,trivial⟩,tab_one h30,⟨trivial,tab_one h62,trivial⟩⟩⟩⟩⟩⟩
theorem mixed:Go.Proofs.Tryd.prog.follows .mixedOrders=true:=by kernel_rfl
end Go.Proofs.YtkldgoapompinaaDoor.Ai.Tryd
