/- A PART OF THE PROOF: a step of the proof that the law's code does what its contracts say, by an interpreter of the program's functions that is proved to be sound. -/
import Derived.Test.YtkldgoapompinaaDoorShW
import Derived.Test.YtkldgoapompinaaDoorWtA
import Derived.Test.YtkldgoapompinaaDoorPv5
import Derived.Lib.ItoaLen
import Derived.Lib.LaidTab
namespace Go.Proofs.YtkldgoapompinaaDoor.Ai
open Go Go.Proofs
set_option linter.unusedSimpArgs false
set_option linter.unusedVariables false
set_option linter.unusedSectionVars false
theorem var_in {C:Ctx} {P:Program} {W w:World} {name:String} {x:Array Value} (hN:C.N0=Bs.of W) (hw:C.N0.in w) (h:W.var? P name=some x):w.var? P name=some x:=by
 unfold World.var? at h ⊢
 simp only [Option.bind_eq_bind,Option.bind_eq_some_iff] at h ⊢
 obtain ⟨g,hg,h⟩:=h
 refine ⟨g,hg,?_⟩
 split at h
 ·rename_i cs t fr hc
  have hlt:g < C.N0.n:=by rw [hN];exact (Array.getElem?_eq_some_iff.1 hc).1
  have hwg:=hw.2 g hlt
  rw [hN] at hwg
  have:w.heap[g]? = some (.cells cs t fr):=hwg.trans hc
  rw [this];exact h
 ·simp at h
noncomputable def CT (W:World):Ctx:=⟨Tryd.prog,3,[],Bs.of W,fun _=>none⟩
def itS (i:Nat):ByteArray:=⟨(Lib.itoa i).toArray⟩
theorem itS_digs (i:Nat):digs itS i=Lib.decDigits i:=by
 show (Lib.itoa (i:Int)).toArray.toList=_
 rw [Lib.itoa_nonneg]
theorem itoa_pf {W:World} (ht:Lib.TabIs Tryd.prog W "internal/strconv.uint64pow10" .u64 Lib.pow10Tab) (i:Nat) (hi:i < 2 ^ 40):PFun (CT W) 58 [.lit (.int .i64 (i:Nat))] (.lit (.string (itS i))):=
 PFun.of_calls (C:=CT W) (vs:=[.int .i64 (i:Nat)]) rfl rfl ⟨_,Tryd.func58,by kernel_rfl,by kernel_rfl⟩ fun w hw=>
  (Any.strconv_Itoa Tryd.laysM171 (i:Nat) (by omega) (by omega) w (var_in (C:=CT W) rfl hw ht)).mono fun e w' ⟨he,k,os,hw'⟩=>⟨he,by rw [hw'];exact grow_facts w k os⟩
theorem PFun.of_yes {W:World} {n m:Nat} (hm:(CT W).P.follows .mixedOrders=true) (hC:TabOK (CT W).P 3 [] Tryd.tab) (hn:3≤m) {f:FuncId} (hy:yes Tryd.tab (n + 1) f [] (bare m)=true):PFun (CT W) f [] (.lit (.bool true)):=by
 unfold yes at hy
 split at hy
 ·rename_i σf hv
  exact PFun.atStart (C:=CT W) (l:=[]) (n:=m) hn rfl (fun N0=>CTo.of_K (all_sound hm hC (n + 1)) hv) fun w hw=>⟨fun i=>⟨i,0,0⟩,⟨fun _ _=>rfl⟩,fun x hx=>by simp at hx⟩
 ·simp at hy
end Go.Proofs.YtkldgoapompinaaDoor.Ai
