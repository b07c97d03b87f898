/- A PART OF THE PROOF: a step of the proof that the law's code does what its contracts say, by an interpreter of the program's functions that is proved to be sound. -/
import Derived.Test.YtnpoloachkcadaaGreatDoorShP
import Derived.Test.YtnpoloachkcadaaGreatDoorPuA
import Derived.Test.YtnpoloachkcadaaGreatDoorPv4
import Derived.Test.YtnpoloachkcadaaGreatDoorAwP
import Derived.Lib.LaidTab
namespace Go.Proofs.YtnpoloachkcadaaGreatDoor.Ai
open Go Go.Proofs
set_option linter.unusedSimpArgs false
set_option linter.unusedVariables false
set_option linter.unusedSectionVars false
noncomputable def CT (W:World):Ctx:=⟨Tryz.prog,9,[185],Bs.of W,fun g=>if g=0 then some kidsC else none⟩
def itS (i:Nat):ByteArray:=⟨(Lib.itoa i).toArray⟩
theorem awake_pf {W:World} {μ0:Nat→Loc} (hg:Glob 9 μ0) (hl:∀ x∈Awake.laidTabs 0,LaidAt 9 μ0 W 16 x):PFun (CT W) 14 [] (.lit (.bool true)):=
 PFun.atStart (C:=CT W) (show 9≤16 by decide) rfl (fun N0=>Awake.awake N0 0) fun w hw=>⟨μ0,hg,fun x hx=>(hl x hx).in (C:=CT W) rfl hw⟩
theorem fmTz:FmT Tryz.prog 23 where
 u27:=⟨_,Tryz.underlying27,rfl,rfl,⟨_,rfl,rfl,rfl⟩,⟨_,rfl,rfl,rfl⟩,⟨_,rfl,rfl,rfl⟩⟩
 uO:=by kernel_rfl
 u9:=by kernel_rfl
 u25:=by kernel_rfl
 c27:=by kernel_rfl
 cO:=by kernel_rfl
 c9:=by kernel_rfl
 c25:=by kernel_rfl
 b27:=of_decide_eq_true (by kernel_rfl)
def lay0:List (Nat × TypeId × List Value):=[(0,0,Awake.tab0.map (Value.int .i8))]
theorem op0 {W:World} (h:Lib.TabIs Tryz.prog W "augur/tree.kids" .i8 Awake.tab0):Op Tryz.prog 9 [185] W (known 16 lay0) (fun i=>⟨i,0,0⟩) (imgK (known 16 lay0)):=by
 refine Op.known (by decide) fun x hx=>?_
 simp only [lay0,List.mem_singleton] at hx
 subst hx
 exact Laid.of_eq (show 0 < 16 by decide) (lt0_ints _ _) (laid_of_is h (g:=0) (by kernel_rfl))
theorem rdL_ints (I:Img) (η:Eta) (k:IntKind):∀ zs:List Int,RdL I η (zs.map fun z=>.lit (.int k z)) (zs.map (Value.int k))
 | []=>by simp [RdL]
 | z::zs=>by simp only [List.map_cons,RdL];exact ⟨rd_mk rfl,rdL_ints I η k zs⟩
theorem grd0 {W:World}:GRd (imgK (known 16 lay0)) noE (CT W).G:=by
 intro g cs hg
 simp only [CT] at hg
 split at hg
 ·rename_i h0
  subst h0
  simp only [Option.some.injEq] at hg
  subst hg
  simp only [Rd]
  exact ⟨0,0,Awake.tab0.map (Value.int .i8),Awake.tab0.map (Value.int .i8),[],rfl,rfl,by simp,rdL_ints _ _ _ _⟩
 ·simp at hg
theorem OpenAny.agg {P:Program} {ng:Nat} {ts:List TypeId} {W:World} {vs:List Value} {ps:List PV} (h:OpenAny P ng ts W vs ps):OpenAny P ng ts W [.agg ⟨vs⟩] [.agg ps]:=by
 intro σ μ I ho
 obtain ⟨σ1,μ1,I1,us,o1,l1,c1,r1,t1⟩:=h σ μ I ho
 refine ⟨σ1,μ1,I1,[.agg ⟨us⟩],o1,l1,by simp [concL,conc,c1],by simp only [RdL,Rd];exact ⟨⟨us,rfl,r1⟩,trivial⟩,by simp only [ltL,lt,Bool.and_true];exact t1⟩
theorem Fm.open_arg {H:Type} {enc:TypeId × Value→H} {W:World} (hb:∃ (b:Nat) (C:Array Value) (t:TypeId) (fr:Nat × Nat),W.heap[b]? = some (.cells C t fr)) {v:Value} {d:DataW H} {ps:List MemPlace}
  (hok:∃ cs:Array Value,v = .agg cs) (h:DataW.Trod enc Tryz.prog W 0 (fun _=>true) true 27 v d ps) (hw:∀ m∈d.weights Tryz.prog 27,m≤reachBytes):∃ f:Fm,f.ok∧f.opsOK∧OpenAny Tryz.prog 9 [185] W [v] [fP f]:=by
 obtain ⟨cs,rfl⟩:=hok
 obtain ⟨fuel,h⟩:=h
 obtain ⟨f,h1,h2,h3⟩:=fm_open (ng:=9) (ts:=[185]) fmTz hb fuel cs.toList _ h hw
 exact ⟨f,h1,h2,h3.agg⟩
end Go.Proofs.YtnpoloachkcadaaGreatDoor.Ai
