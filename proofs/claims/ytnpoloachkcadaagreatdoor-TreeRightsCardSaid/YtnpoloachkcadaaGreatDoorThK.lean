/- A PART OF THE PROOF: a step of the proof that the law's code does what its contracts say, by an interpreter of the program's functions that is proved to be sound. -/
import Derived.Test.YtnpoloachkcadaaGreatDoorShP
import Derived.Test.YtnpoloachkcadaaGreatDoorThB
import Derived.Test.YtnpoloachkcadaaGreatDoorPv3
import Derived.Test.YtnpoloachkcadaaGreatDoorAwH
import Derived.Lib.LaidTab
namespace Go.Proofs.YtnpoloachkcadaaGreatDoor.Ai
open Go Go.Proofs
set_option linter.unusedSimpArgs false
set_option linter.unusedVariables false
set_option linter.unusedSectionVars false
theorem var_in {C:Ctx} {P:Program} {W w:World} {name:String} {x:Array Value} (hN:C.N0=Bs.of W) (hw:C.N0.in w) (h:W.var? P name=some x):w.var? P name=some x:=by
 unfold World.var? at h ⊢
 simp only [Option.bind_eq_bind,Option.bind_eq_some_iff] at h ⊢
 obtain ⟨g,hg,h⟩:=h
 refine ⟨g,hg,?_⟩
 split at h
 ·rename_i cs t fr hc
  have hlt:g < C.N0.n:=by rw [hN];exact (Array.getElem?_eq_some_iff.1 hc).1
  have hwg:=hw.2 g hlt
  rw [hN] at hwg
  have:w.heap[g]? = some (.cells cs t fr):=hwg.trans hc
  rw [this];exact h
 ·simp at h
noncomputable def CT (W:World):Ctx:=⟨Tryz.prog,9,[185],Bs.of W,fun g=>if g=0 then some kidsC else none⟩
def itS (i:Nat):ByteArray:=⟨(Lib.itoa i).toArray⟩
theorem nDigits_le:∀ (k u:Nat),u < 10 ^ (k + 1)→Lib.nDigits u≤k + 1
 | 0,u,h=>by rw [Lib.nDigits_small (by simpa using h)];omega
 | k + 1,u,h=>by
  by_cases h1:u < 10
  ·rw [Lib.nDigits_small h1];omega
  ·rw [Lib.nDigits_big h1]
   have:=nDigits_le k (u / 10) (by rw [Nat.pow_succ] at h;omega)
   omega
theorem itS_size (i:Nat) (h:i < 2 ^ 40):(itS i).size≤20:=by
 have e:(itS i).size=(Lib.decDigits i).length:=by
  show (Lib.itoa (i:Int)).toArray.size=_
  rw [Lib.itoa_nonneg];simp
 rw [e,Lib.decDigits_eq]
 simp only [List.length_map,List.length_range]
 have:=nDigits_le 19 i (by omega)
 omega
theorem itoa_pf {W:World} (ht:Lib.TabIs Tryz.prog W "internal/strconv.uint64pow10" .u64 Lib.pow10Tab) (i:Nat) (hi:i < 2 ^ 40):PFun (CT W) 91 [.lit (.int .i64 (i:Nat))] (.lit (.string (itS i))):=
 PFun.of_calls (C:=CT W) (vs:=[.int .i64 (i:Nat)]) rfl rfl ⟨_,Tryz.func91,by kernel_rfl,by kernel_rfl⟩ fun w hw=>
  (Any.strconv_Itoa Tryz.laysM171 (i:Nat) (by omega) (by omega) w (var_in (C:=CT W) rfl hw ht)).mono fun e w' ⟨he,k,os,hw'⟩=>⟨he,by rw [hw'];exact grow_facts w k os⟩
theorem awake_pf {W:World} {μ0:Nat→Loc} (hg:Glob 9 μ0) (hl:∀ x∈Awake.laidTabs 0,LaidAt 9 μ0 W 16 x):PFun (CT W) 14 [] (.lit (.bool true)):=
 PFun.atStart (C:=CT W) (show 9≤16 by decide) rfl (fun N0=>Awake.awake N0 0) fun w hw=>⟨μ0,hg,fun x hx=>(hl x hx).in (C:=CT W) rfl hw⟩
theorem fmTz:FmT Tryz.prog 23 where
 u27:=⟨_,Tryz.underlying27,rfl,rfl,⟨_,rfl,rfl,rfl⟩,⟨_,rfl,rfl,rfl⟩,⟨_,rfl,rfl,rfl⟩⟩
 uO:=by kernel_rfl
 u9:=by kernel_rfl
 u25:=by kernel_rfl
 c27:=by kernel_rfl
 cO:=by kernel_rfl
 c9:=by kernel_rfl
 c25:=by kernel_rfl
 b27:=of_decide_eq_true (by kernel_rfl)
def lay0:List (Nat × TypeId × List Value):=[(0,0,Awake.tab0.map (Value.int .i8))]
theorem op0 {W:World} (h:Lib.TabIs Tryz.prog W "augur/tree.kids" .i8 Awake.tab0):Op Tryz.prog 9 [185] W (known 16 lay0) (fun i=>⟨i,0,0⟩) (imgK (known 16 lay0)):=by
 refine Op.known (by decide) fun x hx=>?_
 simp only [lay0,List.mem_singleton] at hx
 subst hx
 exact Laid.of_eq (show 0 < 16 by decide) (lt0_ints _ _) (laid_of_is h (g:=0) (by kernel_rfl))
theorem rdL_ints (I:Img) (η:Eta) (k:IntKind):∀ zs:List Int,RdL I η (zs.map fun z=>.lit (.int k z)) (zs.map (Value.int k))
 | []=>by simp [RdL]
 | z::zs=>by simp only [List.map_cons,RdL];exact ⟨rd_mk rfl,rdL_ints I η k zs⟩
theorem grd0 {W:World}:GRd (imgK (known 16 lay0)) noE (CT W).G:=by
 intro g cs hg
 simp only [CT] at hg
 split at hg
 ·rename_i h0
  subst h0
  simp only [Option.some.injEq] at hg
  subst hg
  simp only [Rd]
  exact ⟨0,0,Awake.tab0.map (Value.int .i8),Awake.tab0.map (Value.int .i8),[],rfl,rfl,by simp,rdL_ints _ _ _ _⟩
 ·simp at hg
theorem OpenAny.agg {P:Program} {ng:Nat} {ts:List TypeId} {W:World} {vs:List Value} {ps:List PV} (h:OpenAny P ng ts W vs ps):OpenAny P ng ts W [.agg ⟨vs⟩] [.agg ps]:=by
 intro σ μ I ho
 obtain ⟨σ1,μ1,I1,us,o1,l1,c1,r1,t1⟩:=h σ μ I ho
 refine ⟨σ1,μ1,I1,[.agg ⟨us⟩],o1,l1,by simp [concL,conc,c1],by simp only [RdL,Rd];exact ⟨⟨us,rfl,r1⟩,trivial⟩,by simp only [ltL,lt,Bool.and_true];exact t1⟩
theorem Fm.open_arg {H:Type} {enc:TypeId × Value→H} {W:World} (hb:∃ (b:Nat) (C:Array Value) (t:TypeId) (fr:Nat × Nat),W.heap[b]? = some (.cells C t fr)) {v:Value} {d:DataW H} {ps:List MemPlace}
  (hok:∃ cs:Array Value,v = .agg cs) (h:DataW.Trod enc Tryz.prog W 0 (fun _=>true) true 27 v d ps) (hw:∀ m∈d.weights Tryz.prog 27,m≤reachBytes):∃ f:Fm,f.ok∧f.opsOK∧OpenAny Tryz.prog 9 [185] W [v] [fP f]:=by
 obtain ⟨cs,rfl⟩:=hok
 obtain ⟨fuel,h⟩:=h
 obtain ⟨f,h1,h2,h3⟩:=fm_open (ng:=9) (ts:=[185]) fmTz hb fuel cs.toList _ h hw
 exact ⟨f,h1,h2,h3.agg⟩
end Go.Proofs.YtnpoloachkcadaaGreatDoor.Ai
