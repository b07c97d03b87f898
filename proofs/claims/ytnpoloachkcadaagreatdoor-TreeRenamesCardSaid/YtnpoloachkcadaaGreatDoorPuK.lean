/- A PART OF THE PROOF: a step of the proof that the law's code does what its contracts say, by an interpreter of the program's functions that is proved to be sound. -/
import Derived.Test.YtnpoloachkcadaaGreatDoorShP
import Derived.Test.YtnpoloachkcadaaGreatDoorPuA
import Derived.Test.YtnpoloachkcadaaGreatDoorPv4
import Derived.Test.YtnpoloachkcadaaGreatDoorAwP
import Derived.Lib.LaidTab
import Derived.SliceStrings
namespace Go.Proofs.YtnpoloachkcadaaGreatDoor.Ai
open Go Go.Proofs
set_option linter.unusedSimpArgs false
set_option linter.unusedVariables false
set_option linter.unusedSectionVars false
noncomputable def CT (W:World):Ctx:=⟨Tryz.prog,9,[185],Bs.of W,fun g=>if g=0 then some kidsC else none⟩
def itS (i:Nat):ByteArray:=⟨(Lib.itoa i).toArray⟩
theorem awake_pf {W:World} {μ0:Nat→Loc} (hg:Glob 9 μ0) (hl:∀ x∈Awake.laidTabs 0,LaidAt 9 μ0 W 16 x):PFun (CT W) 14 [] (.lit (.bool true)):=
 PFun.atStart (C:=CT W) (show 9≤16 by decide) rfl (fun N0=>Awake.awake N0 0) fun w hw=>⟨μ0,hg,fun x hx=>(hl x hx).in (C:=CT W) rfl hw⟩
theorem fmTz:FmT Tryz.prog 23 where
 u27:=⟨_,Tryz.underlying27,rfl,rfl,⟨_,rfl,rfl,rfl⟩,⟨_,rfl,rfl,rfl⟩,⟨_,rfl,rfl,rfl⟩⟩
 uO:=by kernel_rfl
 u9:=by kernel_rfl
 u25:=by kernel_rfl
 c27:=by kernel_rfl
 cO:=by kernel_rfl
 c9:=by kernel_rfl
 c25:=by kernel_rfl
 b27:=of_decide_eq_true (by kernel_rfl)
def lay0:List (Nat × TypeId × List Value):=[(0,0,Awake.tab0.map (Value.int .i8))]
theorem op0 {W:World} (h:Lib.TabIs Tryz.prog W "augur/tree.kids" .i8 Awake.tab0):Op Tryz.prog 9 [185] W (known 16 lay0) (fun i=>⟨i,0,0⟩) (imgK (known 16 lay0)):=by
 refine Op.known (by decide) fun x hx=>?_
 simp only [lay0,List.mem_singleton] at hx
 subst hx
 exact Laid.of_eq (show 0 < 16 by decide) (lt0_ints _ _) (laid_of_is h (g:=0) (by kernel_rfl))
theorem rdL_ints (I:Img) (η:Eta) (k:IntKind):∀ zs:List Int,RdL I η (zs.map fun z=>.lit (.int k z)) (zs.map (Value.int k))
 | []=>by simp [RdL]
 | z::zs=>by simp only [List.map_cons,RdL];exact ⟨rd_mk rfl,rdL_ints I η k zs⟩
theorem grd0 {W:World}:GRd (imgK (known 16 lay0)) noE (CT W).G:=by
 intro g cs hg
 simp only [CT] at hg
 split at hg
 ·rename_i h0
  subst h0
  simp only [Option.some.injEq] at hg
  subst hg
  simp only [Rd]
  exact ⟨0,0,Awake.tab0.map (Value.int .i8),Awake.tab0.map (Value.int .i8),[],rfl,rfl,by simp,rdL_ints _ _ _ _⟩
 ·simp at hg
theorem OpenAny.agg {P:Program} {ng:Nat} {ts:List TypeId} {W:World} {vs:List Value} {ps:List PV} (h:OpenAny P ng ts W vs ps):OpenAny P ng ts W [.agg ⟨vs⟩] [.agg ps]:=by
 intro σ μ I ho
 obtain ⟨σ1,μ1,I1,us,o1,l1,c1,r1,t1⟩:=h σ μ I ho
 refine ⟨σ1,μ1,I1,[.agg ⟨us⟩],o1,l1,by simp [concL,conc,c1],by simp only [RdL,Rd];exact ⟨⟨us,rfl,r1⟩,trivial⟩,by simp only [ltL,lt,Bool.and_true];exact t1⟩
theorem Fm.open_arg {H:Type} {enc:TypeId × Value→H} {W:World} (hb:∃ (b:Nat) (C:Array Value) (t:TypeId) (fr:Nat × Nat),W.heap[b]? = some (.cells C t fr)) {v:Value} {d:DataW H} {ps:List MemPlace}
  (hok:∃ cs:Array Value,v = .agg cs) (h:DataW.Trod enc Tryz.prog W 0 (fun _=>true) true 27 v d ps) (hw:∀ m∈d.weights Tryz.prog 27,m≤reachBytes):∃ f:Fm,f.ok∧f.opsOK∧OpenAny Tryz.prog 9 [185] W [v] [fP f]:=by
 obtain ⟨cs,rfl⟩:=hok
 obtain ⟨fuel,h⟩:=h
 obtain ⟨f,h1,h2,h3⟩:=fm_open (ng:=9) (ts:=[185]) fmTz hb fuel cs.toList _ h hw
 exact ⟨f,h1,h2,h3.agg⟩
end Go.Proofs.YtnpoloachkcadaaGreatDoor.Ai
namespace Go.Proofs.YtnpoloachkcadaaGreatDoor.Ai
open Go
set_option linter.unusedSimpArgs false
set_option linter.unusedVariables false
set_option linter.unusedSectionVars false
theorem ltL_strs (n:Nat):∀ l:List ByteArray,ltL n (l.map Value.string)=true
 | []=>rfl
 | s::l=>by simp only [List.map_cons,ltL,lt,ltL_strs n l,Bool.and_self]
theorem rdL_strs (I:Img) (η:Eta):∀ l:List ByteArray,RdL I η (sL l) (l.map Value.string)
 | []=>by simp [sL,RdL]
 | s::l=>by
  have:=rdL_strs I η l
  simp only [sL,List.map_cons,RdL] at this ⊢
  exact ⟨rd_mk rfl,this⟩
theorem weights_strs {P:Program} {t:TypeId} {H:Type} {s:ByteArray}:∀ {l:List ByteArray},s∈l→s.size∈DataW.weightsAll (H:=H) P t (ChangeShapes.strs l)
 | [],h=>by simp at h
 | x::l,h=>by
  simp only [ChangeShapes.strs,List.map_cons,DataW.weightsAll,List.mem_append]
  rcases List.mem_cons.1 h with rfl | h
  ·exact .inl (by simp only [DataW.weights];simp)
  ·exact .inr (weights_strs h)
section
variable {H:Type} {enc:TypeId × Value→H} {P:Program} {ng:Nat} {ts:List TypeId} {W:World} {t:TypeId}
theorem texts_open (ht:P.underlying t=some (.slice 9)) (h9:P.underlying 9=some .string) (hc:P.cellsOf 9=1) (hb9:0 < P.bytesOf 9) (hb:∃ (b:Nat) (C:Array Value) (t:TypeId) (fr:Nat × Nat),W.heap[b]? = some (.cells C t fr))
  {v:Value} {d:DataW H} {ps:List MemPlace} (hv:∃ a len cap,v = .slice a len cap) (h:DataW.Trod enc P W 0 (fun _=>true) true t v d ps) (hw:∀ m∈d.weights P t,m≤reachBytes):∃ l:List ByteArray,l.length < 2 ^ 50∧(∀ s∈l,s.size < 2 ^ 50)∧OpenAny P ng ts W [v] [.sz (sL l) l.length]:=by
 obtain ⟨a0,len0,cap0,rfl⟩:=hv
 obtain ⟨fuel,h⟩:=h
 have hreach:reachBytes < 2 ^ 50:=by decide
 rcases ChangeShapes.open_strings ht h9 hc h with ⟨h1,_⟩ | ⟨a,len,cap,ss,h1,_,hlc,hcap,hlen,hx,hcell,_⟩
 ·simp only [Value.cells,List.cons.injEq,and_true,Value.slice.injEq] at h1;obtain ⟨q1,q2,q3⟩:=h1;subst a0;subst len0;subst cap0
  exact ⟨[],by simp,fun s h=>by simp at h,fun σ μ I ho=>⟨σ,μ,I,[.slice none 0 0],ho,.refl,by simp [concL,conc],by simp only [RdL];exact ⟨by simp [Rd],trivial⟩,by simp [ltL,lt]⟩⟩
 ·simp only [Value.cells,List.cons.injEq,and_true,Value.slice.injEq] at h1;obtain ⟨q1,q2,q3⟩:=h1;subst a0;subst len0;subst cap0
  simp only [if_true] at hlen
  by_cases hc0:cap=0
  ·have hl0:len=0:=by omega
   subst hc0 hl0
   refine ⟨[],by simp,fun s h=>by simp at h,fun σ μ I ho=>?_⟩
   obtain ⟨b0,C,t,fr,hC⟩:=hb
   obtain ⟨o1,l1⟩:=ho.skip ⟨a.block,0,0⟩
   obtain ⟨o2,l2⟩:=o1.add (blk:=b0) (off:=0) (us:=[]) rfl ⟨C,t,fr,hC,by simp,fun k v hk=>by simp at hk⟩
   refine ⟨_,_,_,[.slice (some ⟨σ.next,a.off,a.spot⟩) 0 0],o2,l1.trans l2,?_,?_,?_⟩
   ·have hμ:upd (upd μ σ.next ⟨a.block,0,0⟩) σ.bump.next ⟨b0,0,0⟩ σ.next=⟨a.block,0,0⟩:=by
     rw [l2.m σ.next (Nat.lt_succ_self _),upd_same]
    simp only [concL,conc,cAddr,hμ,Nat.zero_add,Nat.add_zero]
   ·simp only [RdL,Rd]
    exact ⟨.inl ⟨rfl,.inr ⟨_,σ.bump.next,[],rfl,Nat.le_succ _,by simp [Img.set]⟩⟩,trivial⟩
   ·simp [ltL,lt];exact Nat.lt_succ_of_lt (Nat.lt_succ_self _)
  ·have hsp:a.spot=none:=by
    have h0:=hcell 0 (by omega)
    have:=World.cell?_spot h0
    simpa [Addr.add] using this
   obtain ⟨b,o,s⟩:=a
   simp only at hsp;subst hsp
   have hce:∀ i,i < cap→∃ C t fr,W.heap[b]? = some (.cells C t fr)∧C[o + i]? = some (.string (ss.getD i ByteArray.empty)):=fun i hi=>by
    have h0:=hcell i (by omega)
    exact cell_at (a:=⟨b,o,none⟩) rfl h0
   obtain ⟨C,t',fr,hC,_⟩:=hce 0 (by omega)
   have hce2:∀ i,i < cap→C[o + i]? = some (.string (ss.getD i ByteArray.empty)):=fun i hi=>by
    obtain ⟨C',t2,fr2,hC',h2⟩:=hce i hi
    rw [hC] at hC'
    simp only [Option.some.injEq,Obj.cells.injEq] at hC'
    obtain ⟨rfl,_⟩:=hC'
    exact h2
   have hsz:o + cap≤C.size:=by
    have h1:=hce2 (cap - 1) (by omega)
    have:=(Array.getElem?_eq_some_iff.1 h1).1
    omega
   have htl:(ss.take len).length=len:=by rw [List.length_take];omega
   have hxd:d = .slice (ChangeShapes.strs (ss.take len)) (ChangeShapes.strs (ss.drop len)):=congrArg Prod.fst hx
   have hws:∀ s∈ss.take len,s.size < 2 ^ 50:=fun s hs=>by
    have:=hw s.size (by rw [hxd];simp only [DataW.weights,ht,List.mem_cons,List.mem_append];exact .inr (.inl (weights_strs hs)))
    omega
   have hlw:len < 2 ^ 50:=by
    have:=hw ((ss.take len).length * P.bytesOf 9 + (ss.drop len).length * P.bytesOf 9) (by rw [hxd,← Nat.add_mul];simp only [DataW.weights,ht,ChangeShapes.strs,List.length_map,List.mem_cons,true_or])
    have h2:(ss.take len).length≤(ss.take len).length * P.bytesOf 9:=Nat.le_mul_of_pos_right _ hb9
    omega
   refine ⟨ss.take len,by rw [htl];exact hlw,hws,fun σ μ I ho=>?_⟩
   obtain ⟨o2,l2⟩:=ho.add (blk:=b) (off:=o) (us:=ss.map Value.string) (ltL_strs _ ss) ⟨C,t',fr,hC,by rw [List.length_map];omega,fun k v hk=>by
    rw [List.getElem?_map,Option.map_eq_some_iff] at hk
    obtain ⟨s,hs,rfl⟩:=hk
    have hk:=(List.getElem?_eq_some_iff.1 hs).1
    have:=hce2 k (by omega)
    rw [List.getD_eq_getElem?_getD,hs] at this
    simpa only [conc,Option.getD_some] using this⟩
   refine ⟨_,_,_,[.slice (some ⟨σ.next,0,none⟩) len cap],o2,l2,?_,?_,?_⟩
   ·simp [concL,conc,cAddr,upd_same]
   ·simp only [RdL,Rd]
    refine ⟨.inr ⟨σ.next,0,cap,ss.map Value.string,(ss.take len).map Value.string,(ss.drop len).map Value.string,by rw [htl],by rw [htl];exact hlc,by simp [Img.set],by simp [← List.map_append],?_⟩,trivial⟩
    exact rdL_strs _ _ _
   ·simp [ltL,lt]
end
end Go.Proofs.YtnpoloachkcadaaGreatDoor.Ai
