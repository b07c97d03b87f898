/- A PART OF THE PROOF: a step of the proof that the law's code does what its contracts say, by an interpreter of the program's functions that is proved to be sound. -/
import Derived.Test.YtnpoloachkcadaaGreatDoorAi2
import Derived.Calls
import Derived.Below
import Derived.Lib.LaidTab
import Derived.LaidLaws
namespace Go.Proofs.YtnpoloachkcadaaGreatDoor.Ai
open Go
set_option linter.unusedSimpArgs false
set_option linter.unusedSectionVars false
section
variable {P:Program} {ng:Nat} {ts:List TypeId} {N0:Bs} {K:Ks} {μ μ' μ2 μ0:Nat→Loc} {σ σ' σ0:AW} {w w' w0:World}
theorem Rep.agrμ (h:Rep P ng ts N0 μ σ w) (ha:∀ x,x < σ.next→μ2 x=μ x):Rep P ng ts N0 μ2 σ w:=by
 have hk:∀ k c,σ.heap.get k=some c→μ2 k=μ k:=fun k c hk=>ha k (h.blk k c hk).1
 refine ⟨⟨fun g hg=>by rw [ha g (Nat.lt_of_lt_of_le hg h.ngn)];exact h.glob.out g hg⟩,h.ngn,?_,?_,?_,?_,h.al,h.big⟩
 ·intro i b hi
  obtain ⟨h1,h2,h3⟩:=h.blk i b hi
  exact ⟨h1,h2,h3.mono ha h1 (Nat.le_refl _) rfl⟩
 ·intro i b hi hr;rw [hk i b hi];exact h.own i b hi hr
 ·intro i b hi hr;rw [hk i b hi];exact h.ro i b hi hr
 ·intro i j bi bj hi hj hri hrj hij he
  rw [hk i bi hi,hk j bj hj] at he ⊢
  exact h.dis i j bi bj hi hj hri hrj hij he
theorem Goes.agrμ (h:Goes μ σ w μ' σ' w') (hr:∀ i b,σ'.heap.get i=some b→i < σ'.next) (ha:∀ x,x < σ'.next→μ2 x=μ' x):Goes μ σ w μ2 σ' w':=
 ⟨h.next,fun i hi=>by rw [ha i (Nat.lt_of_lt_of_le hi h.next)];exact h.agr i hi,h.os,h.tape,h.output,h.size,h.keep,fun i b hi hro=>by rw [ha i (hr i b hi)];exact h.fresh i b hi hro⟩
theorem Rep.live (h:Rep P ng ts N0 μ σ w) {k:Nat} {c:Blk} (hk:σ.heap.get k=some c):(μ k).blk < w.heap.size:=by
 cases hr:isRo c with
 | false=>exact (h.own k c hk hr).2
 | true=>exact Nat.lt_of_lt_of_le (h.ro k c hk hr) h.big.1
theorem Rep.grow (h:Rep P ng ts N0 μ σ w) {ob:Obj} (hheap:w'.heap=w.heap.push ob):Rep P ng ts N0 μ σ w':=by
 have hs:w.heap.size≤w'.heap.size:=by rw [hheap];simp
 refine ⟨h.glob,h.ngn,?_,?_,h.ro,h.dis,h.al,⟨Nat.le_trans h.big.1 hs,fun B hB=>by have:=h.big.1;rw [hheap,push_get w ob (by omega)];exact h.big.2 B hB⟩⟩
 ·intro i b hi
  obtain ⟨h1,h2,h3⟩:=h.blk i b hi
  exact ⟨h1,h2,h3.mono (fun _ _=>rfl) h1 (Nat.le_refl _) (by rw [hheap,push_get w ob (h.live hi)])⟩
 ·intro i b hi hr
  exact ⟨(h.own i b hi hr).1,Nat.lt_of_lt_of_le (h.own i b hi hr).2 hs⟩
theorem Goes.grow (h:Goes μ0 σ0 w0 μ σ w) {ob:Obj} (hos:w'.os=w.os) (htp:w'.tape=w.tape) (hout:w'.output=w.output) (hheap:w'.heap=w.heap.push ob):Goes μ0 σ0 w0 μ σ w':=
 ⟨h.next,h.agr,hos.trans h.os,htp.trans h.tape,hout.trans h.output,Nat.le_trans h.size (by rw [hheap];simp),fun B hB hn=>by rw [hheap,push_get w ob (Nat.lt_of_lt_of_le hB h.size)];exact h.keep B hB hn,h.fresh⟩
theorem add_get {b:Blk} (hm:σ.next < most σ.next) (k:Nat):(σ.add b).heap.get k=if k=σ.next then some b else σ.heap.get k:=
 Tr.get_set _ _ _ _ (by unfold most at hm;omega)
theorem Rep.adopt (h:Rep P ng ts N0 μ σ w) {b:Blk} (hm:σ.next < most σ.next) (hb:BRep P ng ts μ (σ.next + 1) σ.next w b) (hro:isRo b=false) (hal:∀ c,b = .cells c→c.al=[])
  (hlo:N0.n≤(μ σ.next).blk) (hhi:(μ σ.next).blk < w.heap.size) (hdis:∀ i c,σ.heap.get i=some c→(μ i).blk ≠ (μ σ.next).blk):Rep P ng ts N0 μ (σ.add b) w:=by
 have hlt:∀ k c,σ.heap.get k=some c→k < σ.next:=fun k c hk=>(h.blk k c hk).1
 refine ⟨h.glob,Nat.le_trans h.ngn (by simp [AW.add]),?_,?_,?_,?_,?_,h.big⟩
 ·intro k c hk
  rw [add_get hm] at hk
  split at hk
  ·rename_i he;simp at hk;subst hk;subst he;exact ⟨by simp [AW.add],hm,hb⟩
  ·obtain ⟨h1,h2,h3⟩:=h.blk k c hk
   exact ⟨by simp [AW.add];omega,h2,h3.mono (fun _ _=>rfl) h1 (by simp [AW.add]) rfl⟩
 ·intro k c hk hr
  rw [add_get hm] at hk
  split at hk
  ·rename_i he;subst he;exact ⟨hlo,hhi⟩
  ·exact h.own k c hk hr
 ·intro k c hk hr
  rw [add_get hm] at hk
  split at hk
  ·simp at hk;subst hk;rw [hro] at hr;simp at hr
  ·exact h.ro k c hk hr
 ·intro i j bi bj hi hj hri hrj hij he
  rw [add_get hm] at hi hj
  split at hi
  ·rename_i hii
   split at hj
   ·omega
   ·have:=hlt j bj hj;omega
  ·split at hj
   ·rename_i hjj;exact absurd (by rw [← hjj];exact he) (hdis i bi hi)
   ·exact h.dis i j bi bj hi hj hri hrj hij he
 ·intro j cj hj i hi
  rw [add_get hm] at hj
  split at hj
  ·simp at hj;rw [hal cj hj] at hi;simp at hi
  ·obtain ⟨h1,h2⟩:=h.al j cj hj i hi
   refine ⟨h1,fun bi hbi=>?_⟩
   have:=hlt j _ hj
   rw [add_get hm,if_neg (by omega)] at hbi
   exact h2 bi hbi
theorem Goes.adopt (h:Goes μ0 σ0 w0 μ σ w) {b:Blk} (hm:σ.next < most σ.next) (hlo:w0.heap.size≤(μ σ.next).blk):Goes μ0 σ0 w0 μ (σ.add b) w:=
 ⟨Nat.le_trans h.next (by simp [AW.add]),h.agr,h.os,h.tape,h.output,h.size,h.keep,fun k c hk hr=>by
  rw [add_get hm] at hk
  split at hk
  ·rename_i he;subst he;exact .inl hlo
  ·exact h.fresh k c hk hr⟩
theorem getV_of_concL {e e':List Value} (h:concL μ2 e=concL μ e') (t:Nat):conc μ2 (getV e t)=conc μ (getV e' t):=by
 rw [← getD_conc,← getD_conc,h]
theorem evc_of_concL {e e':List Value} (h:concL μ2 e=concL μ e'):evc μ2 e=evc μ e':=by
 funext x
 cases x with
 | tmp t=>exact getV_of_concL h t
 | _=>rfl
theorem concL_put {e e':List Value} {d:Option Nat} {x x':Value} (h:concL μ2 e=concL μ e') (hx:conc μ2 x=conc μ x'):concL μ2 (put e d x)=concL μ (put e' d x'):=by
 cases d with
 | none=>exact h
 | some d=>simp only [put,setV_eq,concL_eq,List.map_set] at *;rw [h,hx]
variable {ops:Array Oper} {l:List IOper} {bf:List Nat} {e0:List Value} {v:Nat→Value}
theorem sees_agree (hu:∀ t i j,dstOf l i=some t→dstOf l j=some t→i=j) (hs:vSees l bf 0 ops.toList l=true) {i:Nat} {o:Oper} {io:IOper} (ho:ops[i]? = some o) (hio:nthO l i=some io) {C S:List Nat}
  (hC:Clo bf C) (hCb:∀ j,(nthN bf i).testBit j=true→j∈C) (hCi:isR io.op=false→i∉C) (hS:Pos bf i S):∀ t∈seesT o io,getV (tm l v e0 S) t=getV (tm l v e0 C) t:=by
 intro t ht
 refine tm_agree (hu t) fun j hj=>?_
 have:=vSees_spec hs i o io (by simpa using ho) (by rw [← nthO_eq];exact hio) t ht j hj
 simp only [Nat.zero_add] at this
 rcases this with h1 | ⟨hr,h1 | h1⟩
 ·exact ⟨fun _=>hCb j h1,fun _=>hS.ahead j h1⟩
 ·subst h1;exact ⟨fun h=>absurd h hS.out,fun h=>absurd h (hCi hr)⟩
 ·exact ⟨fun h=>absurd (hS.clo j h i h1) hS.out,fun h=>absurd (hC j h i h1) (hCi hr)⟩
theorem wanted_agree {o:Oper} {io:IOper} {e e':List Value} (h:∀ t∈seesT o io,getV e t=getV e' t):io.wanted e=io.wanted e':=by
 unfold IOper.wanted
 cases hg:io.guard with
 | none=>rfl
 | some p=>
  obtain ⟨d,want⟩:=p
  simp only
  rw [h d (by simp [seesT,hg])]
theorem cOp_noselect {op:Op} {io:IOp} (h:cOp P ts op=some io):∀ cs b,op ≠ .select cs b:=by
 intro cs b hc;subst hc;simp [cOp] at h
theorem exec_agree {o:Oper} {io:IOper} {q:IOp} (hq:cOp P ts o.op=some q) {e e':List Value} (h:∀ t∈seesT o io,getV e t=getV e' t):execOp (evc μ e) o=execOp (evc μ e') o:=by
 refine execOp_congr o (cOp_noselect hq) fun x hx=>?_
 cases x with
 | tmp t=>
  simp only [evc]
  rw [h t (List.mem_append_right _ (List.mem_filterMap.2 ⟨.tmp t,by simpa using hx,rfl⟩))]
 | _=>rfl
end
end Go.Proofs.YtnpoloachkcadaaGreatDoor.Ai
namespace Go.Proofs.YtnpoloachkcadaaGreatDoor.Ai
open Go
set_option linter.unusedSimpArgs false
set_option linter.unusedSectionVars false
def Agr (μ2 μ:Nat→Loc) (n:Nat) (L:List NEnt) (S:List Nat):Prop:=(∀ x,x < n→μ2 x=μ x)∧∀ a∈L,a.1∈S→μ2 a.2.1=μ a.2.1
theorem Agr.refl (μ:Nat→Loc) (n:Nat) (L:List NEnt) (S:List Nat):Agr μ μ n L S:=⟨fun _ _=>rfl,fun _ _ _=>rfl⟩
structure Inv (P:Program) (ng:Nat) (ts:List TypeId) (N0:Bs) (K:Ks) (l:List IOper) (bf:List Nat) (e0:List Value) (fin:DStage) (v:Nat→Value) (t':List Value) (σ':AW) (L0:List NEnt) (μ0:Nat→Loc) (σ0:AW) (w0:World)
  (st:List DStage) (prev:Option Nat) (C:List Nat) (β:AW) (L:List NEnt) (S:List Nat) (μ:Nat→Loc) (w:World):Prop where
 ds:DS l bf e0 K fin v t' σ' st prev C β L
 rep:Rep P ng ts N0 μ β w
 goes:Goes μ0 σ0 w0 μ β w
 clo:Clo bf S
 eC:∀ i∈C,∀ io,nthO l i=some io→isE io.op=true→i∈S
 eS:∀ i∈S,∀ io,nthO l i=some io→isE io.op=true→i∈C
 pv:∀ p,prev=some p→p∈S
 rem:∀ a∈L0,a.1∉S→a∈L
 sub:∀ a∈L,a∈L0
 pend:∀ a∈L,a.1∈S→∀ μ2,Agr μ2 μ β.next L S→BRep P ng ts μ2 (a.2.1 + 1) a.2.1 w a.2.2
 pro:∀ a∈L,a.1∈S→isRo a.2.2=false∧∀ c,a.2.2 = .cells c→c.al=[]
 pblk:∀ a∈L,a.1∈S→w0.heap.size≤(μ a.2.1).blk∧(μ a.2.1).blk < w.heap.size
 pdis:∀ a∈L,a.1∈S→∀ i b,β.heap.get i=some b→(μ i).blk ≠ (μ a.2.1).blk
 pdis2:∀ a∈L,∀ b∈L,a.1∈S→b.1∈S→(μ a.2.1).blk=(μ b.2.1).blk→a=b
 vals:∀ μ2,Agr μ2 μ β.next L S→concL μ2 (tm l v e0 S)=concL μ (tm l v e0 S)
section
variable {P:Program} {ng:Nat} {ts:List TypeId} {N0:Bs} {K:Ks} {l:List IOper} {bf:List Nat} {e0:List Value} {fin:DStage} {v:Nat→Value} {t':List Value} {σ':AW} {L0:List NEnt} {μ0:Nat→Loc} {σ0:AW} {w0:World}
 {st:List DStage} {prev:Option Nat} {C:List Nat} {β:AW} {L:List NEnt} {S:List Nat} {μ:Nat→Loc} {w:World} {ops:Array Oper}
theorem dst_eq {i:Nat} {io:IOper} (h:nthO l i=some io):dstOf l i=io.dst:=by simp [dstOf,h]
theorem Inv.value (I:Inv P ng ts N0 K l bf e0 fin v t' σ' L0 μ0 σ0 w0 st prev C β L S μ w) {i:Nat} {io:IOper} (hp:Pos bf i S) (hio:nthO l i=some io) (hE:isE io.op=false) (hno:∀ a∈L0,a.1 ≠ i)
  {x:Value} (hx:∀ μ2,Agr μ2 μ β.next L S→conc μ2 x=conc μ x) (hput:put (tm l v e0 S) io.dst x=put (tm l v e0 S) io.dst (v i)) :
  Inv P ng ts N0 K l bf e0 fin v t' σ' L0 μ0 σ0 w0 st prev C β L (i::S) μ w:=by
 have hmem:∀ a∈L,a.1∈i::S→a.1∈S:=fun a ha h=>by
  rcases List.mem_cons.1 h with h | h
  ·exact absurd h (hno a (I.sub a ha))
  ·exact h
 have hagr:∀ μ2,Agr μ2 μ β.next L (i::S)→Agr μ2 μ β.next L S:=fun μ2 h=>⟨h.1,fun a ha hs=>h.2 a ha (List.mem_cons_of_mem _ hs)⟩
 refine ⟨I.ds,I.rep,I.goes,hp.next,fun j hj io' h1 h2=>List.mem_cons_of_mem _ (I.eC j hj io' h1 h2),?_,fun p h=>List.mem_cons_of_mem _ (I.pv p h),fun a ha hn=>I.rem a ha fun h=>hn (List.mem_cons_of_mem _ h),I.sub,
  fun a ha hs μ2 h2=>I.pend a ha (hmem a ha hs) μ2 (hagr μ2 h2),fun a ha hs=>I.pro a ha (hmem a ha hs),fun a ha hs=>I.pblk a ha (hmem a ha hs),fun a ha hs=>I.pdis a ha (hmem a ha hs),
  fun a ha b hb h1 h2=>I.pdis2 a ha b hb (hmem a ha h1) (hmem b hb h2),?_⟩
 ·intro j hj io' h1 h2
  rcases List.mem_cons.1 hj with rfl | hj
  ·rw [hio] at h1;simp at h1;subst h1;rw [hE] at h2;simp at h2
  ·exact I.eS j hj io' h1 h2
 ·intro μ2 h2
  rw [tm,dst_eq hio,← hput]
  exact concL_put (I.vals μ2 (hagr μ2 h2)) (hx μ2 (hagr μ2 h2))
def FS (b:Frame) (E:Fr) (l:List IOper) (v:Nat→Value) (e0:List Value) (ops:Array Oper) (k:List Item) (μ:Nat→Loc) (S:List Nat) (rest:List Nat):Frame:=fr b μ {E with tmps:=tm l v e0 S } (.inRegion ops rest::k)
theorem FS_finish {b:Frame} {E:Fr} {k:List Item} {rest:List Nat} {i:Nat} {io:IOper} {o:Oper} (hio:nthO l i=some io) (ho:ops[i]? = some o) (hd:io.dst=o.dst) {μ1:Nat→Loc} (hv:concL μ1 (tm l v e0 S)=concL μ (tm l v e0 S))
  (hdf:∀ d∈E.dfs,μ1 d=μ d) {x:Value} (hput:put (tm l v e0 S) io.dst x=put (tm l v e0 S) io.dst (v i)) :
  (FS b E l v e0 ops k μ S (i::rest)).finish (conc μ1 x)=FS b E l v e0 ops k μ1 (i::S) rest:=by
 have h1:FS b E l v e0 ops k μ S (i::rest)=FS b E l v e0 ops k μ1 S (i::rest):=by
  have:E.dfs.map (mark μ1)=E.dfs.map (mark μ):=List.map_congr_left fun d hd=>by simp [mark,hdf d hd]
  simp [FS,fr,hv,this]
 rw [h1]
 unfold FS
 rw [fr_finish,ho]
 simp only [Option.bind_some]
 rw [← hd,hput,tm,dst_eq hio]
theorem FS_ev {b:Frame} {E:Fr} {k:List Item} {rest:List Nat}:(FS b E l v e0 ops k μ S rest).eval=evc μ (tm l v e0 S):=fr_eval'
theorem FS_tmps {b:Frame} {E:Fr} {k:List Item} {rest:List Nat}:(FS b E l v e0 ops k μ S rest).tmps=⟨concL μ (tm l v e0 S)⟩:=rfl
structure Cx (P:Program) (ng:Nat) (ts:List TypeId) (ops:Array Oper) (l:List IOper) (bf:List Nat) (e0:List Value) (v:Nat→Value) (L0:List NEnt):Prop where
 hl:cOps P ng ts ops ops.toList=some l
 hu:∀ t i j,dstOf l i=some t→dstOf l j=some t→i=j
 hs:vSees l bf 0 ops.toList l=true
 of:∀ i,i < l.length→OF l bf e0 v L0 i
 nf:∀ a∈L0,NF l bf e0 v a
 uniq:∀ a∈L0,∀ b∈L0,a.1=b.1→a=b
 idu:∀ a∈L0,∀ b∈L0,a.2.1=b.2.1→a=b
theorem Cx.op (X:Cx P ng ts ops l bf e0 v L0) {i:Nat} {io:IOper} (hio:nthO l i=some io):∃ o,ops[i]? = some o∧cOper P ng ts ops o=some io∧io.dst=o.dst∧
  ((io.op = .bad)∨(okOp ng o.op=true∧cOp P ts o.op=some io.op)):=by
 obtain ⟨o,ho,hc⟩:=cOps_get X.hl i io hio
 exact ⟨o,by simpa using ho,hc,cOper_dst hc,cOper_op hc⟩
theorem Cx.agree (X:Cx P ng ts ops l bf e0 v L0) {i:Nat} {o:Oper} {io:IOper} (hio:nthO l i=some io) (ho:ops[i]? = some o) {C1:List Nat} (h1:Pos bf i C1) (h2:Pos bf i S) :
  ∀ t∈seesT o io,getV (tm l v e0 S) t=getV (tm l v e0 C1) t:=sees_agree X.hu X.hs ho hio h1.clo h1.ahead (fun _=>h1.out) h2
theorem Cx.nokey (X:Cx P ng ts ops l bf e0 v L0) {i:Nat} {io:IOper} (hio:nthO l i=some io) (h:(∀ q,io.op ≠ .n q)∨∃ C1,Pos bf i C1∧io.wanted (tm l v e0 C1)=false):∀ a∈L0,a.1 ≠ i:=by
 intro a ha he
 obtain ⟨C2,io2,q,f,h1,h2,h3,h4,_⟩:=X.nf a ha
 rw [he,hio] at h1;simp at h1;subst h1
 rcases h with h | ⟨C1,h5,h6⟩
 ·exact h q h3
 ·obtain ⟨o,ho,_⟩:=X.op hio
  rw [he] at h2
  rw [wanted_agree (X.agree hio ho h2 h5),h4] at h6
  simp at h6
theorem Inv.plain (X:Cx P ng ts ops l bf e0 v L0) (I:Inv P ng ts N0 K l bf e0 fin v t' σ' L0 μ0 σ0 w0 st prev C β L S μ w) {i:Nat} {io:IOper} (hp:Pos bf i S) (hio:nthO l i=some io) (hE:isE io.op=false)
  (hN:∀ q,io.op ≠ .n q) {b:Frame} {E:Fr} {k:List Item} {rest:List Nat} {cs:List Frame} (hw:io.wanted (tm l v e0 S)=true)
  {e:List Value} {x:Value} (hsee:∀ o,ops[i]? = some o→∀ t∈seesT o io,getV (tm l v e0 S) t=getV e t)
  (hrun:∀ o μ2,cOp P ts o.op=some io.op→okOp ng o.op=true→ops[i]? = some o→Agr μ2 μ β.next L S→(execOp (evc μ2 e) o).run P w = .ok (.value (conc μ2 x)) w)
  (hput:put (tm l v e0 S) io.dst x=put (tm l v e0 S) io.dst (v i)) (hbad:io.op ≠ .bad) :
  Inv P ng ts N0 K l bf e0 fin v t' σ' L0 μ0 σ0 w0 st prev C β L (i::S) μ w∧
   Steps P (lone (FS b E l v e0 ops k μ S (i::rest)) cs w) (lone (FS b E l v e0 ops k μ (i::S) rest) cs w):=by
 obtain ⟨o,ho,hc,hd,hop⟩:=X.op hio
 rcases hop with hop | ⟨hok,hcop⟩
 ·exact absurd hop hbad
 have hev:∀ μ2,Agr μ2 μ β.next L S→execOp (evc μ2 e) o=execOp (evc μ (tm l v e0 S)) o:=fun μ2 h2=>by
  rw [← exec_agree hcop (hsee o ho),evc_of_concL (I.vals μ2 h2)]
 have h0:=hrun o μ hcop hok ho (Agr.refl _ _ _ _)
 have hx:∀ μ2,Agr μ2 μ β.next L S→conc μ2 x=conc μ x:=fun μ2 h2=>by
  have h1:=hrun o μ2 hcop hok ho h2
  rw [hev μ2 h2,← hev μ (Agr.refl _ _ _ _),h0] at h1
  simp at h1;exact h1.symm
 refine ⟨I.value hp hio hE (X.nokey hio (.inl hN)) hx hput,.one ?_⟩
 rw [← FS_finish hio ho hd (μ1:=μ) rfl (fun _ _=>rfl) hput]
 refine stX_value rfl rfl ho ?_ (cOp_nodefer hcop) ?_
 ·rw [FS_tmps,wanted_eq hc];exact hw
 ·rw [FS_ev,← hev μ (Agr.refl _ _ _ _)];exact h0
theorem Inv.unwanted (X:Cx P ng ts ops l bf e0 v L0) (I:Inv P ng ts N0 K l bf e0 fin v t' σ' L0 μ0 σ0 w0 st prev C β L S μ w) {i:Nat} {io:IOper} (hp:Pos bf i S) (hio:nthO l i=some io) (hE:isE io.op=false)
  {b:Frame} {E:Fr} {k:List Item} {rest:List Nat} {cs:List Frame} (hw:io.wanted (tm l v e0 S)=false) (hv:v i=undef) :
  Inv P ng ts N0 K l bf e0 fin v t' σ' L0 μ0 σ0 w0 st prev C β L (i::S) μ w∧
   Steps P (lone (FS b E l v e0 ops k μ S (i::rest)) cs w) (lone (FS b E l v e0 ops k μ (i::S) rest) cs w):=by
 obtain ⟨o,ho,hc,hd,hop⟩:=X.op hio
 refine ⟨I.value hp hio hE (X.nokey hio (.inr ⟨S,hp,hw⟩)) (x:=undef) (fun μ2 _=>by rw [conc_undef,conc_undef]) (by rw [hv]),.one ?_⟩
 rw [← FS_finish hio ho hd (μ1:=μ) rfl (fun _ _=>rfl) (x:=undef) (by rw [hv]),conc_undef]
 exact stX_unwanted rfl rfl ho (by rw [FS_tmps,wanted_eq hc];exact hw)
theorem Inv.block (X:Cx P ng ts ops l bf e0 v L0) (I:Inv P ng ts N0 K l bf e0 fin v t' σ' L0 μ0 σ0 w0 st prev C β L S μ w) {i:Nat} {io:IOper} {q:NOp} (hp:Pos bf i S) (hio:nthO l i=some io) (hq:io.op = .n q)
  {b:Frame} {E:Fr} {k:List Item} {rest:List Nat} {cs:List Frame} (hE:∀ d∈E.dfs,d < β.next) {id:Nat} {bk:Blk} (hm:(i,id,bk)∈L0) :
  ∃ μ1 w1,Inv P ng ts N0 K l bf e0 fin v t' σ' L0 μ0 σ0 w0 st prev C β L (i::S) μ1 w1∧
   Steps P (lone (FS b E l v e0 ops k μ S (i::rest)) cs w) (lone (FS b E l v e0 ops k μ1 (i::S) rest) cs w1):=by
 obtain ⟨C1,io1,q1,f,h1,hp1,h3,h4,h5,h6,h7⟩:=X.nf _ hm
 simp only at h1 hp1 h3 h4 h5 h6 h7
 rw [hio] at h1;simp at h1;subst h1
 obtain ⟨o,ho,hc,hd,hop⟩:=X.op hio
 have hL:(i,id,bk)∈L:=I.rem _ hm hp.out
 have D:=I.ds.facts
 have hid:β.next≤id:=D.ids _ hL
 rcases hop with hop | ⟨hok,hcop⟩
 ·rw [hq] at hop;simp at hop
 rw [h3] at hcop
 have hng:ng≤id:=Nat.le_trans I.rep.ngn hid
 have hag:=X.agree hio ho hp1 hp
 have hev:∀ μ2,Agr μ2 μ β.next L S→execOp (evc μ2 (tm l v e0 C1)) o=execOp (evc μ (tm l v e0 S)) o:=fun μ2 h2=>by
  rw [← exec_agree hcop hag,evc_of_concL (I.vals μ2 h2)]
 obtain ⟨ob,hrun,hro,hal,hb,hlt⟩:=evN_sound I.rep.glob hng h7 hcop hok h5 w
 refine ⟨upd μ id ⟨w.heap.size,0,0⟩,{w with heap:=w.heap.push ob },?_,?_⟩
 ·
  have hne:∀ a∈L,a.1∈S→a.2.1 ≠ id:=fun a ha hs he=>by
   have:=D.idu a ha _ hL he
   rw [this] at hs;exact hp.out hs
  have hlow:∀ x,x < β.next→upd μ id ⟨w.heap.size,0,0⟩ x=μ x:=fun x hx=>upd_ne _ _ (by omega)
  have hold:Agr (upd μ id ⟨w.heap.size,0,0⟩) μ β.next L S:=⟨hlow,fun a ha hs=>upd_ne _ _ (hne a ha hs)⟩
  have hagr:∀ μ2,Agr μ2 (upd μ id ⟨w.heap.size,0,0⟩) β.next L (i::S)→Agr μ2 μ β.next L S∧μ2 id=⟨w.heap.size,0,0⟩:=fun μ2 h2=>
   ⟨⟨fun x hx=>(h2.1 x hx).trans (hlow x hx),fun a ha hs=>(h2.2 a ha (List.mem_cons_of_mem _ hs)).trans (hold.2 a ha hs)⟩,by
    have:=h2.2 _ hL (by simp);simpa [upd_same] using this⟩
  have hupd:∀ μ2:Nat→Loc,μ2 id=⟨w.heap.size,0,0⟩→upd μ2 id ⟨w.heap.size,0,0⟩=μ2:=fun μ2 h=>by
   funext x;unfold upd;split
   ·rename_i hx;rw [hx,h]
   ·rfl
  have hat:∀ μ2,Agr μ2 (upd μ id ⟨w.heap.size,0,0⟩) β.next L (i::S)→conc μ2 (f id)=conc (upd μ id ⟨w.heap.size,0,0⟩) (f id)∧BRep P ng ts μ2 (id + 1) id {w with heap:=w.heap.push ob } bk:=fun μ2 h2=>by
   obtain ⟨ha,hi⟩:=hagr μ2 h2
   have hg2:Glob ng μ2:=⟨fun g hg=>by rw [ha.1 g (Nat.lt_of_lt_of_le hg I.rep.ngn)];exact I.rep.glob.out g hg⟩
   obtain ⟨ob2,hrun2,_,_,hb2,_⟩:=evN_sound hg2 hng h7 hcop hok h5 w
   rw [hev μ2 ha,← hev μ (Agr.refl _ _ _ _),hrun,hupd μ2 hi] at hrun2
   rw [hupd μ2 hi] at hb2
   simp only [Result.ok.injEq,Next.value.injEq] at hrun2
   obtain ⟨e1,e2⟩:=hrun2
   rw [← e2] at hb2
   exact ⟨e1.symm,hb2⟩
  have hmem:∀ a∈L,a.1∈i::S→a=(i,id,bk)∨a.1∈S:=fun a ha h=>by
   rcases List.mem_cons.1 h with h | h
   ·exact .inl (D.uniq a ha _ hL h)
   ·exact .inr h
  have hsz:∀ a∈L,a.1∈S→(upd μ id ⟨w.heap.size,0,0⟩ a.2.1)=μ a.2.1:=hold.2
  refine ⟨I.ds,(I.rep.agrμ hlow).grow rfl,(I.goes.agrμ (fun i b hi=>(I.rep.blk i b hi).1) hlow).grow rfl rfl rfl rfl,hp.next,fun j hj io' g1 g2=>List.mem_cons_of_mem _ (I.eC j hj io' g1 g2),?_,fun p h=>List.mem_cons_of_mem _ (I.pv p h),
   fun a ha hn=>I.rem a ha fun h=>hn (List.mem_cons_of_mem _ h),I.sub,?_,?_,?_,?_,?_,?_⟩
  ·intro j hj io' g1 g2
   rcases List.mem_cons.1 hj with rfl | hj
   ·rw [hio] at g1;simp at g1;subst g1;rw [h3] at g2;simp [isE] at g2
   ·exact I.eS j hj io' g1 g2
  ·intro a ha hs μ2 h2
   rcases hmem a ha hs with rfl | hs
   ·exact (hat μ2 h2).2
   ·have ha2:=(hagr μ2 h2).1
    refine (I.pend a ha hs μ2 ha2).mono (fun _ _=>rfl) (by omega) (Nat.le_refl _) ?_
    rw [ha2.2 a ha hs]
    exact push_get w ob (I.pblk a ha hs).2
  ·intro a ha hs
   rcases hmem a ha hs with rfl | hs
   ·exact ⟨hro,hal⟩
   ·exact I.pro a ha hs
  ·intro a ha hs
   rcases hmem a ha hs with rfl | hs
   ·simp only [upd_same];exact ⟨I.goes.size,by simp⟩
   ·rw [hsz a ha hs];have:=I.pblk a ha hs;simp;omega
  ·intro a ha hs j c hj
   rw [hlow j (I.rep.blk j c hj).1]
   rcases hmem a ha hs with rfl | hs
   ·have:=I.rep.live hj;simp only [upd_same];omega
   ·rw [hsz a ha hs];exact I.pdis a ha hs j c hj
  ·intro a ha c hc' g1 g2 he
   rcases hmem a ha g1 with rfl | g1 <;> rcases hmem c hc' g2 with rfl | g2
   ·rfl
   ·rw [hsz c hc' g2] at he;simp only [upd_same] at he;have:=(I.pblk c hc' g2).2;omega
   ·rw [hsz a ha g1] at he;simp only [upd_same] at he;have:=(I.pblk a ha g1).2;omega
   ·rw [hsz a ha g1,hsz c hc' g2] at he;exact I.pdis2 a ha c hc' g1 g2 he
  ·intro μ2 h2
   rw [tm,dst_eq hio]
   refine concL_put ((I.vals μ2 (hagr μ2 h2).1).trans (I.vals _ hold).symm) ?_
   rw [h6];exact (hat μ2 h2).1
 ·have hlow:∀ x,x < β.next→upd μ id ⟨w.heap.size,0,0⟩ x=μ x:=fun x hx=>upd_ne _ _ (by omega)
  have hold:Agr (upd μ id ⟨w.heap.size,0,0⟩) μ β.next L S:=⟨hlow,fun a ha hs=>upd_ne _ _ fun he=>by
   have:=D.idu a ha _ hL he
   rw [this] at hs;exact hp.out hs⟩
  refine .one ?_
  rw [← FS_finish hio ho hd (μ1:=upd μ id ⟨w.heap.size,0,0⟩) (I.vals _ hold) (fun d hd=>hlow d (hE d hd)) rfl,h6]
  refine stX_value rfl rfl ho ?_ (cOp_nodefer hcop) ?_
  ·rw [FS_tmps,wanted_eq hc,wanted_agree hag];exact h4
  ·rw [FS_ev,← hev μ (Agr.refl _ _ _ _)];exact hrun
end
end Go.Proofs.YtnpoloachkcadaaGreatDoor.Ai
namespace Go.Proofs.YtnpoloachkcadaaGreatDoor.Ai
open Go
set_option linter.unusedSimpArgs false
set_option linter.unusedSectionVars false
section
variable {P:Program} {ng:Nat} {ts:List TypeId} {N0:Bs} {K:Ks} {l:List IOper} {bf:List Nat} {e0:List Value} {fin:DStage} {v:Nat→Value} {t':List Value} {σ':AW} {L0:List NEnt} {μ0:Nat→Loc} {σ0:AW} {w0:World}
 {st:List DStage} {prev:Option Nat} {C:List Nat} {β:AW} {L:List NEnt} {S:List Nat} {μ:Nat→Loc} {w:World} {ops:Array Oper}
theorem adopt_all:∀ {A:List NEnt} {σ γ:AW},Chain σ A γ→Rep P ng ts N0 μ σ w→Goes μ0 σ0 w0 μ σ w→N0.n≤w0.heap.size→
  (∀ a∈A,BRep P ng ts μ (a.2.1 + 1) a.2.1 w a.2.2∧(isRo a.2.2=false∧∀ c,a.2.2 = .cells c→c.al=[])∧w0.heap.size≤(μ a.2.1).blk∧(μ a.2.1).blk < w.heap.size)→
  (∀ a∈A,∀ i c,σ.heap.get i=some c→(μ i).blk ≠ (μ a.2.1).blk)→(∀ a∈A,∀ b∈A,(μ a.2.1).blk=(μ b.2.1).blk→a=b)→
  Rep P ng ts N0 μ γ w∧Goes μ0 σ0 w0 μ γ w∧∀ i c,γ.heap.get i=some c→σ.heap.get i=some c∨∃ a∈A,a.2.1=i
 | [],σ,γ,h,hr,hg,_,_,_,_=>by simp only [Chain] at h;subst h;exact ⟨hr,hg,fun i c hi=>.inl hi⟩
 | a::A,σ,γ,h,hr,hg,hN,hp,hd,hd2=>by
  have hidu:=h.idu
  obtain ⟨h1,h2,h3⟩:=h
  obtain ⟨p1,p2,p3,p4⟩:=hp a (by simp)
  have hd0:=hd a (by simp)
  rw [h1] at p1 p3 p4 hd0
  have r1:=hr.adopt h2 p1 p2.1 p2.2 (by omega) p4 hd0
  have g1:=hg.adopt h2 (b:=a.2.2) p3
  obtain ⟨q1,q2,q3⟩:=adopt_all h3 r1 g1 hN (fun c hc=>hp c (by simp [hc])) (by
   intro c hc i b hi
   rw [add_get h2] at hi
   split at hi
   ·rename_i hi2
    intro he
    have:=hd2 a (by simp) c (by simp [hc]) (by rw [h1,← hi2];exact he)
    have h5:=h3.idu.1 c hc
    rw [← this,h1] at h5
    simp [AW.add] at h5
    omega
   ·exact hd c (by simp [hc]) i b hi) (fun c hc d hd=>hd2 c (by simp [hc]) d (by simp [hd]))
  refine ⟨q1,q2,fun i c hi=>?_⟩
  rcases q3 i c hi with h4 | ⟨b,hb,h4⟩
  ·rw [add_get h2] at h4
   split at h4
   ·rename_i h5;exact .inr ⟨a,by simp,by rw [h1,h5]⟩
   ·exact .inl h4
  ·exact .inr ⟨b,by simp [hb],h4⟩
theorem Inv.adopted {A L':List NEnt} {γ:AW} (I:Inv P ng ts N0 K l bf e0 fin v t' σ' L0 μ0 σ0 w0 st prev C β (A++L') S μ w) (hN:N0.n≤w0.heap.size) (hc:Chain β A γ) (hS:∀ a∈A,a.1∈S) :
  Rep P ng ts N0 μ γ w∧Goes μ0 σ0 w0 μ γ w∧∀ i c,γ.heap.get i=some c→β.heap.get i=some c∨∃ a∈A,a.2.1=i:=
 adopt_all hc I.rep I.goes hN (fun a ha=>⟨I.pend a (List.mem_append_left _ ha) (hS a ha) μ (Agr.refl _ _ _ _),I.pro a (List.mem_append_left _ ha) (hS a ha),I.pblk a (List.mem_append_left _ ha) (hS a ha)⟩)
  (fun a ha=>I.pdis a (List.mem_append_left _ ha) (hS a ha)) (fun a ha b hb=>I.pdis2 a (List.mem_append_left _ ha) b (List.mem_append_left _ hb) (hS a ha) (hS b hb))
theorem Inv.change (X:Cx P ng ts ops l bf e0 v L0) (hK:KSound P ng ts N0 K) {s:DStage} (I:Inv P ng ts N0 K l bf e0 fin v t' σ' L0 μ0 σ0 w0 (s::st) prev C β L S μ w) (hN:N0.n≤w0.heap.size) (hp:Pos bf s.e S)
  {b:Frame} {E:Fr} {k:List Item} {rest:List Nat} {cs:List Frame} (hE:∀ d∈E.dfs,d < β.next) :
  ∃ prev' C' β' L' μ1 w1,Inv P ng ts N0 K l bf e0 fin v t' σ' L0 μ0 σ0 w0 st prev' C' β' L' (s.e::S) μ1 w1∧
   Steps P (lone (FS b E l v e0 ops k μ S (s.e::rest)) cs w) (lone (FS b E l v e0 ops k μ1 (s.e::S) rest) cs w1):=by
 obtain ⟨hck,γ,β',A,L',io,rfl,hx,hio,hisE,hlt,hpos,hpv,hrun,hnx,hds⟩:=I.ds
 have f:=hx.facts
 have g:=hds.facts
 have hS:∀ a∈A,a.1∈S:=fun a ha=>hp.ahead _ (f.np a ha s.e rfl)
 obtain ⟨hr,hg,hlive⟩:=I.adopted hN f.chain hS
 obtain ⟨o,ho,hc,hd,hop⟩:=X.op hio
 have hag:=X.agree hio ho hpos hp
 have after:∀ (μ1:Nat→Loc) (w1:World),Rep P ng ts N0 μ1 β' w1→Goes μ γ w μ1 β' w1→lt β'.next (v s.e)=true→
   ∃ μ',(∀ x,x < β.next→μ' x=μ x)∧concL μ' (tm l v e0 S)=concL μ (tm l v e0 S)∧conc μ' (v s.e)=conc μ1 (v s.e)∧
    Inv P ng ts N0 K l bf e0 fin v t' σ' L0 μ0 σ0 w0 st (some s.e) (s.e::(s.xs.reverse++C)) β' L' (s.e::S) μ' w1:=by
  intro μ1 w1 r1 g1 hvl
  have hlow:∀ x,x < β'.next→(fun x=>if x < β'.next then μ1 x else μ x) x=μ1 x:=fun x hx=>by simp [hx]
  have hhigh:∀ x,β'.next≤x→(fun x=>if x < β'.next then μ1 x else μ x) x=μ x:=fun x hx=>by simp [Nat.not_lt.2 hx]
  generalize hμ':(fun x=>if x < β'.next then μ1 x else μ x)=μ' at hlow hhigh
  have hb:∀ x,x < γ.next→μ' x=μ x:=fun x hx=>by rw [hlow x (by omega)];exact g1.agr x hx
  have hold:Agr μ' μ β.next (A++L') S:=⟨fun x hx=>hb x (by have:=f.nxt;omega),fun a ha hs=>by
   rcases List.mem_append.1 ha with ha | ha
   ·exact hb _ (f.ids a ha).2
   ·exact hhigh _ (g.ids a ha)⟩
  have hagr:∀ μ2,Agr μ2 μ' β'.next L' (s.e::S)→Agr μ2 μ β.next (A++L') S:=fun μ2 h2=>⟨fun x hx=>(h2.1 x (by have:=f.nxt;omega)).trans (hold.1 x hx),fun a ha hs=>by
   refine Eq.trans ?_ (hold.2 a ha hs)
   rcases List.mem_append.1 ha with ha | ha
   ·exact h2.1 _ (by have:=(f.ids a ha).2;omega)
   ·exact h2.2 a ha (List.mem_cons_of_mem _ hs)⟩
  have hmem:∀ a∈L',a.1∈s.e::S→a.1∈S:=fun a ha h=>by
   rcases List.mem_cons.1 h with h | h
   ·exact absurd (by rw [h];simp) (g.key a ha)
   ·exact h
  have hloc:∀ a∈L',a.1∈S→μ' a.2.1=μ a.2.1:=fun a ha hs=>hold.2 a (List.mem_append_right _ ha) hs
  have hdisγ:∀ a∈L',a.1∈S→∀ i c,γ.heap.get i=some c→(μ i).blk ≠ (μ a.2.1).blk:=by
   intro a ha hs i c hi
   rcases hlive i c hi with h1 | ⟨d,hd,rfl⟩
   ·exact I.pdis a (List.mem_append_right _ ha) hs i c h1
   ·intro he
    have:=I.pdis2 d (List.mem_append_left _ hd) a (List.mem_append_right _ ha) (hS d hd) hs he
    have h2:=(f.ids d hd).2
    have h3:=g.ids a ha
    rw [this] at h2;omega
  refine ⟨μ',hold.1,I.vals _ hold,conc_congr (fun i hi=>hlow i hi) _ hvl,hds,r1.agrμ hlow,(hg.trans g1).agrμ (fun i b hi=>(r1.blk i b hi).1) hlow,hp.next,?_,?_,?_,?_,?_,?_,?_,?_,?_,?_,?_⟩
  ·intro i hi io' h1 h2
   rcases List.mem_cons.1 hi with rfl | hi
   ·simp
   ·rcases List.mem_append.1 hi with hi | hi
    ·have:=f.ne i (by simpa using hi) io' h1;rw [this] at h2;simp at h2
    ·exact List.mem_cons_of_mem _ (I.eC i hi io' h1 h2)
  ·intro i hi io' h1 h2
   rcases List.mem_cons.1 hi with rfl | hi
   ·simp
   ·exact List.mem_cons_of_mem _ (List.mem_append_right _ (I.eS i hi io' h1 h2))
  ·intro p hp';simp at hp';subst hp';simp
  ·intro a ha hn
   have h1:=I.rem a ha fun h=>hn (List.mem_cons_of_mem _ h)
   rcases List.mem_append.1 h1 with h1 | h1
   ·exact absurd (List.mem_cons_of_mem _ (hS a h1)) hn
   ·exact h1
  ·intro a ha;exact I.sub a (List.mem_append_right _ ha)
  ·intro a ha hs μ2 h2
   have hs:=hmem a ha hs
   have h3:=hagr μ2 h2
   refine (I.pend a (List.mem_append_right _ ha) hs μ2 h3).mono (fun _ _=>rfl) (by omega) (Nat.le_refl _) ?_
   rw [h3.2 a (List.mem_append_right _ ha) hs]
   exact g1.keep _ (I.pblk a (List.mem_append_right _ ha) hs).2 fun i c hi _=>hdisγ a ha hs i c hi
  ·intro a ha hs;exact I.pro a (List.mem_append_right _ ha) (hmem a ha hs)
  ·intro a ha hs
   have:=I.pblk a (List.mem_append_right _ ha) (hmem a ha hs)
   rw [hloc a ha (hmem a ha hs)]
   have:=g1.size;omega
  ·intro a ha hs i c hi
   have hs:=hmem a ha hs
   rw [hloc a ha hs,hlow i (r1.blk i c hi).1]
   have hb1:=I.pblk a (List.mem_append_right _ ha) hs
   cases hro:isRo c with
   | true=>have:=r1.ro i c hi hro;omega
   | false=>
    rcases g1.fresh i c hi hro with h1 | ⟨j,c',h1,h2,h3⟩
    ·omega
    ·rw [← h3];exact hdisγ a ha hs j c' h1
  ·intro a ha c hc' h1 h2 he
   have h1:=hmem a ha h1
   have h2:=hmem c hc' h2
   rw [hloc a ha h1,hloc c hc' h2] at he
   exact I.pdis2 a (List.mem_append_right _ ha) c (List.mem_append_right _ hc') h1 h2 he
  ·intro μ2 h2
   rw [tm]
   exact concL_put ((I.vals μ2 (hagr μ2 h2)).trans (I.vals _ hold).symm) (conc_congr (fun i hi=>h2.1 i hi) _ hvl)
 rcases hrun with ⟨hw,hv,rfl⟩ | ⟨hw,q,hq,hv⟩
 ·obtain ⟨μ',h1,h2,h3,h4⟩:=after μ w hr (Goes.refl _ _ _) (by rw [hv];exact lt_undef _)
  refine ⟨_,_,_,_,μ',w,h4,.one ?_⟩
  rw [← FS_finish hio ho hd (μ1:=μ') h2 (fun d hd=>h1 d (hE d hd)) rfl,hv,conc_undef]
  exact stX_unwanted rfl rfl ho (by rw [FS_tmps,wanted_eq hc,wanted_agree hag];exact hw)
 ·rcases hop with hop | ⟨hok,hcop⟩
  ·rw [hq] at hop;simp at hop
  rw [hq] at hcop
  obtain ⟨μ1,w1,r1,g1,hvl,hst⟩:=execE_sound hK hr hlt (rest:=rest) (k:=k) ho hcop hok hv (F:=FS b E l v e0 ops k μ S (s.e::rest)) (cs:=cs) rfl rfl
   (by rw [FS_tmps,wanted_eq hc,wanted_agree hag];exact hw) (by rw [FS_ev];exact exec_agree hcop hag)
  obtain ⟨μ',h1,h2,h3,h4⟩:=after μ1 w1 r1 g1 hvl
  refine ⟨_,_,_,_,μ',w1,h4,?_⟩
  rw [← FS_finish hio ho hd (μ1:=μ') h2 (fun d hd=>h1 d (hE d hd)) rfl,h3]
  exact hst
theorem beq0_eq {a b:Value} (h:beq0 a b=true):a=b:=by
 unfold beq0 at h
 split at h
 all_goals first | (simp at h;done) | skip
 ·simpa using h
 ·simp at h;rw [h.1,h.2]
 ·rename_i a b
  simp at h
  rw [show a=b from by cases a;cases b;simp at h ⊢;exact h]
 ·rfl
 ·simpa using h
 ·simp at h;rw [h.1,h.2]
 ·simp at h;rw [h.1.1,h.1.2,h.2]
 ·simpa using h
 ·rfl
 ·rfl
theorem beq0s_eq:∀ {a b:List Value},beq0s a b=true→a=b
 | [],[],_=>rfl
 | [],_::_,h=>by simp [beq0s] at h
 | _::_,[],h=>by simp [beq0s] at h
 | x::a,y::b,h=>by
  simp only [beq0s,Bool.and_eq_true] at h
  rw [beq0_eq h.1,beq0s_eq h.2]
theorem beq1_eq {a b:Value} (h:beq1 a b=true):a=b:=by
 unfold beq1 at h
 split at h
 ·simp only [Bool.and_eq_true,beq_iff_eq] at h
  rw [h.1.1,beq0s_eq h.1.2,beq0s_eq h.2]
 ·simp only [Bool.and_eq_true,beq_iff_eq] at h
  rw [h.1,beq0_eq h.2]
 ·exact beq0_eq h
theorem beqs_eq:∀ {a b:List Value},beqs a b=true→a=b
 | [],[],_=>rfl
 | [],_::_,h=>by simp [beqs] at h
 | _::_,[],h=>by simp [beqs] at h
 | x::a,y::b,h=>by
  simp only [beqs,Bool.and_eq_true] at h
  rw [beq1_eq h.1,beqs_eq h.2]
theorem beqV_eq {a b:Value} (h:beqV a b=true):a=b:=by
 unfold beqV at h
 split at h
 ·rw [beqs_eq h]
 ·rw [beqs_eq h]
 ·exact beq1_eq h
theorem chkR_spec {e:List Value}:∀ {chk:List Nat},chkR l e β chk=true→∀ i∈chk,∀ io,nthO l i=some io→io.wanted e=true→∃ q d x,io.op = .r q∧io.dst=some d∧evR e β q=some x∧x=getV e d
 | [],_,i,hi,_,_,_=>by simp at hi
 | j::chk,h,i,hi,io,hio,hw=>by
  simp only [chkR,Bool.and_eq_true] at h
  rcases List.mem_cons.1 hi with rfl | hi
  ·have h1:=h.1
   rw [hio] at h1
   simp only [hw,if_true] at h1
   split at h1
   ·rename_i q d hq hd
    split at h1
    ·rename_i x hx
     exact ⟨q,d,x,hq,hd,hx,beqV_eq h1⟩
    ·simp at h1
   ·simp at h1
  ·exact chkR_spec h.2 i hi io hio hw
theorem Inv.read (X:Cx P ng ts ops l bf e0 v L0) (I:Inv P ng ts N0 K l bf e0 fin v t' σ' L0 μ0 σ0 w0 st prev C β L S μ w) {i:Nat} {io:IOper} {q:ROp} (hp:Pos bf i S) (hio:nthO l i=some io) (hq:io.op = .r q) (hw:io.wanted (tm l v e0 S)=true) :
  ∃ e n x,(∀ o,ops[i]? = some o→∀ t∈seesT o io,getV (tm l v e0 S) t=getV e t)∧β.next≤n∧ltL n e=true∧evR e β q=some x∧put (tm l v e0 S) io.dst x=put (tm l v e0 S) io.dst (v i):=by
 have D:=I.ds.facts
 have hR:isR io.op=true:=by rw [hq];rfl
 have hilt:i < l.length:=by rw [nthO_eq] at hio;exact (List.getElem?_eq_some_iff.1 hio).1
 have rd:∀ {xs C2:List Nat} {A:List NEnt} {nx:Option Nat} {γ:AW},XS l bf e0 v β prev nx xs C2 β A γ→i∈xs→
   ∃ e n x,(∀ o,ops[i]? = some o→∀ t∈seesT o io,getV (tm l v e0 S) t=getV e t)∧β.next≤n∧ltL n e=true∧evR e β q=some x∧put (tm l v e0 S) io.dst x=put (tm l v e0 S) io.dst (v i):=by
  intro xs C2 A nx γ hx hi
  obtain ⟨C',n,h1,h2,h3,h4⟩:=hx.facts.rd i hi io hio hR
  obtain ⟨o,ho,_⟩:=X.op hio
  have hag:=X.agree hio ho h1 hp
  obtain ⟨q',hq',hev⟩:=h4 (by rw [← wanted_agree hag];exact hw)
  rw [hq] at hq';simp at hq';subst hq'
  exact ⟨_,n,_,fun o' ho'=>by rw [ho] at ho';simp at ho';subst ho';exact hag,h2,h3,hev,rfl⟩
 have ck:∀ {chk:List Nat},CK l bf e0 v β prev chk C→i∈C→
   ∃ e n x,(∀ o,ops[i]? = some o→∀ t∈seesT o io,getV (tm l v e0 S) t=getV e t)∧β.next≤n∧ltL n e=true∧evR e β q=some x∧put (tm l v e0 S) io.dst x=put (tm l v e0 S) io.dst (v i):=by
  intro chk hck hi
  rcases hck.all i io hio hi hR with h1 | ⟨p,h1,h2⟩
  ·obtain ⟨o,ho,_⟩:=X.op hio
   have hag:=sees_agree (v:=v) (e0:=e0) X.hu X.hs ho hio hck.clo (fun j hj=>hck.clo i hi j hj) (fun h=>by rw [hR] at h;simp at h) hp
   obtain ⟨q',d,x,hq',hd,hev,hx⟩:=chkR_spec hck.run i h1 io hio (by rw [← wanted_agree hag];exact hw)
   rw [hq] at hq';simp at hq';subst hq'
   refine ⟨_,β.next,x,fun o' ho'=>by rw [ho] at ho';simp at ho';subst ho';exact hag,Nat.le_refl _,hck.lt,hev,?_⟩
   have hdd:dstOf l i=some d:=by rw [dst_eq hio,hd]
   rw [tm_some hdd (fun j hj=>X.hu d j i hj hdd) hi] at hx
   rw [hd]
   simp only [put,setV_eq]
   by_cases hlt:d < e0.length
   ·rw [hx,if_pos hlt]
   ·rw [List.set_eq_of_length_le (by rw [tm_length];omega),List.set_eq_of_length_le (by rw [tm_length];omega)]
  ·exact absurd (I.clo p (I.pv p h1) i h2) hp.out
 rcases D.all i hilt with hi | hi
 ·cases st with
  | nil=>exact ck I.ds.1 hi
  | cons s st=>exact ck I.ds.1 hi
 ·cases st with
  | nil=>exact rd I.ds.2.1 hi
  | cons s st=>
   obtain ⟨hck,γ,β',A,L',io',rfl,hx,hio',hisE,hlt,hpos,hpv,hrun,hnx,hds⟩:=I.ds
   rcases List.mem_append.1 hi with hi | hi
   ·exact rd hx hi
   ·rcases List.mem_cons.1 hi with rfl | hi
    ·rw [hio] at hio';simp at hio';subst hio';rw [hq] at hisE;simp [isE] at hisE
    ·have h1:=hds.facts.late s.e rfl i hi io hio (.inr hR) S I.clo hp.ahead
     have h2:=I.eS s.e h1 io' hio' hisE
     exact absurd (List.mem_append_right _ h2) hpos.out
end
end Go.Proofs.YtnpoloachkcadaaGreatDoor.Ai
namespace Go.Proofs.YtnpoloachkcadaaGreatDoor.Ai
open Go
set_option linter.unusedSimpArgs false
set_option linter.unusedSectionVars false
section
variable {P:Program} {ng:Nat} {ts:List TypeId} {N0:Bs} {K:Ks} {l:List IOper} {bf:List Nat} {e0:List Value} {fin:DStage} {v:Nat→Value} {t':List Value} {σ':AW} {L0:List NEnt} {μ0:Nat→Loc} {σ0:AW} {w0:World}
 {st:List DStage} {prev nx:Option Nat} {C:List Nat} {β:AW} {L:List NEnt} {S:List Nat} {μ:Nat→Loc} {w w':World} {ops:Array Oper}
theorem Inv.step (X:Cx P ng ts ops l bf e0 v L0) (hK:KSound P ng ts N0 K) (I:Inv P ng ts N0 K l bf e0 fin v t' σ' L0 μ0 σ0 w0 st prev C β L S μ w) (hN:N0.n≤w0.heap.size) {i:Nat} (hi:i < l.length) (hp:Pos bf i S)
  {b:Frame} {E:Fr} {k:List Item} {rest:List Nat} {cs:List Frame} (hE:∀ d∈E.dfs,d < σ0.next) :
  ∃ st' prev' C' β' L' μ1 w1,Inv P ng ts N0 K l bf e0 fin v t' σ' L0 μ0 σ0 w0 st' prev' C' β' L' (i::S) μ1 w1∧
   Steps P (lone (FS b E l v e0 ops k μ S (i::rest)) cs w) (lone (FS b E l v e0 ops k μ1 (i::S) rest) cs w1):=by
 have hE':∀ d∈E.dfs,d < β.next:=fun d hd=>Nat.lt_of_lt_of_le (hE d hd) I.goes.next
 obtain ⟨C1,io,n,hio,hp1,hlt,hof⟩:=X.of i hi
 obtain ⟨o,ho,hc,hd,hop⟩:=X.op hio
 have hag:=X.agree hio ho hp1 hp
 have hwe:io.wanted (tm l v e0 S)=io.wanted (tm l v e0 C1):=wanted_agree hag
 cases hisE:isE io.op with
 | true=>
  have hall:=I.ds.facts.all i hi
  have hiC:i∉C:=fun h=>hp.out (I.eC i h io hio hisE)
  cases st with
  | nil=>
   have h1:i∈fin.xs:=hall.resolve_left hiC
   have:=I.ds.2.1.facts.ne i h1 io hio
   rw [this] at hisE;simp at hisE
  | cons s st=>
   have hsame:i=s.e:=by
    have h1:=hall.resolve_left hiC
    obtain ⟨hck,γ,β',A,L',io',rfl,hx,hio',hisE',hlt,hpos,hpv,hrun,hnx,hds⟩:=I.ds
    rcases List.mem_append.1 h1 with h1 | h1
    ·have:=hx.facts.ne i h1 io hio
     rw [this] at hisE;simp at hisE
    ·rcases List.mem_cons.1 h1 with h1 | h1
     ·exact h1
     ·have h2:=hds.facts.late s.e rfl i h1 io hio (.inl hisE) S I.clo hp.ahead
      exact absurd (List.mem_append_right _ (I.eS s.e h2 io' hio' hisE')) hpos.out
   subst hsame
   obtain ⟨prev',C',β',L',μ1,w1,h1,h2⟩:=I.change X hK hN hp (b:=b) (E:=E) (k:=k) (rest:=rest) (cs:=cs) hE'
   exact ⟨st,prev',C',β',L',μ1,w1,h1,h2⟩
 | false=>
  rcases hof with ⟨hw,hv⟩ | ⟨hw,hof⟩
  ·obtain ⟨h1,h2⟩:=I.unwanted X hp hio hisE (b:=b) (E:=E) (k:=k) (rest:=rest) (cs:=cs) (by rw [hwe];exact hw) hv
   exact ⟨_,_,_,_,_,μ,w,h1,h2⟩
  ·rcases hof with ⟨q,hq,hev⟩ | ⟨q,hq⟩ | ⟨q,id,bk,hq,hm⟩ | hq
   ·have hgl:∀ μ2,Agr μ2 μ β.next L S→Glob ng μ2:=fun μ2 h2=>⟨fun g hg=>by rw [h2.1 g (Nat.lt_of_lt_of_le hg I.rep.ngn)];exact I.rep.glob.out g hg⟩
    obtain ⟨h1,h2⟩:=I.plain X hp hio hisE (by rw [hq];simp) (b:=b) (E:=E) (k:=k) (rest:=rest) (cs:=cs) (by rw [hwe];exact hw) (e:=tm l v e0 C1) (x:=v i)
     (fun o' ho'=>by rw [ho] at ho';simp at ho';subst ho';exact hag)
     (fun o' μ2 hcop hok _ h2=>(evP_sound (hgl μ2 h2) (n:=Nat.max n ng) (Nat.le_max_right _ _) (ltL_mono (Nat.le_max_left _ _) _ hlt) (by rw [hq] at hcop;exact hcop) hok hev w).1) rfl (by rw [hq];simp)
    exact ⟨_,_,_,_,_,μ,w,h1,h2⟩
   ·obtain ⟨e,m,x,h1,h2,h3,h4,h5⟩:=I.read X hp hio hq (by rw [hwe];exact hw)
    obtain ⟨h1,h2⟩:=I.plain X hp hio hisE (by rw [hq];simp) (b:=b) (E:=E) (k:=k) (rest:=rest) (cs:=cs) (by rw [hwe];exact hw) (e:=e) (x:=x) h1
     (fun o' μ2 hcop hok _ h6=>(evR_sound ((I.rep.agrμ h6.1).raise h2) (e:=e) h3 (by rw [hq] at hcop;exact hcop) hok (by rw [evR_raise];exact h4)).1) h5 (by rw [hq];simp)
    exact ⟨_,_,_,_,_,μ,w,h1,h2⟩
   ·obtain ⟨μ1,w1,h1,h2⟩:=I.block X hp hio hq (b:=b) (E:=E) (k:=k) (rest:=rest) (cs:=cs) hE' hm
    exact ⟨_,_,_,_,_,μ1,w1,h1,h2⟩
   ·rw [hisE] at hq;simp at hq
theorem XS.next:∀ {xs C:List Nat} {σ σ2:AW} {A:List NEnt},XS l bf e0 v β prev nx xs C σ A σ2→(∀ j∈C,j∈S)→
  (∃ i∈xs,i∉S∧∀ j,(nthN bf i).testBit j=true→j∈S)∨∀ j∈xs.reverse++C,j∈S
 | [],C,σ,σ2,A,_,hC=>.inr (by simpa using hC)
 | i::xs,C,σ,σ2,A,h,hC=>by
  obtain ⟨io,hio,hlt,hpos,hE,hR,hN,h⟩:=h
  by_cases hi:i∈S
  ·have hC':∀ j∈i::C,j∈S:=fun j hj=>by
    rcases List.mem_cons.1 hj with rfl | hj
    ·exact hi
    ·exact hC j hj
   have go:∀ {σ3:AW} {A3:List NEnt},XS l bf e0 v β prev nx xs (i::C) σ3 A3 σ2→((∃ i∈xs,i∉S∧∀ j,(nthN bf i).testBit j=true→j∈S)∨∀ j∈xs.reverse++i::C,j∈S):=fun hx=>XS.next hx hC'
   have fin:((∃ i∈xs,i∉S∧∀ j,(nthN bf i).testBit j=true→j∈S)∨∀ j∈xs.reverse++i::C,j∈S)→((∃ j∈i::xs,j∉S∧∀ m,(nthN bf j).testBit m=true→m∈S)∨∀ j∈(i::xs).reverse++C,j∈S):=fun h=>h.elim (fun ⟨j,h1,h2⟩=>Or.inl ⟨j,List.mem_cons_of_mem i h1,h2⟩) (fun h=>Or.inr (by simpa using h))
   rcases h with ⟨_,_,h⟩ | ⟨_,_,_,_,h⟩ | ⟨_,_,_,_,h⟩ | ⟨_,_,_,_,_,_,_,_,_,_,h⟩
   ·exact fin (go h)
   ·exact fin (go h)
   ·exact fin (go h)
   ·exact fin (go h)
  ·exact .inl ⟨i,by simp,hi,fun j hj=>hC j (hpos.ahead j hj)⟩
theorem DS.next:∀ {st:List DStage} {prev:Option Nat} {C:List Nat} {β:AW} {L:List NEnt},DS l bf e0 K fin v t' σ' st prev C β L→(∀ j∈C,j∈S)→
  (∃ i∈opsOf fin st,i∉S∧∀ j,(nthN bf i).testBit j=true→j∈S)∨∀ j∈opsOf fin st,j∈S
 | [],prev,C,β,L,h,hC=>by
  rcases h.2.1.next hC with h1 | h1
  ·exact .inl h1
  ·exact .inr fun j hj=>h1 j (List.mem_append_left _ (by simpa [opsOf] using hj))
 | s::st,prev,C,β,L,h,hC=>by
  obtain ⟨hck,γ,β',A,L',io',rfl,hx,hio',hisE',hlt,hpos,hpv,hrun,hnx,hds⟩:=h
  rcases hx.next hC with ⟨i,h1,h2⟩ | h1
  ·exact .inl ⟨i,List.mem_append_left _ h1,h2⟩
  ·by_cases he:s.e∈S
   ·rcases DS.next hds (fun j hj=>by
     rcases List.mem_cons.1 hj with rfl | hj
     ·exact he
     ·exact h1 j hj) with ⟨i,h3,h4⟩ | h3
    ·exact .inl ⟨i,List.mem_append_right _ (List.mem_cons_of_mem _ h3),h4⟩
    ·refine .inr fun j hj=>?_
     rcases List.mem_append.1 hj with hj | hj
     ·exact h1 j (List.mem_append_left _ (by simpa using hj))
     ·rcases List.mem_cons.1 hj with rfl | hj
      ·exact he
      ·exact h3 j hj
   ·exact .inl ⟨s.e,List.mem_append_right _ (by simp),he,fun j hj=>h1 j (hpos.ahead j hj)⟩
theorem filter_less {p q:Nat→Bool} (hpq:∀ j,q j=true→p j=true) {i:Nat} (h1:p i=true) (h2:q i=false):∀ (L:List Nat),(L.filter q).length≤(L.filter p).length∧(i∈L→(L.filter q).length < (L.filter p).length)
 | []=>by simp
 | j::L=>by
  obtain ⟨g1,g2⟩:=filter_less hpq h1 h2 L
  by_cases hq:q j=true
  ·have hp:=hpq j hq
   simp only [List.filter_cons,hq,hp,if_true,List.length_cons]
   refine ⟨by omega,fun hi=>?_⟩
   rcases List.mem_cons.1 hi with rfl | hi
   ·rw [h2] at hq;simp at hq
   ·have:=g2 hi;omega
  ·by_cases hp:p j=true
   ·simp only [List.filter_cons,hq,hp,if_true,List.length_cons]
    refine ⟨?_,fun hi=>?_⟩
    ·simp;omega
    ·simp;omega
   ·simp only [List.filter_cons,hq,hp]
    refine ⟨by simpa using g1,fun hi=>?_⟩
    rcases List.mem_cons.1 hi with rfl | hi
    ·exact absurd h1 hp
    ·simpa using g2 hi
def unl (n:Nat) (S:List Nat):List Nat:=(List.range n).filter fun j=>!S.contains j
theorem unl_less {n i:Nat} (hi:i < n) (hn:i∉S):(unl n (i::S)).length < (unl n S).length:=
 (filter_less (p:=fun j=>!S.contains j) (q:=fun j=>!(i::S).contains j) (fun j hj=>by simp at hj ⊢;exact hj.2) (by simpa using hn) (by simp) _).2 (by simpa using hi)
theorem unl_nil {n:Nat} (h:(unl n S).length≤0):∀ j,j < n→j∈S:=by
 intro j hj
 have h1:unl n S=[]:=List.eq_nil_of_length_eq_zero (by omega)
 by_cases hS:j∈S
 ·exact hS
 ·have:j∈unl n S:=List.mem_filter.2 ⟨List.mem_range.2 hj,by simpa using hS⟩
  rw [h1] at this;simp at this
theorem run_order (X:Cx P ng ts ops l (Region.before ops).toList e0 v L0) (hK:KSound P ng ts N0 K) (hN:N0.n≤w0.heap.size) {st0:List DStage} {β0:AW} (hD:DS l (Region.before ops).toList e0 K fin v t' σ' st0 none [] β0 L0) (hlen:l.length=ops.size)
  {b:Frame} {E:Fr} {k:List Item} {cs:List Frame} (hE:∀ d∈E.dfs,d < σ0.next) :
  ∀ (fuel t:Nat) (listed:Array Bool) {st:List DStage} {prev:Option Nat} {C:List Nat} {β:AW} {L:List NEnt} {S:List Nat} {μ:Nat→Loc} {w:World},
   Inv P ng ts N0 K l (Region.before ops).toList e0 fin v t' σ' L0 μ0 σ0 w0 st prev C β L S μ w→listed.size=ops.size→(∀ j,listed.getD j false=true↔j∈S)→(unl ops.size S).length≤fuel→
   ∃ st' prev' C' β' L' S' μ' w',Inv P ng ts N0 K l (Region.before ops).toList e0 fin v t' σ' L0 μ0 σ0 w0 st' prev' C' β' L' S' μ' w'∧(∀ j,j < ops.size→j∈S')∧
    Steps P (lone (FS b E l v e0 ops k μ S (Region.linearise.go .any ops fuel t listed [])) cs w) (lone (FS b E l v e0 ops k μ' S' []) cs w'):=by
 intro fuel
 induction fuel with
 | zero=>
  intro t listed st prev C β L S μ w I hsz hl hu
  exact ⟨_,_,_,_,_,S,μ,w,I,unl_nil hu,.refl _ _⟩
 | succ fuel ih=>
  intro t listed st prev C β L S μ w I hsz hl hu
  have hgo:Region.linearise.go .any ops (fuel + 1) t listed [] =
    match (Region.ready .any ops listed)[t % (Region.ready .any ops listed).length]? with
    | some i=>i::Region.linearise.go .any ops fuel (t / (Region.ready .any ops listed).length) (listed.setIfInBounds i true) []
    | none=>[]:=by
   simp only [Region.linearise.go,Region.ready]
   split
   ·rename_i i hi
    rw [hi,linearise_go_acc];simp
   ·rename_i hi
    rw [hi];simp
  rw [hgo]
  split
  ·rename_i i hi
   have him:=List.mem_of_getElem? hi
   obtain ⟨h0,o,ho,hall⟩:=mem_ready.1 him
   have hlt:i < ops.size:=(Array.getElem?_eq_some_iff.1 ho).1
   have hnS:i∉S:=fun h=>by
    have h1:=(hl i).2 h
    simp [hsz,hlt] at h0 h1
    rw [h0] at h1;simp at h1
   have hp:Pos (Region.before ops).toList i S:=⟨I.clo,fun j hj=>by
    obtain ⟨e,he,hb,h1⟩:=(before_bits ops ho).2 j hj
    have h2:=(hl e.on).1 (hall e he hb)
    rcases h1 with rfl | h1
    ·exact h2
    ·exact I.clo e.on h2 j h1,hnS⟩
   obtain ⟨st1,prev1,C1,β1,L1,μ1,w1,I1,s1⟩:=I.step X hK hN (by rw [hlen];exact hlt) hp (b:=b) (E:=E) (k:=k) (rest:=Region.linearise.go .any ops fuel (t / (Region.ready .any ops listed).length) (listed.setIfInBounds i true) []) (cs:=cs) hE
   obtain ⟨st',prev',C',β',L',S',μ',w',I',hS',s2⟩:=ih (t / (Region.ready .any ops listed).length) (listed.setIfInBounds i true) I1 (by simpa using hsz) (fun j=>by
    by_cases hj:j=i
    ·subst hj;simp [hsz,hlt]
    ·rw [getD_set_ne false (Ne.symm hj),hl j];simp [hj]) (by have:=unl_less (S:=S) hlt hnS;omega)
   exact ⟨st',prev',C',β',L',S',μ',w',I',hS',s1.trans s2⟩
  ·rename_i hnone
   have hrn:Region.ready .any ops listed=[]:=by
    rcases Nat.eq_zero_or_pos (Region.ready .any ops listed).length with h | h
    ·exact List.eq_nil_of_length_eq_zero h
    ·rw [List.getElem?_eq_none_iff] at hnone
     have:=Nat.mod_lt t h;omega
   refine ⟨_,_,_,_,_,S,μ,w,I,?_,.refl _ _⟩
   rcases hD.next (S:=S) (by simp) with ⟨i,h1,h2,h3⟩ | h1
   ·exfalso
    obtain ⟨C1,io,n,hio,_⟩:=hD.facts.of i h1
    obtain ⟨o,ho,_⟩:=X.op hio
    have hlt:i < ops.size:=(Array.getElem?_eq_some_iff.1 ho).1
    have:i∈Region.ready .any ops listed:=mem_ready.2 ⟨by
     have:=(hl i)
     have h4:¬ listed.getD i false=true:=fun h=>h2 (this.1 h)
     simp [hsz,hlt] at h4 ⊢;exact h4,o,ho,fun e he hb=>(hl e.on).2 (h3 _ ((before_bits ops ho).1 e he hb))⟩
    rw [hrn] at this;simp at this
   ·intro j hj
    rcases hD.facts.all j (by rw [hlen];exact hj) with h | h
    ·simp at h
    ·exact h1 j h
theorem Rep.sameHeap (h:Rep P ng ts N0 μ β w) (hw:w'.heap=w.heap):Rep P ng ts N0 μ β w':=
 ⟨h.glob,h.ngn,fun i b hi=>⟨(h.blk i b hi).1,(h.blk i b hi).2.1,(h.blk i b hi).2.2.mono (fun _ _=>rfl) (h.blk i b hi).1 (Nat.le_refl _) (by rw [hw])⟩,fun i b hi hr=>by rw [hw];exact h.own i b hi hr,h.ro,h.dis,h.al,by rw [hw];exact h.big⟩
theorem draw_ok (hm:P.follows .mixedOrders=true) (hK:KSound P ng ts N0 K):DrawOK P ng ts N0 K:=by
 intro id ops l st fin rnd e σ σ' t' hl hvd hv μ w h hE b hr k cs
 simp only [vDraw,Bool.and_eq_true] at hvd
 obtain ⟨⟨hv1,hv2⟩,hv3⟩:=hvd
 obtain ⟨v,L,_,hD⟩:=runDraw_canon (bf:=(Region.before ops).toList) hl hK st (C:=[]) (v0:=fun _=>undef) (e0:=e.tmps) hv hv3 (fun j=>by simp) (fun i hi=>by simp at hi) h hE.tm
 have D:=hD.facts
 have hlen:l.length=ops.size:=by rw [cOps_length hl];simp
 have X:Cx P ng ts ops l (Region.before ops).toList e.tmps v L:=⟨hl,fun t i j h1 h2=>vDst_inj hv1 h1 h2,hv2,fun i hi=>D.of i ((D.all i hi).resolve_left (by simp)),D.nf,D.uniq,D.idu⟩
 have I:Inv P ng ts N0 K l (Region.before ops).toList e.tmps fin v t' σ' L μ σ w st none [] σ L [] μ {w with drawn:=w.drawn + 1 }:=
  ⟨hD,h.sameHeap rfl,⟨Nat.le_refl _,fun _ _=>rfl,rfl,rfl,rfl,Nat.le_refl _,fun _ _ _=>rfl,fun i b h hr=>.inr ⟨i,b,h,hr,rfl⟩⟩,fun i hi=>by simp at hi,fun i hi=>by simp at hi,fun i hi=>by simp at hi,by simp,fun a ha _=>ha,fun a ha=>ha,
   fun a _ hs=>by simp at hs,fun a _ hs=>by simp at hs,fun a _ hs=>by simp at hs,fun a _ hs=>by simp at hs,fun a _ b _ hs=>by simp at hs,fun μ2 h2=>concL_congr (fun i hi=>h2.1 i hi) _ hE.tm⟩
 obtain ⟨st',prev',C',β',L',S',μ',w',I',hS',s2⟩:=run_order X hK h.big.1 hD hlen (b:=b) (E:=e) (k:=k) (cs:=cs) hE.dfs ops.size (w.tape w.drawn (.order b.fn id)) (Array.replicate ops.size false) I (by simp) (fun j=>by
   simp [Array.getElem?_replicate];split <;> simp) (Nat.le_trans (List.length_filter_le _ _) (by simp))
 have hst:st'=[]:=by
  cases st' with
  | nil=>rfl
  | cons s st'=>
   exfalso
   obtain ⟨hck,γ,β',A,L',io',rfl,hx,hio',hisE',hlt,hpos,hpv,hrun,hnx,hds⟩:=I'.ds
   have hlt:s.e < ops.size:=by rw [← hlen];rw [nthO_eq] at hio';exact (List.getElem?_eq_some_iff.1 hio').1
   exact hpos.out (List.mem_append_right _ (I'.eS s.e (hS' _ hlt) io' hio' hisE'))
 subst hst
 obtain ⟨hck,hx,ht,hall,hlt⟩:=I'.ds
 have hA:L'=L'++[]:=by simp
 have key:∀ a∈L',a.1∈S':=fun a ha=>by
  obtain ⟨_,io,_,_,hio,_⟩:=X.nf a (I'.sub a ha)
  exact hS' _ (by rw [← hlen];rw [nthO_eq] at hio;exact (List.getElem?_eq_some_iff.1 hio).1)
 have I2:=I'
 rw [hA] at I2
 obtain ⟨r1,g1,_⟩:=I2.adopted h.big.1 hx.facts.chain key
 have htm:tm l v e.tmps S'=t':=by
  rw [ht]
  exact tm_eq_all X.hu fun j hj=>⟨fun _=>hall j hj,fun _=>hS' j (by rw [← hlen];exact hj)⟩
 refine ⟨μ',w',r1,g1,⟨hlt,fun d hd=>Nat.lt_of_lt_of_le (hE.dfs d hd) g1.next⟩,?_⟩
 have hsch:Region.schedule (P.follows .mixedOrders) ops (w.tape w.drawn (.order b.fn id))=Region.linearise.go .any ops ops.size (w.tape w.drawn (.order b.fn id)) (Array.replicate ops.size false) []:=by
  simp [Region.schedule,hm,Region.linearise]
 refine Steps.head st_region_draw ?_
 rw [hsch]
 have s3:Steps P (lone (FS b e l v e.tmps ops k μ' S' []) cs w') (lone (fr b μ' {e with tmps:=t' } k) cs w'):=by
  unfold FS;rw [htm];exact .one st_region_end
 have hdfs:FS b e l v e.tmps ops k μ [] (Region.linearise.go .any ops ops.size (w.tape w.drawn (.order b.fn id)) (Array.replicate ops.size false) [])=fr b μ e (.inRegion ops (Region.linearise.go .any ops ops.size (w.tape w.drawn (.order b.fn id)) (Array.replicate ops.size false) [])::k):=rfl
 rw [← hdfs]
 exact s2.trans s3
theorem all_sound {C:Tr IFunc} (hm:P.follows .mixedOrders=true) (hC:TabOK P ng ts C) (n:Nat):KSound P ng ts N0 (ksN C n):=
 ksN_sound hC (fun _ hK=>draw_ok hm hK) n
end
end Go.Proofs.YtnpoloachkcadaaGreatDoor.Ai
namespace Go.Proofs.YtnpoloachkcadaaGreatDoor.Ai
open Go
set_option linter.unusedSimpArgs false
section
variable {P:Program} {ng:Nat} {ts:List TypeId} {N0:Bs} {K:Ks} {μ:Nat→Loc} {σ σ':AW} {w w':World}
def bare (n:Nat):AW:={next:=n,heap:=.nil }
def yes (C:Tr IFunc) (n:Nat) (f:FuncId) (args:List Value) (σ:AW):Bool:=
 match (ksN C n).call f args σ with
 | some (.ret (.bool true),_)=>true
 | _=>false
end
section
variable {P:Program} {ng:Nat} {ts:List TypeId} {N0:Bs} {K:Ks} {μ:Nat→Loc} {σ σ':AW} {w w':World}
def known (n:Nat):List (Nat × TypeId × List Value)→AW
 | []=>bare n
 | (g,t,cs)::l=>{next:=n,heap:=(known n l).heap.set g (.cells {cs,ty:=t,esz:=1,ro:=true,exact:=true,retired:=false,frozen:=true,al:=[] }) }
structure Laid (w:World) (n:Nat) (x:Nat × TypeId × List Value):Prop where
 lt:x.1 < n
 lm:x.1 < most x.1
 l:ltL 0 x.2.2=true
 c:∃ (C:Array Value) (t:TypeId) (fr:Nat × Nat),w.heap[x.1]? = some (.cells C t fr)∧x.2.2.length≤C.size∧∀ (k:Nat) (v:Value),x.2.2[k]? = some v→C[k]? = some v
theorem Laid.of_eq {w:World} {n:Nat} {x:Nat × TypeId × List Value} (h1:x.1 < n) (h2:ltL 0 x.2.2=true) (h3:∃ t fr,w.heap[x.1]? = some (.cells ⟨x.2.2⟩ t fr)):Laid w n x:=by
 obtain ⟨t,fr,h3⟩:=h3
 exact ⟨h1,Nat.lt_succ_self _,h2,⟨x.2.2⟩,t,fr,h3,by simp,fun k v hk=>by simpa using hk⟩
theorem known_next (n:Nat):∀ l,(known n l).next=n
 | []=>rfl
 | (_,_,_)::_=>rfl
def tabB (x:Nat × TypeId × List Value):CB:={cs:=x.2.2,ty:=x.2.1,esz:=1,ro:=true,exact:=true,retired:=false,frozen:=true,al:=[] }
theorem known_get {n:Nat}:∀ {l:List (Nat × TypeId × List Value)},(∀ x∈l,x.1 < most x.1)→∀ i b,(known n l).heap.get i=some b→∃ x∈l,x.1=i∧b = .cells (tabB x)
 | [],_,i,b,h=>by simp [known,bare,Tr.get] at h
 | (g,t,cs)::l,hl,i,b,h=>by
  have h2:=hl (g,t,cs) (by simp)
  have hget:(known n ((g,t,cs)::l)).heap.get i=if i=g then some (.cells (tabB (g,t,cs))) else (known n l).heap.get i:=
   Tr.get_set _ _ _ _ (by unfold most at h2;simp only at h2;omega)
  rw [hget] at h
  split at h
  ·rename_i hi
   simp at h;subst h
   exact ⟨(g,t,cs),by simp,hi.symm,rfl⟩
  ·obtain ⟨x,h1,h3⟩:=known_get (fun x hx=>hl x (by simp [hx])) i b h
   exact ⟨x,by simp [h1],h3⟩
theorem known_rep (w:World) {n:Nat} (hn:ng≤n) {l:List (Nat × TypeId × List Value)} (hl:∀ x∈l,Laid w n x):Rep P ng ts (Bs.of w) (fun i=>⟨i,0,0⟩) (known n l) w∧∀ i b,(known n l).heap.get i=some b→isRo b=true:=by
 have hg:=fun i b h=>known_get (n:=n) (fun x hx=>(hl x hx).lm) i b h
 have hro:∀ i b,(known n l).heap.get i=some b→isRo b=true:=by
  intro i b h
  obtain ⟨x,_,_,rfl⟩:=hg i b h
  rfl
 refine ⟨⟨⟨fun _ _=>rfl⟩,by rw [known_next];exact hn,?_,?_,?_,?_,?_,⟨Nat.le_refl _,fun _ _=>rfl⟩⟩,hro⟩
 ·intro i b h
  obtain ⟨x,hx,rfl,rfl⟩:=hg i b h
  obtain ⟨h1,h2,h3,C,t,fr,h4,h5,h6⟩:=hl x hx
  rw [known_next]
  refine ⟨h1,h2,ltL_mono (Nat.zero_le _) _ h3,fun _=>rfl,fun _ _=>rfl,fun hf=>by simp [tabB] at hf,C,t,fr,h4,fun hf=>by simp [tabB] at hf,by simpa [tabB] using h5,fun k v hk=>?_⟩
  have hk':x.2.2[k]? = some v:=hk
  have hv:lt 0 v=true:=ltL_getElem h3 hk'
  simp only [conc_zero _ _ hv]
  simpa using h6 k v hk'
 ·intro i b h hr;rw [hro i b h] at hr;simp at hr
 ·intro i b h _
  obtain ⟨x,hx,rfl,rfl⟩:=hg i b h
  obtain ⟨h1,h2,h3,C,t,fr,h4,h5,h6⟩:=hl x hx
  exact (Array.getElem?_eq_some_iff.1 h4).1
 ·intro i j bi bj hi _ hr;rw [hro i bi hi] at hr;simp at hr
 ·intro j cj hj i hi
  obtain ⟨x,_,_,hb⟩:=hg j _ hj
  simp at hb;subst hb
  simp [tabB] at hi
theorem laid_of_is {name:String} {k:IntKind} {zs:List Int} {g:Nat} (h:Lib.TabIs P w name k zs) (hg:P.globalNamed name=some g):∃ t fr,w.heap[g]? = some (.cells ⟨zs.map (Value.int k)⟩ t fr):=by
 unfold Lib.TabIs World.var? at h
 simp only [hg,Option.bind_some] at h
 split at h
 ·rename_i cs t fr hc
  simp at h;subst h
  exact ⟨t,fr,hc⟩
 ·simp at h
theorem lt0_ints (k:IntKind):∀ zs:List Int,ltL 0 (zs.map (Value.int k))=true
 | []=>rfl
 | z::zs=>by simp [ltL,lt0_ints k zs]
end
def TabAt (P:Program) (ng:Nat) (ts:List TypeId) (a b:Nat):Tr IFunc→Prop
 | .nil=>True
 | .node l o r=>TabAt P ng ts (2 * a) (b + a) l∧(∀ x,o=some x→∃ fn,P.funcs[b]? = some fn∧cFunc P ng ts fn=some x)∧TabAt P ng ts (2 * a) (b + 2 * a) r
theorem TabAt.get {P:Program} {ng:Nat} {ts:List TypeId}:∀ {C:Tr IFunc} {a b:Nat},TabAt P ng ts a b C→∀ f x,C.get f=some x→∃ fn,P.funcs[b + a * f]? = some fn∧cFunc P ng ts fn=some x
 | .nil,_,_,_,f,x,h=>by simp [Tr.get] at h
 | .node l o r,a,b,⟨h1,h2,h3⟩,f,x,h=>by
  simp only [Tr.get] at h
  split at h
  ·rename_i h0;subst h0;simpa using h2 x h
  ·split at h
   ·have:=TabAt.get h1 _ x h
    have e:b + a + 2 * a * (f / 2)=b + a * f:=by
     have h4:f=2 * (f / 2) + 1:=by omega
     generalize f / 2=g at *
     rw [h4,Nat.mul_add,Nat.mul_one,← Nat.mul_assoc,Nat.mul_comm a 2];omega
    rwa [e] at this
   ·have:=TabAt.get h3 _ x h
    have e:b + 2 * a + 2 * a * (f / 2 - 1)=b + a * f:=by
     have h4:f=2 * (f / 2 - 1 + 1):=by omega
     generalize f / 2 - 1=g at *
     rw [h4,← Nat.mul_assoc,Nat.mul_comm a 2,Nat.mul_add];omega
    rwa [e] at this
theorem TabAt.ok {P:Program} {ng:Nat} {ts:List TypeId} {C:Tr IFunc} (h:TabAt P ng ts 1 0 C):TabOK P ng ts C:=fun f x hf=>by simpa using h.get f x hf
theorem TabAt.nil {P:Program} {ng:Nat} {ts:List TypeId} {a b:Nat}:TabAt P ng ts a b .nil:=trivial
theorem tab_one {P:Program} {ng:Nat} {ts:List TypeId} {b:Nat} {y:IFunc} (h:(P.funcs[b]?).bind (cFunc P ng ts)=some y):∀ x,some y=some x→∃ fn,P.funcs[b]? = some fn∧cFunc P ng ts fn=some x:=by
 intro x hx
 simp at hx;subst hx
 exact Option.bind_eq_some_iff.1 h
theorem tab_none {P:Program} {ng:Nat} {ts:List TypeId} {b:Nat}:∀ x:IFunc,none=some x→∃ fn,P.funcs[b]? = some fn∧cFunc P ng ts fn=some x:=by simp
end Go.Proofs.YtnpoloachkcadaaGreatDoor.Ai
namespace Go.Proofs.YtnpoloachkcadaaGreatDoor.Ai
open Go
set_option linter.unusedSimpArgs false
set_option linter.unusedVariables false
section
variable {P:Program} {ng:Nat} {ts:List TypeId} {N0:Bs} {K:Ks} {μ:Nat→Loc} {σ σ' σ1 σ2:AW} {w w':World}
structure CTo (P:Program) (ng:Nat) (ts:List TypeId) (N0:Bs) (f:FuncId) (args:List Value) (σ:AW) (v:Value) (σ':AW):Prop where
 fn:∃ fn,P.funcs[f]? = some fn∧fn.body.isNone=false∧(fn.name == "runtime.NumGoroutine")=false
 ok:∀ {μ w},Rep P ng ts N0 μ σ w→ltL σ.next args=true→CallOK P ng ts N0 (fun μ=>Frame.enter P f ⟨concL μ args⟩ .normal) σ v σ' μ w
def CRun (P:Program) (ng:Nat) (ts:List TypeId) (N0:Bs) (rnd:Option Nat) (ic:ICode) (e:Fr) (σ:AW) (x:IExit) (e':Fr) (σ':AW):Prop:=
 ∀ c,cCode P ng ts c=some ic→CodeOK P ng ts N0 rnd c e σ x e' σ'
theorem CRun.of_evC (hm:P.follows .mixedOrders=true) (hK:KSound P ng ts N0 K) {fuel:Nat} {rnd:Option Nat} {ic:ICode} {e e':Fr} {x:IExit} (h:evC K fuel rnd ic e σ=some (x,e',σ')):CRun P ng ts N0 rnd ic e σ x e' σ':=
 fun c hc=>evC_sound hK (draw_ok hm hK) fuel rnd c ic hc h
noncomputable def oneK (f0:FuncId) (a0:List Value) (s0:AW) (v0:Value) (s1:AW) (K:Ks):Ks:=by
 classical exact {call:=fun f args σ=>if f=f0∧args=a0∧σ=s0 then some (.ret v0,s1) else K.call f args σ,yield:=K.yield }
theorem CRun.seq {rnd:Option Nat} {a b:ICode} {e e1 e2:Fr} {x:IExit} (h1:CRun P ng ts N0 rnd a e σ .normal e1 σ1) (h2:CRun P ng ts N0 rnd b e1 σ1 x e2 σ2):CRun P ng ts N0 rnd (.seq a b) e σ x e2 σ2:=by
 intro c hc
 cases c with
 | seq ca cb=>
  intro μ w h hE fb hr k cs
  simp only [cCode] at hc
  split at hc
  ·rename_i ia ib ha hb
   simp at hc
   obtain ⟨rfl,rfl⟩:=hc
   obtain ⟨μ1,w1,r1,g1,f1,c1⟩:=h1 ca ha h hE fb hr (.code cb::k) cs
   obtain ⟨μ2,w2,r2,g2,f2,c2⟩:=h2 cb hb r1 f1 fb (hr.mono g1.next g1.agr) k cs
   exact ⟨μ2,w2,r2,g1.trans g2,f2,c2.head (Steps.head st_seq c1)⟩
  ·simp at hc
 | region id ops d=>cases d <;> simp only [cCode] at hc <;> (repeat' split at hc) <;> simp at hc
 | cond x a b=>simp only [cCode] at hc;(repeat' split at hc) <;> simp at hc
 | rangeFunc f ps a b=>simp only [cCode] at hc;(repeat' split at hc) <;> simp at hc
 | _=>simp [cCode] at hc
def Less (σ'' σ':AW):Prop:=σ''.next=σ'.next∧∀ i b,σ''.heap.get i=some b→σ'.heap.get i=some b
theorem Rep.less' (h:Rep P ng ts N0 μ σ w) {σ'':AW} (hl:Less σ'' σ):Rep P ng ts N0 μ σ'' w:=by
 obtain ⟨hn,hb⟩:=hl
 refine ⟨h.glob,by rw [hn];exact h.ngn,fun i b hi=>by rw [hn];exact h.blk i b (hb i b hi),fun i b hi=>h.own i b (hb i b hi),fun i b hi=>h.ro i b (hb i b hi),fun i j bi bj hi hj=>h.dis i j bi bj (hb i bi hi) (hb j bj hj),fun j cj hj i hi=>?_,h.big⟩
 obtain ⟨h1,h2⟩:=h.al j cj (hb j _ hj) i hi
 exact ⟨h1,fun bi hbi=>h2 bi (hb i bi hbi)⟩
theorem Goes.less' {μ':Nat→Loc} (h:Goes μ σ w μ' σ' w') {σ'':AW} (hl:Less σ'' σ'):Goes μ σ w μ' σ'' w':=
 ⟨by rw [hl.1];exact h.next,h.agr,h.os,h.tape,h.output,h.size,h.keep,fun i b hi=>h.fresh i b (hl.2 i b hi)⟩
theorem CRun.less {rnd:Option Nat} {a:ICode} {e e1:Fr} {x:IExit} (h:CRun P ng ts N0 rnd a e σ x e1 σ1) (hl:Less σ2 σ1):CRun P ng ts N0 rnd a e σ x e1 σ2:=by
 intro c hc μ w hr hE b hb k cs
 obtain ⟨μ1,w1,r1,g1,f1,c1⟩:=h c hc hr hE b hb k cs
 exact ⟨μ1,w1,r1.less' hl,g1.less' hl,by rw [hl.1];exact f1,c1⟩
theorem CTo.less {f:FuncId} {args:List Value} {v:Value} (h:CTo P ng ts N0 f args σ v σ1) (hl:Less σ2 σ1):CTo P ng ts N0 f args σ v σ2:=by
 refine ⟨h.fn,fun hr ha c cs=>?_⟩
 obtain ⟨μ',w',r1,g1,h3,h4⟩:=h.ok hr ha c cs
 exact ⟨μ',w',r1.less' hl,g1.less' hl,by rw [hl.1];exact h3,h4⟩
theorem CTo.of_body {C:Tr IFunc} (hC:TabOK P ng ts C) {f:FuncId} {ifn:IFunc} (hf:C.get f=some ifn) {args:List Value} {x:IExit} {e:Fr} {vs:List Value}
  (hb:CRun P ng ts N0 none ifn.body {tmps:=args++List.replicate (ifn.ntmps - args.length) undef,dfs:=[] } σ x e σ1) (hx:x = .normal∨x = .ret)
  (hd:runDfs e.dfs σ1=some σ2) (hv:resVs e.tmps σ2 ifn.results=some vs):CTo P ng ts N0 f args σ (tupleOf vs) σ2:=by
 obtain ⟨fn,hfn,hcf⟩:=hC f ifn hf
 unfold cFunc at hcf
 split at hcf
 ·rename_i c rs hbody hrs
  split at hcf
  ·simp at hcf
  ·rename_i hname
   simp only [Option.map_eq_some_iff] at hcf
   obtain ⟨ib,hib,rfl⟩:=hcf
   refine ⟨⟨fn,hfn,by rw [hbody];rfl,by simpa using hname⟩,?_⟩
   intro μ w h ha c' cs
   let b:Frame:={fn:=f,tmps:=#[],todo:=[],defers:=[],mode:=.run,kind:=.normal,roundOf:=none }
   have hE:FrOK σ.next {tmps:=args++List.replicate (fn.ntmps - args.length) undef,dfs:=[] }:=by
    refine ⟨ltL_append.2 ⟨ha,(ltL_iff _ _).2 fun v hv=>?_⟩,by simp⟩
    rw [(List.mem_replicate.1 hv).2];exact lt_undef _
   have hstart:Frame.enter P f ⟨concL μ args⟩ .normal=fr b μ {tmps:=args++List.replicate (fn.ntmps - args.length) undef,dfs:=[] } [.code c]:=by
    simp only [Frame.enter,fr,hfn,hbody]
    simp [concL_append,concL_replicate,concL_length,b,hbody]
   obtain ⟨μ1,w1,r1,g1,f1,c1⟩:=hb c hib h hE b rfl [] (c'::cs)
   obtain ⟨F,hF1,hF2,hF3,hF4,hF5,hF6⟩:∃ F:Frame,F.mode = .returning∧F.defers=e.dfs.map (mark μ1)∧F.kind = .normal∧F.fn=f∧F.tmps=⟨concL μ1 e.tmps⟩∧
     Steps P (lone (fr b μ {tmps:=args++List.replicate (fn.ntmps - args.length) undef,dfs:=[] } [.code c]) (c'::cs) w) (lone F (c'::cs) w1):=by
    rcases hx with rfl | rfl
    ·exact ⟨_,rfl,rfl,rfl,rfl,rfl,Steps.trans c1 (.one (st_end rfl))⟩
    ·obtain ⟨k',hk⟩:=c1
     exact ⟨_,rfl,rfl,rfl,rfl,rfl,Steps.trans hk (.one (st_ret rfl))⟩
   obtain ⟨w2,r2,g2,s2⟩:=runDfs_sound hd r1 f1.dfs F (c'::cs) hF1 hF2
   obtain ⟨hres,hlv⟩:=results_sound (fn:=fn) r2 (ltL_mono g2.next _ f1.tm) hrs hv
   refine ⟨μ1,w2,r2,g1.trans g2,hlv,?_⟩
   show Steps P (lone (Frame.enter P f ⟨concL μ args⟩ .normal) (c'::cs) w) _
   rw [hstart]
   refine hF6.trans (s2.trans (.one ?_))
   exact st_leave (fn:=fn) hF1 rfl hF3 (by simp only;rw [hF4];exact hfn) (by simp only;rw [hF5];exact hres)
 ·simp at hcf
theorem Calls_of_body {C:Tr IFunc} (hC:TabOK P ng ts C) {f:FuncId} {ifn:IFunc} (hf:C.get f=some ifn) {args:List Value} {x:IExit} {e:Fr} {vs:List Value}
  (hb:CRun P ng ts N0 none ifn.body {tmps:=args++List.replicate (ifn.ntmps - args.length) undef,dfs:=[] } σ x e σ1) (hx:x = .normal∨x = .ret)
  (hd:runDfs e.dfs σ1=some σ2) (hv:resVs e.tmps σ2 ifn.results=some vs) (h:Rep P ng ts N0 μ σ w) (ha:ltL σ.next args=true) :
  Calls P f ⟨concL μ args⟩ w fun e w'=>∃ μ',e = .returned (conc μ' (tupleOf vs))∧Rep P ng ts N0 μ' σ2 w'∧Goes μ σ w μ' σ2 w'∧lt σ2.next (tupleOf vs)=true:=by
 obtain ⟨fn,hfn,hcf⟩:=hC f ifn hf
 unfold cFunc at hcf
 split at hcf
 ·rename_i c rs hbody hrs
  split at hcf
  ·simp at hcf
  ·rename_i hname
   simp only [Option.map_eq_some_iff] at hcf
   obtain ⟨ib,hib,rfl⟩:=hcf
   intro cs
   let b:Frame:={fn:=f,tmps:=#[],todo:=[],defers:=[],mode:=.run,kind:=.normal,roundOf:=none }
   have hE:FrOK σ.next {tmps:=args++List.replicate (fn.ntmps - args.length) undef,dfs:=[] }:=by
    refine ⟨ltL_append.2 ⟨ha,(ltL_iff _ _).2 fun v hv=>?_⟩,by simp⟩
    rw [(List.mem_replicate.1 hv).2];exact lt_undef _
   have hstart:Frame.enter P f ⟨concL μ args⟩ .normal=fr b μ {tmps:=args++List.replicate (fn.ntmps - args.length) undef,dfs:=[] } [.code c]:=by
    simp only [Frame.enter,fr,hfn,hbody]
    simp [concL_append,concL_replicate,concL_length,b,hbody]
   obtain ⟨μ1,w1,r1,g1,f1,c1⟩:=hb c hib h hE b rfl [] cs
   obtain ⟨F,hF1,hF2,hF3,hF4,hF5,hF6⟩:∃ F:Frame,F.mode = .returning∧F.defers=e.dfs.map (mark μ1)∧F.kind = .normal∧F.fn=f∧F.tmps=⟨concL μ1 e.tmps⟩∧
     Steps P (lone (fr b μ {tmps:=args++List.replicate (fn.ntmps - args.length) undef,dfs:=[] } [.code c]) cs w) (lone F cs w1):=by
    rcases hx with rfl | rfl
    ·exact ⟨_,rfl,rfl,rfl,rfl,rfl,Steps.trans c1 (.one (st_end rfl))⟩
    ·obtain ⟨k',hk⟩:=c1
     exact ⟨_,rfl,rfl,rfl,rfl,rfl,Steps.trans hk (.one (st_ret rfl))⟩
   obtain ⟨w2,r2,g2,s2⟩:=runDfs_sound hd r1 f1.dfs F cs hF1 hF2
   obtain ⟨hres,hlv⟩:=results_sound (fn:=fn) r2 (ltL_mono g2.next _ f1.tm) hrs hv
   refine ⟨.returned (conc μ1 (tupleOf vs)),w2,{F with defers:=[] },⟨μ1,rfl,r2,g1.trans g2,hlv⟩,?_,hF4,hF1,rfl,hF3,fn,by simp only;rw [hF4];exact hfn,by simp only;rw [hF5];exact hres⟩
   rw [hstart]
   exact hF6.trans s2
 ·simp at hcf
theorem Rep.older (h:Rep P ng ts N0 μ σ w) (hs:w.heap.size≤w'.heap.size) (hk:∀ B,B < w.heap.size→w'.heap[B]? = w.heap[B]?):Rep P ng ts N0 μ σ w':=by
 refine ⟨h.glob,h.ngn,?_,?_,h.ro,h.dis,h.al,⟨Nat.le_trans h.big.1 hs,fun B hB=>by have:=h.big.1;rw [hk B (by omega)];exact h.big.2 B hB⟩⟩
 ·intro i b hi
  obtain ⟨h1,h2,h3⟩:=h.blk i b hi
  exact ⟨h1,h2,h3.mono (fun _ _=>rfl) h1 (Nat.le_refl _) (hk _ (h.live hi))⟩
 ·intro i b hi hr
  exact ⟨(h.own i b hi hr).1,Nat.lt_of_lt_of_le (h.own i b hi hr).2 hs⟩
def Knows (σ:AW) (n:Nat) (l:List (Nat × TypeId × List Value)):Prop:=∀ x∈l,x.1 < n∧x.1 < ng∧σ.heap.get x.1=some (.cells (tabB x))∧ltL 0 x.2.2=true
theorem CTo.anywhere {f:FuncId} {l:List (Nat × TypeId × List Value)} {n:Nat} {v:Value} {σf:AW} (hn:ng≤n) (h:∀ N0,CTo P ng ts N0 f [] (known n l) v σf) (hv:lt 0 v=true) (hk:Knows (ng:=ng) σ n l):CTo P ng ts N0 f [] σ v σ:=by
 refine ⟨(h N0).fn,fun {μ w} hr _ c cs=>?_⟩
 have hl:∀ x∈l,Laid w n x:=by
  intro x hx
  obtain ⟨h1,h2,h3,h4⟩:=hk x hx
  obtain ⟨g1,g2,g3⟩:=hr.blk _ _ h3
  obtain ⟨C,t,fr,g4,_,g5,g6⟩:=g3.cell
  have hμ:μ x.1=⟨x.1,0,0⟩:=hr.glob.out x.1 h2
  refine ⟨h1,g2,h4,C,t,fr,?_,?_,fun k v hk=>?_⟩
  ·rw [hμ] at g4;exact g4
  ·rw [hμ] at g5;simpa [tabB] using g5
  ·have:=g6 k v hk
   rw [hμ,conc_zero _ _ (ltL_getElem h4 hk)] at this
   simpa using this
 obtain ⟨hrep,hro⟩:=known_rep (P:=P) (ng:=ng) (ts:=ts) w hn hl
 obtain ⟨μ',w',r1,g1,h3,h4⟩:=(h (Bs.of w)).ok hrep (by simp [ltL]) c cs
 have hkeep:∀ B,B < w.heap.size→w'.heap[B]? = w.heap[B]?:=fun B hB=>g1.keep B hB fun i b hb hr=>by rw [hro i b hb] at hr;simp at hr
 refine ⟨μ,w',hr.older g1.size hkeep,⟨Nat.le_refl _,fun _ _=>rfl,g1.os,g1.tape,g1.output,g1.size,fun B hB _=>hkeep B hB,fun i b hb hr=>.inr ⟨i,b,hb,hr,rfl⟩⟩,lt_mono (Nat.zero_le _) _ hv,?_⟩
 have e1:concL (fun i=>(⟨i,0,0⟩:Loc)) ([]:List Value)=[]:=rfl
 have e2:concL μ ([]:List Value)=[]:=rfl
 simp only [e1] at h4
 simp only [e2]
 rw [conc_zero _ _ hv] at h4 ⊢
 exact h4
structure LaidAt (ng:Nat) (μ:Nat→Loc) (w:World) (n:Nat) (x:Nat × TypeId × List Value):Prop where
 lt:x.1 < n
 lm:x.1 < most x.1
 g:x.1 < ng
 l:ltL n x.2.2=true
 c:∃ t fr,w.heap[x.1]? = some (.cells ⟨concL μ x.2.2⟩ t fr)
theorem known_at (hg:Glob ng μ) (w:World) {n:Nat} (hn:ng≤n) {l:List (Nat × TypeId × List Value)} (hl:∀ x∈l,LaidAt ng μ w n x):Rep P ng ts (Bs.of w) μ (known n l) w∧∀ i b,(known n l).heap.get i=some b→isRo b=true:=by
 have hgt:=fun i b h=>known_get (n:=n) (fun x hx=>(hl x hx).lm) i b h
 have hro:∀ i b,(known n l).heap.get i=some b→isRo b=true:=by
  intro i b h
  obtain ⟨x,_,_,rfl⟩:=hgt i b h
  rfl
 refine ⟨⟨hg,by rw [known_next];exact hn,?_,?_,?_,?_,?_,⟨Nat.le_refl _,fun _ _=>rfl⟩⟩,hro⟩
 ·intro i b h
  obtain ⟨x,hx,rfl,rfl⟩:=hgt i b h
  obtain ⟨h1,h2,hxg,h3,t,fr,h4⟩:=hl x hx
  have hμ:μ x.1=⟨x.1,0,0⟩:=hg.out x.1 hxg
  rw [known_next]
  refine ⟨h1,h2,h3,fun _=>by rw [hμ],fun _ _=>by rw [hμ],fun hf=>by simp [tabB] at hf,⟨concL μ x.2.2⟩,t,fr,by rw [hμ];exact h4,fun hf=>by simp [tabB] at hf,by rw [hμ];simp [tabB,concL_length],fun k v hk=>?_⟩
  rw [hμ]
  simp only [tabB] at hk ⊢
  simp only [Nat.zero_add,List.getElem?_toArray,concL_getElem?,hk,Option.map_some]
 ·intro i b h hr;rw [hro i b h] at hr;simp at hr
 ·intro i b h _
  obtain ⟨x,hx,rfl,rfl⟩:=hgt i b h
  obtain ⟨h1,h2,hxg,h3,t,fr,h4⟩:=hl x hx
  rw [hg.out x.1 hxg]
  exact (Array.getElem?_eq_some_iff.1 h4).1
 ·intro i j bi bj hi _ hr;rw [hro i bi hi] at hr;simp at hr
 ·intro j cj hj i hi
  obtain ⟨x,_,_,hb⟩:=hgt j _ hj
  simp at hb;subst hb
  simp [tabB] at hi
def withPtr (j:Nat) (a:Addr) (i:Nat):Loc:=if i=j then ⟨a.block,a.off,0⟩ else ⟨i,0,0⟩
theorem withPtr_glob {j:Nat} (hj:ng≤j) (a:Addr):Glob ng (withPtr j a):=⟨fun g hg=>by simp [withPtr];omega⟩
theorem laidAt_ints (hg:Glob ng μ) {g n:Nat} {k:IntKind} {zs:List Int} {w:World} (h1:g < n) (h2:g < most g) (h3:g < ng) (h:∃ t fr,w.heap[g]? = some (.cells ⟨zs.map (Value.int k)⟩ t fr)):LaidAt ng μ w n (g,0,zs.map (Value.int k)):=
 ⟨h1,h2,h3,ltL_mono (Nat.zero_le _) _ (lt0_ints k zs),by simpa only [concL_zero _ _ (lt0_ints k zs)] using h⟩
theorem laidAt_ptr {j g n tp:Nat} {a:Addr} {w:World} {name:String} (hj:j < n) (h1:g < n) (h2:g < most g) (h3:g < ng) (hgn:P.globalNamed name=some g) (ha:a.spot=none) (h:w.var? P name=some #[.iface tp (.pointer (some a))]) :
  LaidAt ng (withPtr j a) w n (g,0,[.iface tp (.pointer (some ⟨j,0,none⟩))]):=by
 refine ⟨h1,h2,h3,by simp [ltL,hj],?_⟩
 unfold World.var? at h
 simp only [hgn,Option.bind_some] at h
 split at h
 ·rename_i cs t fr hc
  simp at h;subst h
  refine ⟨t,fr,?_⟩
  rw [hc]
  obtain ⟨b,o,s⟩:=a
  simp only at ha;subst ha
  simp [concL,cAddr,withPtr]
 ·simp at h
end
end Go.Proofs.YtnpoloachkcadaaGreatDoor.Ai
namespace Go.Proofs.YtnpoloachkcadaaGreatDoor.Ai
open Go
set_option linter.unusedSimpArgs false
set_option linter.unusedVariables false
def fneq:Fn→Fn→Bool
 | .func i,.func j=>i == j
 | .method a,.method b=>a == b
 | .yield i,.yield j=>i == j
 | _,_=>false
mutual
def veq:Value→Value→Bool
 | .bool a,.bool b=>a == b
 | .int j a,.int k b=>j == k && a == b
 | .string a,.string b=>a.data.toList == b.data.toList
 | .pointer none,.pointer none=>true
 | .pointer (some a),.pointer (some b)=>a == b
 | .slice none a b,.slice none c d=>a == c && b == d
 | .slice (some x) a b,.slice (some y) c d=>x == y && a == c && b == d
 | .map a,.map b=>a == b
 | .nilFunc,.nilFunc=>true
 | .nilIface,.nilIface=>true
 | .func f ⟨a⟩ ⟨b⟩,.func g ⟨c⟩ ⟨d⟩=>fneq f g && veqs a c && veqs b d
 | .iface t a,.iface u b=>t == u && veq a b
 | .agg ⟨a⟩,.agg ⟨b⟩=>veqs a b
 | .tuple ⟨a⟩,.tuple ⟨b⟩=>veqs a b
 | _,_=>false
def veqs:List Value→List Value→Bool
 | [],[]=>true
 | x::a,y::b=>veq x y && veqs a b
 | _,_=>false
end
theorem fneq_eq {f g:Fn} (h:fneq f g=true):f=g:=by
 unfold fneq at h
 split at h <;> simp_all
mutual
theorem veq_eq:∀ {a b:Value},veq a b=true→a=b:=by
 intro a b h
 unfold veq at h
 split at h
 all_goals first | (simp at h;done) | skip
 ·simpa using h
 ·simp at h;rw [h.1,h.2]
 ·rename_i a b
  simp at h
  rw [show a=b from by cases a;cases b;simp at h ⊢;exact h]
 ·rfl
 ·simpa using h
 ·simp at h;rw [h.1,h.2]
 ·simp at h;rw [h.1.1,h.1.2,h.2]
 ·simpa using h
 ·rfl
 ·rfl
 ·simp only [Bool.and_eq_true] at h;rw [fneq_eq h.1.1,veqs_eq h.1.2,veqs_eq h.2]
 ·simp only [Bool.and_eq_true,beq_iff_eq] at h;rw [h.1,veq_eq h.2]
 ·rw [veqs_eq h]
 ·rw [veqs_eq h]
theorem veqs_eq:∀ {a b:List Value},veqs a b=true→a=b:=by
 intro a b h
 unfold veqs at h
 split at h
 ·rfl
 ·simp only [Bool.and_eq_true] at h;rw [veq_eq h.1,veqs_eq h.2]
 ·simp at h
end
def entEq (a b:Value × Value × Nat):Bool:=veq a.1 b.1 && veq a.2.1 b.2.1 && a.2.2 == b.2.2
def entsEq:List (Value × Value × Nat)→List (Value × Value × Nat)→Bool
 | [],[]=>true
 | x::a,y::b=>entEq x y && entsEq a b
 | _,_=>false
theorem entsEq_eq:∀ {a b:List (Value × Value × Nat)},entsEq a b=true→a=b
 | [],[],_=>rfl
 | [],_::_,h=>by simp [entsEq] at h
 | _::_,[],h=>by simp [entsEq] at h
 | (x1,x2,x3)::a,(y1,y2,y3)::b,h=>by
  simp only [entsEq,entEq,Bool.and_eq_true,beq_iff_eq] at h
  rw [veq_eq h.1.1.1,veq_eq h.1.1.2,h.1.2,entsEq_eq h.2]
def blkEq:Blk→Blk→Bool
 | .cells a,.cells b=>veqs a.cs b.cs && a.ty == b.ty && a.esz == b.esz && a.ro == b.ro && a.exact == b.exact && a.retired == b.retired && a.frozen == b.frozen && a.al == b.al
 | .map a c,.map b d=>entsEq a b && c == d
 | .deferred a,.deferred b=>a == b
 | _,_=>false
theorem blkEq_eq {a b:Blk} (h:blkEq a b=true):a=b:=by
 unfold blkEq at h
 split at h
 ·rename_i a b
  simp only [Bool.and_eq_true,beq_iff_eq] at h
  obtain ⟨⟨⟨⟨⟨⟨⟨h1,h2⟩,h3⟩,h4⟩,h5⟩,h6⟩,h7⟩,h8⟩:=h
  have h1:=veqs_eq h1
  cases a;cases b
  simp_all
 ·simp only [Bool.and_eq_true,beq_iff_eq] at h;rw [entsEq_eq h.1,h.2]
 ·simp at h;rw [h]
 ·simp at h
def mkH:List (Nat × Blk)→Tr Blk
 | []=>.nil
 | (i,b)::l=>(mkH l).set i b
theorem mkH_get:∀ {l:List (Nat × Blk)},(∀ x∈l,x.1 < most x.1)→∀ i b,(mkH l).get i=some b→(i,b)∈l
 | [],_,i,b,h=>by simp [mkH,Tr.get] at h
 | (j,c)::l,hl,i,b,h=>by
  have hj:=hl (j,c) (by simp)
  simp only [mkH] at h
  rw [Tr.get_set _ _ _ _ (by unfold most at hj;simp only at hj;omega)] at h
  split at h
  ·rename_i he;simp at h;subst h he;simp
  ·have:=mkH_get (fun x hx=>hl x (by simp [hx])) i b h
   simp [this]
def exEq:IExit→IExit→Bool
 | .normal,.normal=>true
 | .exit i,.exit j=>i == j
 | .ret,.ret=>true
 | _,_=>false
theorem exEq_eq {a b:IExit} (h:exEq a b=true):a=b:=by
 unfold exEq at h
 split at h <;> simp_all
def comesTo (r:Option (IExit × Fr × AW)) (x:IExit) (t:List Value) (d:List Nat) (n:Nat) (l:List (Nat × Blk)):Bool:=
 match r with
 | some (x',e,σ)=>exEq x' x && veqs e.tmps t && e.dfs == d && σ.next == n && l.all fun p=>Nat.blt p.1 (most p.1) && match σ.heap.get p.1 with | some b=>blkEq b p.2 | none=>false
 | none=>false
theorem comesTo_some {r:Option (IExit × Fr × AW)} {x:IExit} {t:List Value} {d:List Nat} {n:Nat} {l:List (Nat × Blk)} (h:comesTo r x t d n l=true) :
  ∃ σ,r=some (x,{tmps:=t,dfs:=d },σ)∧Less {next:=n,heap:=mkH l } σ:=by
 unfold comesTo at h
 split at h
 ·rename_i x' e σ
  simp only [Bool.and_eq_true,beq_iff_eq,List.all_eq_true] at h
  obtain ⟨⟨⟨⟨h1,h2⟩,h3⟩,h4⟩,h5⟩:=h
  have h1:=exEq_eq h1
  have h2:=veqs_eq h2
  obtain ⟨t',d'⟩:=e
  simp only at h2 h3
  subst h1 h2 h3
  refine ⟨σ,rfl,h4.symm,fun i b hb=>?_⟩
  have hm:∀ p∈l,p.1 < most p.1:=fun p hp=>by have:=(h5 p hp).1;simpa [Nat.blt_eq] using this
  have hin:=mkH_get hm i b hb
  have:=(h5 (i,b) hin).2
  simp only at this
  split at this
  ·rename_i c hc;rw [hc,blkEq_eq this]
  ·simp at this
 ·simp at h
section
variable {P:Program} {ng:Nat} {ts:List TypeId} {N0:Bs} {C:Tr IFunc}
theorem CRun.piece (hm:P.follows .mixedOrders=true) (hC:TabOK P ng ts C) {k fuel:Nat} {ic:ICode} {e:Fr} {σ:AW} {x:IExit} {t:List Value} {d:List Nat} {n:Nat} {l:List (Nat × Blk)}
  (h:comesTo (evC (ksN C k) fuel none ic e σ) x t d n l=true):CRun P ng ts N0 none ic e σ x {tmps:=t,dfs:=d } {next:=n,heap:=mkH l }:=by
 obtain ⟨σ',h1,h2⟩:=comesTo_some h
 exact (CRun.of_evC hm (all_sound hm hC k) h1).less h2
end
end Go.Proofs.YtnpoloachkcadaaGreatDoor.Ai
namespace Go.Proofs.YtnpoloachkcadaaGreatDoor.Ai
open Go
set_option linter.unusedSimpArgs false
set_option linter.unusedVariables false
section
variable {P:Program} {ng:Nat} {ts:List TypeId} {N0:Bs} {K:Ks} {μ:Nat→Loc} {σ σ' σ1 σ2:AW} {w w':World}
theorem Rep.keepRo {μ':Nat→Loc} (h:Rep P ng ts N0 μ σ w) (h':Rep P ng ts N0 μ' σ' w') (hg:Goes μ σ w μ' σ' w') {i:Nat} {b:CB} (hi:σ.heap.get i=some (.cells b)) (hro:b.ro=true) (hal:b.al=[]) (hfz:b.frozen=true)
  (hno:∀ j c,σ'.heap.get j=some (.cells c)→i∉c.al) :
  Rep P ng ts N0 μ' {σ' with heap:=σ'.heap.set i (.cells b) } w'∧Goes μ σ w μ' {σ' with heap:=σ'.heap.set i (.cells b) } w':=by
 obtain ⟨g1,g2,g3⟩:=h.blk i _ hi
 have g3:CellsRep μ σ.next i b w:=g3
 have hμ:μ' i=μ i:=hg.agr i g1
 have hr0:=h.ro i _ hi hro
 have hkeep:w'.heap[(μ i).blk]? = w.heap[(μ i).blk]?:=hg.keep _ (Nat.lt_of_lt_of_le hr0 h.big.1) fun j c hj hr he=>by
  have:=(h.own j c hj hr).1
  omega
 have hget:∀ k,(σ'.heap.set i (.cells b)).get k=if k=i then some (.cells b) else σ'.heap.get k:=fun k=>Tr.get_set _ _ _ _ (by unfold most at g2;omega)
 have hcr:CellsRep μ' σ'.next i b w':=by
  obtain ⟨c1,c2,c3,c4,C,t,fr,c5,c6,c7,c8⟩:=g3
  refine ⟨ltL_mono hg.next _ c1,by rw [hμ];exact c2,by rw [hμ];exact c3,fun hf=>by rw [hfz] at hf;simp at hf,C,t,fr,by rw [hμ,hkeep];exact c5,by rw [hμ];exact c6,by rw [hμ];exact c7,fun k v hk=>?_⟩
  rw [hμ,c8 k v hk,conc_congr (fun j hj=>hg.agr j hj) v (ltL_getElem c1 hk)]
 refine ⟨⟨h'.glob,h'.ngn,?_,?_,?_,?_,?_,h'.big⟩,⟨hg.next,hg.agr,hg.os,hg.tape,hg.output,hg.size,hg.keep,?_⟩⟩
 ·intro k c hk
  rw [hget] at hk
  split at hk
  ·rename_i hki;subst hki;simp at hk;subst hk
   exact ⟨Nat.lt_of_lt_of_le g1 hg.next,g2,hcr⟩
  ·exact h'.blk k c hk
 ·intro k c hk hr
  rw [hget] at hk
  split at hk
  ·simp at hk;subst hk;simp [isRo,hro] at hr
  ·exact h'.own k c hk hr
 ·intro k c hk hr
  rw [hget] at hk
  split at hk
  ·rename_i hki;subst hki;rw [hμ];exact hr0
  ·exact h'.ro k c hk hr
 ·intro k j bk bj hk hj hrk hrj
  rw [hget] at hk hj
  split at hk
  ·simp at hk;subst hk;simp [isRo,hro] at hrk
  ·split at hj
   ·simp at hj;subst hj;simp [isRo,hro] at hrj
   ·exact h'.dis k j bk bj hk hj hrk hrj
 ·intro j cj hj k hk
  rw [hget] at hj
  split at hj
  ·simp at hj;subst hj;rw [hal] at hk;simp at hk
  ·obtain ⟨e1,e2⟩:=h'.al j cj hj k hk
   refine ⟨e1,fun bi hbi=>?_⟩
   rw [hget] at hbi
   split at hbi
   ·rename_i hki;subst hki
    exact absurd hk (hno j cj hj)
   ·exact e2 bi hbi
 ·intro k c hk hr
  rw [hget] at hk
  split at hk
  ·simp at hk;subst hk;simp [isRo,hro] at hr
  ·exact hg.fresh k c hk hr
theorem CRun.keepRo {rnd:Option Nat} {a:ICode} {e e1:Fr} {x:IExit} (h:CRun P ng ts N0 rnd a e σ x e1 σ1) {i:Nat} {b:CB} (hi:σ.heap.get i=some (.cells b)) (hro:b.ro=true) (hal:b.al=[]) (hfz:b.frozen=true)
  (hno:∀ j c,σ1.heap.get j=some (.cells c)→i∉c.al):CRun P ng ts N0 rnd a e σ x e1 {σ1 with heap:=σ1.heap.set i (.cells b) }:=by
 intro c hc μ w hr hE fb hb k cs
 obtain ⟨μ1,w1,r1,g1,f1,c1⟩:=h c hc hr hE fb hb k cs
 obtain ⟨r2,g2⟩:=hr.keepRo r1 g1 hi hro hal hfz hno
 exact ⟨μ1,w1,r2,g2,f1,c1⟩
theorem CTo.keepRo {f:FuncId} {args:List Value} {v:Value} (h:CTo P ng ts N0 f args σ v σ1) {i:Nat} {b:CB} (hi:σ.heap.get i=some (.cells b)) (hro:b.ro=true) (hal:b.al=[]) (hfz:b.frozen=true)
  (hno:∀ j c,σ1.heap.get j=some (.cells c)→i∉c.al):CTo P ng ts N0 f args σ v {σ1 with heap:=σ1.heap.set i (.cells b) }:=by
 refine ⟨h.fn,fun hr ha c cs=>?_⟩
 obtain ⟨μ1,w1,r1,g1,h3,h4⟩:=h.ok hr ha c cs
 obtain ⟨r2,g2⟩:=hr.keepRo r1 g1 hi hro hal hfz hno
 exact ⟨μ1,w1,r2,g2,h3,h4⟩
def noAl (i:Nat) (l:List (Nat × Blk)):Bool:=l.all fun p=>Nat.blt p.1 (most p.1) && match p.2 with | .cells c=>!c.al.contains i | _=>true
end
end Go.Proofs.YtnpoloachkcadaaGreatDoor.Ai
