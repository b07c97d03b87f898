/- A PART OF THE PROOF: a step of the proof that the law's code does what its contracts say, by an interpreter of the program's functions that is proved to be sound. -/
import Derived.Test.YtnpoloachkcadaaGreatDoorPv2
import Derived.Calls
import Derived.Sort.Grow
namespace Go.Proofs.YtnpoloachkcadaaGreatDoor.Ai
open Go
set_option linter.unusedSimpArgs false
set_option linter.unusedVariables false
theorem PRun.seqc {C:Ctx} {b:Nat} {a c:ICode} {t:List PV} {π:PW} {Q:IExit→List PV→PW→Prop} (R:List PV→PW→Prop) (h1:PRun C b a t π fun x t π=>match x with | .normal=>Gh C b t π R | _=>False) (h2:∀ t π,R t π→PRun C b c t π Q):PRun C b (.seq a c) t π Q:=
 .seq (h1.mono fun x t π hx=>match x,hx with
  | .normal,hx=>PRun.gh (hx.mono fun t π hr=>h2 t π hr))
end Go.Proofs.YtnpoloachkcadaaGreatDoor.Ai
namespace Go.Proofs.YtnpoloachkcadaaGreatDoor.Ai
open Go
set_option linter.unusedSimpArgs false
set_option linter.unusedVariables false
section
variable {C:Ctx} {f:FuncId} {args args0:List PV} {u:Value} {F:Nat→Prop} {I:Img} {η:Eta} {π:PW} {σ:AW}
theorem PFun.useLent (h:PFun C f args0 (.lit u)) (hp:pureL args0=true) (hg:Gh C 0 args π fun e' _=>e'=args0) (hG:GRd I noE C.G) (hs:SRel F I η π σ) {vargs:List Value} (ha:RdL I η args vargs) :
  ∃ σ',CTo C.P C.ng C.ts C.N0 f vargs σ u σ'∧σ.next < σ'.next∧(∀ i,i < σ.next→σ'.heap.get i=σ.heap.get i)∧SRel F I η π σ'∧lt 0 u=true:=by
 obtain ⟨I2,η2,e2,π2,f2,s2,r2,rfl⟩:=hg F I η σ vargs hG hs ha
 obtain ⟨v,σ',I',h1,⟨h2,h3,h4⟩,h5,h6⟩:=h.use hp (hG.le f2.im) s2 r2
 obtain ⟨rfl,hu⟩:=rd_lit h6
 have hlt:∀ j o a,look π.heap j=some o→η j=some a→a < σ.next:=by
  intro j o a hj ha
  obtain ⟨a',_,ha',hl,_⟩:=hs.obj j o hj
  rw [ha] at ha';cases ha';exact hl
 refine ⟨σ',h1,h2,fun i hi=>(h4 i hi).1,?_,hu⟩
 refine ⟨h5.hn,fun i hi=>Nat.lt_trans (hs.fn i hi) h2,hs.fo,fun i vs hi=>?_,hs.fresh,fun j o hj=>?_,hs.inj,hs.sep,fun j cs ty esz ex ret al a b hj ha' hb i hi=>?_⟩
 ·obtain ⟨g1,b,g2,g3⟩:=hs.img i vs hi
  exact ⟨Nat.lt_trans g1 h2,b,by rw [(h4 i g1).1];exact g2,g3⟩
 ·obtain ⟨a,b,g1,g2,g3,g4⟩:=hs.obj j o hj
  exact ⟨a,b,g1,Nat.lt_trans g2 h2,by rw [(h4 a g2).1];exact g3,g4⟩
 ·have hl:=hlt j _ a hj ha'
  obtain ⟨g1,g2,g3,g4⟩:=hs.al j _ _ _ _ _ _ _ _ hj ha' (by rw [← (h4 a hl).1];exact hb) i hi
  exact ⟨Nat.lt_trans g1 h2,g2,fun hf=>by rw [(h4 i g1).1];exact g3 hf,g4⟩
theorem PFun.lentT (h:PFun C f args0 (.lit u)) (hp:pureL args0=true) (hg:Gh C 0 args π fun e' _=>e'=args0) {A:PV→PW→Prop} (hA:A (.lit u) π):PTo C f args π A:=by
 intro F I η σ vargs hG hs hr
 obtain ⟨σ',h1,h2,h3,h4,h5⟩:=h.useLent hp hg hG hs hr
 exact ⟨u,σ',I,η,.lit u,π,h1,⟨Nat.le_of_lt h2,fun i hi=>⟨h3 i (hs.fn i hi),rfl⟩,Img.le_refl _,fun _ _=>rfl⟩,Eta.le_refl _,fun _ _=>rfl,h4,rd_mk h5,hA⟩
theorem PFun.lent {b:Nat} {e:List PV} (h:PFun C f args0 (.lit u)) (hp:pureL args0=true) (hg:Gh C 0 args π fun e' _=>e'=args0) {A:PV→PW→Prop} (hA:A (.lit u) π) (hb:b≤π.next:=by exact Nat.zero_le _):PToE C b e f args π A:=(h.lentT hp hg hA).toE hb
theorem PDE.lent {b:Nat} {l:List IOper} {fin:DStage} {st:List DStage} {S:List Nat} {e:List PV} {Q:List PV→PW→Prop} {as:List Opd} {d:Option Nat} (hf:PFun C f args0 (.lit u)) (hp:pureL args0=true)
  (hg:Gh C 0 (evsP C.G e as) π fun e' _=>e'=args0) (h:PDraw C b l fin st (S.filter (freeJ l d)) (putP e d (.lit u)) π Q):PDE C b l fin st S (.call f as) d e π Q:=by
 intro F I η σ env hG hs hr hy
 obtain ⟨σ1,h1,h2,h4,h5,h6⟩:=hf.useLent hp hg hG hs (evsP_sim (hG.any η) hr as)
 obtain ⟨M,env',σ',I',η',e',π',k1,k2,k3,k4,k5⟩:=h F I η σ1.bump (put env d u) hG h5.bump (rdL_putP hr _ (rd_mk h6)) ((hy.congr (σ':=σ1.bump) (Nat.le_succ_of_le (Nat.le_of_lt h2)) fun k hk=>h4 k hk).put d u)
 have hb:=LB.one ⟨f,evs env as,σ,u,σ1.bump,false⟩ (b:=σ1.bump.next) (Nat.lt_succ_of_lt h2)
 exact ⟨Lcat σ1.bump.next (Lone ⟨f,evs env as,σ,u,σ1.bump,false⟩) M,u,σ1.bump,env',σ',I',η',e',π',(LOK.one h1.bump).cat k1 _,hb.cat k2 (Nat.le_succ_of_le (Nat.le_of_lt h2)) k4.next,
  runE_mono (KL_left hb) (KL_one ⟨f,evs env as,σ,u,σ1.bump,false⟩ rfl),runDraw_mono (KL_right k2) k3,Fol.trans (σ1:=σ1.bump) ⟨Nat.le_succ_of_le (Nat.le_of_lt h2),fun i hi=>⟨h4 i (hs.fn i hi),rfl⟩,Img.le_refl _,fun _ _=>rfl⟩ k4,k5⟩
end
end Go.Proofs.YtnpoloachkcadaaGreatDoor.Ai
namespace Go.Proofs.YtnpoloachkcadaaGreatDoor.Ai
open Go
set_option linter.unusedSimpArgs false
set_option linter.unusedVariables false
mutual
def shP (k:Nat):PV→PV
 | .ptr j off=>.ptr (j + k) off
 | .loc j off n c=>.loc (j + k) off n c
 | .map j=>.map (j + k)
 | .yld j=>.yld (j + k)
 | .fn f a b=>.fn f (shL k a) (shL k b)
 | .iface t p=>.iface t (shP k p)
 | .agg l=>.agg (shL k l)
 | .tup l=>.tup (shL k l)
 | p=>p
def shL (k:Nat):List PV→List PV
 | []=>[]
 | p::l=>shP k p::shL k l
end
def shE (k:Nat):List (PV × PV × Nat)→List (PV × PV × Nat)
 | []=>[]
 | (p,q,c)::l=>(shP k p,shP k q,c)::shE k l
def shA (k:Nat):List Nat→List Nat
 | []=>[]
 | i::l=>(i + k)::shA k l
def shO (k:Nat):PObj→PObj
 | .cells l ty esz ex ret al=>.cells (shL k l) ty esz ex ret (shA k al)
 | .map es c=>.map (shE k es) c
 | .deferred t=>.deferred t
 | .loop st pd t ps a c=>.loop st pd (shL k t) ps a c
def shH (k:Nat) (h:List (Nat × PObj)):List (Nat × PObj)→List (Nat × PObj)
 | []=>h
 | (j,o)::l=>(j + k,shO k o)::shH k h l
def PW.with (π π1:PW):PW:={next:=π1.next + π.next,heap:=shH π.next π.heap π1.heap }
section
variable {F:Nat→Prop} {I J:Img} {η η1:Eta} {k:Nat}
def Eta.sh (η η1:Eta) (k:Nat):Eta:=fun j=>if j < k then η j else η1 (j - k)
mutual
theorem shP_sim:∀ {p:PV} {v:Value},Rd I η1 p v→Rd I (η.sh η1 k) (shP k p) v
 | .ptr j off,v,h=>by
  simp only [shP,Rd] at h ⊢
  obtain ⟨c,hc,rfl⟩:=h
  exact ⟨c,by simp only [Eta.sh];rw [if_neg (by omega),Nat.add_sub_cancel];exact hc,rfl⟩
 | .loc j off n c,v,h=>by
  simp only [shP,Rd] at h ⊢
  obtain ⟨c,hc,rfl⟩:=h
  exact ⟨c,by simp only [Eta.sh];rw [if_neg (by omega),Nat.add_sub_cancel];exact hc,rfl⟩
 | .map j,v,h=>by
  simp only [shP,Rd] at h ⊢
  obtain ⟨c,hc,rfl⟩:=h
  exact ⟨c,by simp only [Eta.sh];rw [if_neg (by omega),Nat.add_sub_cancel];exact hc,rfl⟩
 | .yld j,v,h=>by
  simp only [shP,Rd] at h ⊢
  obtain ⟨c,hc,rfl⟩:=h
  exact ⟨c,by simp only [Eta.sh];rw [if_neg (by omega),Nat.add_sub_cancel];exact hc,rfl⟩
 | .fn f x y,v,h=>by
  simp only [shP,Rd] at h ⊢
  obtain ⟨u,w,h1,h2,h3⟩:=h
  exact ⟨u,w,h1,shL_sim h2,shL_sim h3⟩
 | .iface t p,v,h=>by
  simp only [shP,Rd] at h ⊢
  obtain ⟨u,h1,h2⟩:=h
  exact ⟨u,h1,shP_sim h2⟩
 | .agg l,v,h=>by
  simp only [shP,Rd] at h ⊢
  obtain ⟨u,h1,h2⟩:=h
  exact ⟨u,h1,shL_sim h2⟩
 | .tup l,v,h=>by
  simp only [shP,Rd] at h ⊢
  obtain ⟨u,h1,h2⟩:=h
  exact ⟨u,h1,shL_sim h2⟩
 | .junk,v,h=>by simp [shP,Rd]
 | .lit _,v,h=>by simpa [shP,Rd] using h
 | .sl _ _,v,h=>by simpa [shP,Rd] using h
 | .sz _ _,v,h=>by simpa [shP,Rd] using h
 | .sp _ _ _,v,h=>by simpa [shP,Rd] using h
 | .ref _,v,h=>by simpa [shP,Rd] using h
theorem shL_sim:∀ {ps:List PV} {us:List Value},RdL I η1 ps us→RdL I (η.sh η1 k) (shL k ps) us
 | [],[],_=>by simp [shL,RdL]
 | p::ps,v::us,h=>by
  simp only [shL,RdL] at h ⊢
  exact ⟨shP_sim h.1,shL_sim h.2⟩
 | [],_::_,h=>by simp [RdL] at h
 | _::_,[],h=>by simp [RdL] at h
end
theorem shE_sim:∀ {es:List (PV × PV × Nat)} {fs:List (Value × Value × Nat)},EntRd I η1 es fs→EntRd I (η.sh η1 k) (shE k es) fs
 | [],[],_=>trivial
 | (p,q,c)::es,(v,w,d)::fs,h=>by
  simp only [EntRd,shE] at h ⊢
  exact ⟨shP_sim h.1,shP_sim h.2.1,h.2.2.1,shE_sim h.2.2.2⟩
 | [],_::_,h=>by simp [EntRd] at h
 | _::_,[],h=>by simp [EntRd] at h
theorem shO_sim {o:PObj} {bk:Blk} (h:ORd I η1 o bk):ORd I (η.sh η1 k) (shO k o) bk:=by
 cases o <;> cases bk <;> simp only [ORd,shO] at h ⊢
 ·exact ⟨shL_sim h.1,h.2⟩
 ·exact ⟨shE_sim h.1,h.2⟩
 ·exact h
 ·exact ⟨h.1,h.2.1,shL_sim h.2.2.1,h.2.2.2⟩
theorem mem_shA {i:Nat}:∀ {al:List Nat},i∈al→i + k∈shA k al
 | [],h=>by simp at h
 | x::al,h=>by
  simp only [List.mem_cons,shA] at h ⊢
  rcases h with rfl | h
  ·exact .inl rfl
  ·exact .inr (mem_shA h)
theorem look_shH {h:List (Nat × PObj)}:∀ {l:List (Nat × PObj)} {j:Nat} {o:PObj},look (shH k h l) j=some o→(∃ i o',j=i + k∧look l i=some o'∧o=shO k o')∨look h j=some o
 | [],j,o,hl=>.inr hl
 | (i,x)::l,j,o,hl=>by
  simp only [shH,look] at hl
  split at hl
  ·rename_i hj
   simp at hl
   exact .inl ⟨i,x,hj,by simp [look],hl.symm⟩
  ·rename_i hj
   rcases look_shH hl with ⟨i',o',h1,h2,h3⟩ | h1
   ·refine .inl ⟨i',o',h1,?_,h3⟩
    simp only [look]
    rw [if_neg (fun e=>by subst e;exact hj h1)];exact h2
   ·exact .inr h1
end
def PGen (C:Ctx) (f:FuncId) (args:List PV) (r:PV) (π1:PW):Prop:=
 ∀ F I σ vargs,GRd I noE C.G→SRel F I noE .none σ→RdL I noE args vargs→∃ v σ' I' η',CTo C.P C.ng C.ts C.N0 f vargs σ v σ'∧Fol F 0 I noE σ I' η' σ'∧SRel F I' η' π1 σ'∧Rd I' η' r v
section
variable {C:Ctx} {f:FuncId} {args:List PV} {r:PV} {π1 π:PW} {F:Nat→Prop} {I:Img} {η:Eta} {σ:AW}
theorem PGen.body (hm:C.P.follows .mixedOrders=true) {tab:Tr IFunc} (hC:TabOK C.P C.ng C.ts tab) {ifn:IFunc} (hf:tab.get f=some ifn)
  (h:PRun C 0 ifn.body (startP ifn args) .none fun x t π'=>(x = .normal∨x = .ret)∧Gh C 0 t π' fun t π'=>∃ rs,resPs t π' ifn.results=some rs∧Wk (tupP rs) r∧π'=π1):PGen C f args r π1:=by
 intro F I σ vargs hG hs hr
 have hrun:PRun C 0 ifn.body (startP ifn args) .none fun x t π'=>(x = .normal∨x = .ret)∧∃ rs,resPs t π' ifn.results=some rs∧Wk (tupP rs) r∧π'=π1:=
  PRun.after (h.mono fun x t π hx=>hx.2.mono fun t π ha=>⟨hx.1,ha⟩)
 obtain ⟨v,σ',I',η',r',π',h1,h2,h3,h4,h5,h6,h7,h8⟩:=PTo.of_body hm hC hf (A:=fun r' π'=>Wk r' r∧π'=π1) hrun F I noE σ vargs hG hs hr
 subst h8
 exact ⟨v,σ',I',η',h1,h2,h5,h7 _ _ _ h6⟩
theorem PGen.use (h:PGen C f args r π1) (hp:pureL args=true) (hG:GRd I noE C.G) (hs:SRel F I η π σ) {vargs:List Value} (ha:RdL I η args vargs) :
  ∃ v σ' I' η',CTo C.P C.ng C.ts C.N0 f vargs σ v σ'∧(σ.next < σ'.next∧I.le I'∧(∀ i,i < σ.next→σ'.heap.get i=σ.heap.get i∧I' i=I i))∧η.le η'∧(∀ j,j < π.next→η' j=η j)∧SRel F I' η' (π.with π1) σ'∧Rd I' η' (shP π.next r) v:=by
 obtain ⟨v,σ',I',η1,h1,h2,h3,h4⟩:=h (fun i=>i < σ.next) I σ vargs hG (hs.none _ (fun _ h=>h)) (ha.toPure hp)
 have hlt:∀ j o a,look π.heap j=some o→η j=some a→a < σ.next:=by
  intro j o a hj ha
  obtain ⟨a',_,ha',hl,_⟩:=hs.obj j o hj
  rw [ha] at ha';cases ha';exact hl
 have hold:∀ j,j < π.next→(η.sh η1 π.next) j=η j:=fun j hj=>by simp only [Eta.sh];rw [if_pos hj]
 have hlk:∀ j o,look π.heap j=some o→j < π.next:=fun j o hj=>by
  obtain ⟨a,_,ha,_⟩:=hs.obj j o hj
  exact hs.fresh j a ha
 have hnew:∀ i,(η.sh η1 π.next) (i + π.next)=η1 i:=fun i=>by simp only [Eta.sh];rw [if_neg (by omega),Nat.add_sub_cancel]
 have hle:η.le (η.sh η1 π.next):=fun j a ha=>by rw [hold j (hs.fresh j a ha)];exact ha
 have hge:∀ i o a,look π1.heap i=some o→η1 i=some a→¬ a < σ.next:=fun i o a hi ha=>h3.fo i o a hi ha
 have hcase:∀ j o,look (shH π.next π.heap π1.heap) j=some o→(∃ i o',j=i + π.next∧look π1.heap i=some o'∧o=shO π.next o')∨(j < π.next∧look π.heap j=some o):=by
  intro j o hj
  rcases look_shH hj with h | h
  ·exact .inl h
  ·exact .inr ⟨hlk j o h,h⟩
 refine ⟨v,σ'.bump,I',η.sh η1 π.next,h1.bump,⟨Nat.lt_succ_of_le h2.next,h2.im,h2.fr⟩,hle,hold,?_,shP_sim h4⟩
 constructor
 ·intro i b hi;exact Nat.lt_succ_of_lt (h3.hn i b hi)
 ·intro i hi;exact Nat.lt_succ_of_le (Nat.le_trans (Nat.le_of_lt (hs.fn i hi)) h2.next)
 ·intro j o a hj ha hf
  rcases hcase j o hj with ⟨i,o',rfl,hi,_⟩ | ⟨hjl,hj⟩
  ·rw [hnew] at ha
   exact hge i o' a hi ha (hs.fn a hf)
  ·rw [hold j hjl] at ha;exact hs.fo j o a hj ha hf
 ·intro i vs hi
  obtain ⟨g1,g2⟩:=h3.img i vs hi
  exact ⟨Nat.lt_succ_of_lt g1,g2⟩
 ·intro j a ha
  simp only [PW.with]
  simp only [Eta.sh] at ha
  split at ha
  ·omega
  ·have:=h3.fresh _ a ha;omega
 ·intro j o hj
  rcases hcase j o hj with ⟨i,o',rfl,hi,rfl⟩ | ⟨hjl,hj⟩
  ·obtain ⟨a,b,g1,g2,g3,g4⟩:=h3.obj i o' hi
   exact ⟨a,b,by rw [hnew];exact g1,Nat.lt_succ_of_lt g2,g3,shO_sim g4⟩
  ·obtain ⟨a,b,g1,g2,g3,g4⟩:=hs.obj j o hj
   exact ⟨a,b,by rw [hold j hjl];exact g1,Nat.lt_succ_of_le (Nat.le_trans (Nat.le_of_lt g2) h2.next),by show σ'.heap.get a=_;rw [(h2.fr a g2).1];exact g3,g4.mono h2.im hle⟩
 ·intro j l oj ol c hj hl hcj hcl
  rcases hcase j oj hj with ⟨i,o',rfl,hi,_⟩ | ⟨hjl,hj⟩ <;> rcases hcase l ol hl with ⟨i2,o2,rfl,hi2,_⟩ | ⟨hll,hl⟩
  ·rw [hnew] at hcj hcl;rw [h3.inj i i2 _ _ c hi hi2 hcj hcl]
  ·rw [hnew] at hcj;rw [hold l hll] at hcl;exact absurd (hlt l _ c hl hcl) (hge i o' c hi hcj)
  ·rw [hnew] at hcl;rw [hold j hjl] at hcj;exact absurd (hlt j _ c hj hcj) (hge i2 o2 c hi2 hcl)
  ·rw [hold j hjl] at hcj;rw [hold l hll] at hcl;exact hs.inj j l _ _ c hj hl hcj hcl
 ·intro j o a hj ha
  rcases hcase j o hj with ⟨i,o',rfl,hi,_⟩ | ⟨hjl,hj⟩
  ·rw [hnew] at ha;exact h3.sep i o' a hi ha
  ·rw [hold j hjl] at ha;rw [(h2.fr a (hlt j o a hj ha)).2];exact hs.sep j o a hj ha
 ·intro j cs ty esz ex ret al a b hj ha hb i hi
  rcases hcase j _ hj with ⟨i',o',rfl,hi',ho⟩ | ⟨hjl,hj⟩
  ·rw [hnew] at ha
   cases o' <;> simp only [shO,PObj.cells.injEq,reduceCtorEq] at ho
   obtain ⟨g1,g2,g3,g4⟩:=h3.al i' _ _ _ _ _ _ _ _ hi' ha hb i hi
   refine ⟨Nat.lt_succ_of_lt g1,g2,fun hf=>g3 (hs.fn i hf),fun m o hm hcm=>?_⟩
   rcases hcase m o hm with ⟨m',o2,rfl,hm',_⟩ | ⟨hml,hm⟩
   ·rw [hnew] at hcm
    rw [ho.2.2.2.2.2];exact mem_shA (g4 m' o2 hm' hcm)
   ·rw [hold m hml] at hcm
    have hl:=hlt m _ i hm hcm
    obtain ⟨a',b',q1,_,q2,_⟩:=hs.obj m _ hm
    rw [hcm] at q1;cases q1
    have q3:σ'.heap.get i=none:=g3 hl
    rw [(h2.fr i hl).1,q2] at q3
    cases q3
  ·rw [hold j hjl] at ha
   have hl:=hlt j _ a hj ha
   obtain ⟨g1,g2,g3,g4⟩:=hs.al j _ _ _ _ _ _ _ _ hj ha (by rw [← (h2.fr a hl).1];exact hb) i hi
   refine ⟨Nat.lt_succ_of_le (Nat.le_trans (Nat.le_of_lt g1) h2.next),by rw [(h2.fr i g1).2];exact g2,fun hf=>by show σ'.heap.get i=none;rw [(h2.fr i g1).1];exact g3 hf,fun m o hm hcm=>?_⟩
   rcases hcase m o hm with ⟨m',o2,rfl,hm',_⟩ | ⟨hml,hm⟩
   ·rw [hnew] at hcm;exact absurd g1 (hge m' o2 i hm' hcm)
   ·rw [hold m hml] at hcm;exact g4 m o hm hcm
theorem PGen.toT (h:PGen C f args r π1) (hp:pureL args=true) {A:PV→PW→Prop} (hA:A (shP π.next r) (π.with π1)):PTo C f args π A:=by
 intro F I η σ vargs hG hs hr
 obtain ⟨v,σ',I',η',h1,⟨h2,h3,h4⟩,h5,h6,h7,h8⟩:=h.use hp hG hs hr
 exact ⟨v,σ',I',η',_,_,h1,⟨Nat.le_of_lt h2,fun i hi=>h4 i (hs.fn i hi),h3,fun j hj=>by omega⟩,h5,h6,h7,h8,hA⟩
theorem PGen.to {b:Nat} {e:List PV} (h:PGen C f args r π1) (hp:pureL args=true) {A:PV→PW→Prop} (hA:A (shP π.next r) (π.with π1)) (hb:b≤π.next:=by exact Nat.zero_le _):PToE C b e f args π A:=(h.toT hp hA).toE hb
end
theorem Gh.frz {C:Ctx} {b:Nat} {e:List PV} {π:PW} (i:Nat) {cs:List PV} {ty esz:Nat} {ex:Bool} {al:List Nat} (hl:look π.heap i=some (.cells cs ty esz ex false al)) (hp:pureL cs=true) (hn:noAlP i π.heap=true)
  {A:List PV→PW→Prop} (h:Gh C b (frzL i cs e) {π with heap:=frzH i cs π.heap } A):Gh C b e π A:=
 (Gh.freeze (A:=fun e π=>Gh C b e π A) i hl hp hn h).trans fun _ _ h=>h
end Go.Proofs.YtnpoloachkcadaaGreatDoor.Ai
namespace Go.Proofs.YtnpoloachkcadaaGreatDoor.Ai
open Go
theorem concL_len (μ:Nat→Loc):∀ l:List Value,(concL μ l).length=l.length
 | []=>rfl
 | _::l=>by simp [concL,concL_len μ l]
theorem rdL_len {I:Img} {η:Eta}:∀ {ps:List PV} {vs:List Value},RdL I η ps vs→ps.length=vs.length
 | [],[],_=>rfl
 | p::ps,v::vs,h=>by simp only [RdL] at h;simp [rdL_len h.2]
 | [],_::_,h=>by simp [RdL] at h
 | _::_,[],h=>by simp [RdL] at h
theorem rdL_split {I:Img} {η:Eta}:∀ {ps qs:List PV} {vs ws:List Value},ps.length=vs.length→RdL I η (ps++qs) (vs++ws)→RdL I η ps vs∧RdL I η qs ws
 | [],_,[],_,_,h=>⟨by simp [RdL],h⟩
 | p::ps,qs,v::vs,ws,hl,h=>by
  simp only [List.cons_append,RdL] at h
  obtain ⟨h1,h2⟩:=h
  obtain ⟨g1,g2⟩:=rdL_split (by simpa using hl) h2
  exact ⟨by simp only [RdL];exact ⟨h1,g1⟩,g2⟩
 | [],_,_::_,_,hl,_=>by simp at hl
 | _::_,_,[],_,hl,_=>by simp at hl
end Go.Proofs.YtnpoloachkcadaaGreatDoor.Ai
namespace Go.Proofs.YtnpoloachkcadaaGreatDoor.Ai
open Go
set_option linter.unusedSimpArgs false
set_option linter.unusedVariables false
section
variable {C:Ctx} {b:Nat} {l:List IOper} {fin:DStage} {st:List DStage} {S:List Nat} {e:List PV} {π:PW} {Q:List PV→PW→Prop}
theorem PDE.callE {f:FuncId} {args:List Opd} {d:Option Nat} (h:PToE C b e f (evsP C.G e args) π fun r π'=>PDraw C b l fin st [] (putP e d r) π' Q):PDE C b l fin st S (.call f args) d e π Q:=by
 intro F I η σ env hG hs hr hy
 obtain ⟨v,σ1,I1,η1,r,π1,h1,h4,h5,h6,h7,h8⟩:=h F I η σ env _ hG hs hr (evsP_sim (hG.any η) hr args)
 obtain ⟨M,env',σ',I',η',e',π',k1,k2,k3,k4,k5⟩:=h8 F I1 η1 σ1.bump (put env d v) (hG.le h4.im) h5.bump (rdL_putP h6 _ h7) (.no _ _ _)
 have hn:σ.next < σ1.bump.next:=Nat.lt_succ_of_le h4.next
 have hb:=LB.one ⟨f,evs env args,σ,v,σ1.bump,false⟩ (b:=σ1.bump.next) hn
 have hk:runE (KL (Lone ⟨f,evs env args,σ,v,σ1.bump,false⟩)) env σ (.call f args)=some (.ret v,σ1.bump):=KL_one ⟨f,evs env args,σ,v,σ1.bump,false⟩ rfl
 exact ⟨Lcat σ1.bump.next (Lone ⟨f,evs env args,σ,v,σ1.bump,false⟩) M,v,σ1.bump,env',σ',I',η',e',π',(LOK.one h1.bump).cat k1 _,hb.cat k2 (Nat.le_of_lt hn) k4.next,
  runE_mono (KL_left hb) hk,runDraw_mono (KL_right k2) k3,Fol.trans (σ1:=σ1.bump) ⟨Nat.le_of_lt hn,h4.fr,h4.im,h4.et⟩ k4,k5⟩
theorem PDE.callvE {f:Opd} {args:List Opd} {d:Option Nat} (h:PVal C b e (f.pv C.G e) (evsP C.G e args) π fun r π'=>PDraw C b l fin st [] (putP e d r) π' Q):PDE C b l fin st S (.callv f args) d e π Q:=by
 intro F I η σ env hG hs hr hy
 have hf:=rd_opd (hG.any η) hr f
 unfold PVal at h
 split at h
 ·rename_i g x y hp
  rw [hp] at hf
  simp only [Rd] at hf
  obtain ⟨xv,yv,hfe,hx,hyv⟩:=hf
  obtain ⟨v,σ1,I1,η1,r,π1,h1,h4,h5,h6,h7,h8⟩:=h F I η σ env _ hG hs hr (hx.append ((evsP_sim (hG.any η) hr args).append hyv))
  obtain ⟨M,env',σ',I',η',e',π',k1,k2,k3,k4,k5⟩:=h8 F I1 η1 σ1.bump (put env d v) (hG.le h4.im) h5.bump (rdL_putP h6 _ h7) (.no _ _ _)
  have hn:σ.next < σ1.bump.next:=Nat.lt_succ_of_le h4.next
  have hb:=LB.one ⟨g,xv++(evs env args++yv),σ,v,σ1.bump,false⟩ (b:=σ1.bump.next) hn
  have hk:runE (KL (Lone ⟨g,xv++(evs env args++yv),σ,v,σ1.bump,false⟩)) env σ (.callv f args)=some (.ret v,σ1.bump):=by
   rw [callv_fn hfe];exact KL_one ⟨g,xv++(evs env args++yv),σ,v,σ1.bump,false⟩ rfl
  exact ⟨Lcat σ1.bump.next (Lone ⟨g,xv++(evs env args++yv),σ,v,σ1.bump,false⟩) M,v,σ1.bump,env',σ',I',η',e',π',(LOK.one h1.bump).cat k1 _,hb.cat k2 (Nat.le_of_lt hn) k4.next,
   runE_mono (KL_left hb) hk,runDraw_mono (KL_right k2) k3,Fol.trans (σ1:=σ1.bump) ⟨Nat.le_of_lt hn,h4.fr,h4.im,h4.et⟩ k4,k5⟩
 ·rename_i l' hp
  rw [hp] at hf
  simp only [Rd] at hf
  obtain ⟨a,ha,hfe⟩:=hf
  obtain ⟨v,σ1,I1,η1,r,π1,h1,h4,h5,h6,h7,h8⟩:=h F I η σ env _ a hG hs hr (evsP_sim (hG.any η) hr args) ha
  obtain ⟨M,env',σ',I',η',e',π',k1,k2,k3,k4,k5⟩:=h8 F I1 η1 σ1.bump (put env d v) (hG.le h4.im) h5.bump (rdL_putP h6 _ h7) (.no _ _ _)
  have hn:σ.next < σ1.bump.next:=Nat.lt_succ_of_le h4.next
  have hb:=LB.one ⟨a,evs env args,σ,v,σ1.bump,true⟩ (b:=σ1.bump.next) hn
  have hk:runE (KL (Lone ⟨a,evs env args,σ,v,σ1.bump,true⟩)) env σ (.callv f args)=some (.ret v,σ1.bump):=by
   rw [callv_yld hfe];exact KL_oneY ⟨a,evs env args,σ,v,σ1.bump,true⟩ rfl
  exact ⟨Lcat σ1.bump.next (Lone ⟨a,evs env args,σ,v,σ1.bump,true⟩) M,v,σ1.bump,env',σ',I',η',e',π',(LOK.oneY h1.bump).cat k1 _,hb.cat k2 (Nat.le_of_lt hn) k4.next,
   runE_mono (KL_left hb) hk,runDraw_mono (KL_right k2) k3,Fol.trans (σ1:=σ1.bump) ⟨Nat.le_of_lt hn,h4.fr,h4.im,h4.et⟩ k4,k5⟩
 ·exact h.elim
theorem PDE.pureV {f:Opd} {args:List Opd} {d:Option Nat} {r:PV} {g:FuncId} {x y:List PV} (hp:f.pv C.G e = .fn g x y) (hf:PFun C g (x++(evsP C.G e args++y)) r) (hpl:pureL (x++(evsP C.G e args++y))=true) (h:PDraw C b l fin st (S.filter (freeJ l d)) (putP e d r) π Q):PDE C b l fin st S (.callv f args) d e π Q:=by
 intro F I η σ env hG hs hr hy
 have hfo:=rd_opd (hG.any η) hr f
 rw [hp] at hfo
 simp only [Rd] at hfo
 obtain ⟨xv,yv,hfe,hx,hyv⟩:=hfo
 obtain ⟨v,σ1,I1,h1,⟨h2,h3,h4⟩,h5,h6⟩:=hf.use hpl hG hs (hx.append ((evsP_sim (hG.any η) hr args).append hyv))
 obtain ⟨M,env',σ',I',η',e',π',k1,k2,k3,k4,k5⟩:=h F I1 η σ1.bump (put env d v) (hG.le h3) h5.bump (rdL_putP (hr.mono h3 (Eta.le_refl _)) _ h6) ((hy.congr (σ':=σ1.bump) (Nat.le_succ_of_le (Nat.le_of_lt h2)) fun k hk=>(h4 k hk).1).put d v)
 have hb:=LB.one ⟨g,xv++(evs env args++yv),σ,v,σ1.bump,false⟩ (b:=σ1.bump.next) (Nat.lt_succ_of_lt h2)
 have hk:runE (KL (Lone ⟨g,xv++(evs env args++yv),σ,v,σ1.bump,false⟩)) env σ (.callv f args)=some (.ret v,σ1.bump):=by
  rw [callv_fn hfe];exact KL_one ⟨g,xv++(evs env args++yv),σ,v,σ1.bump,false⟩ rfl
 exact ⟨Lcat σ1.bump.next (Lone ⟨g,xv++(evs env args++yv),σ,v,σ1.bump,false⟩) M,v,σ1.bump,env',σ',I',η',e',π',(LOK.one h1.bump).cat k1 _,hb.cat k2 (Nat.le_succ_of_le (Nat.le_of_lt h2)) k4.next,
  runE_mono (KL_left hb) hk,runDraw_mono (KL_right k2) k3,Fol.trans (σ1:=σ1.bump) ⟨Nat.le_succ_of_le (Nat.le_of_lt h2),fun i hi=>h4 i (hs.fn i hi),h3,fun _ _=>rfl⟩ k4,k5⟩
end
def noRange:ICode→Bool
 | .seq a c=>noRange a && noRange c
 | .cond _ a c=>noRange a && noRange c
 | .block _ a=>noRange a
 | .loop a=>noRange a
 | .rangeF _ _ _ _=>false
 | _=>true
def setPsP:List PV→List Nat→List PV→Option (List PV)
 | e,[],[]=>some e
 | e,p::ps,v::vs=>setPsP (setP e p v) ps vs
 | _,_,_=>none
section
variable {C:Ctx} {F:Nat→Prop} {I:Img} {η:Eta} {π:PW} {σ:AW}
def yEnd (σ2:AW) (a:Nat) (r2:ALoop):IExit→Option (IRet × AW)
 | .normal=>some (.ret (.bool true),setLoop σ2 a {r2 with state:=.ready,pending:=none })
 | .exit i=>some (.ret (.bool false),setLoop σ2 a {r2 with state:=.done,pending:=some (.exit i) })
 | .ret=>some (.ret (.bool false),setLoop σ2 a {r2 with state:=.done,pending:=some .ret })
 | _=>none
end
end Go.Proofs.YtnpoloachkcadaaGreatDoor.Ai
namespace Go.Proofs.YtnpoloachkcadaaGreatDoor.Ai
open Go
set_option linter.unusedSimpArgs false
set_option linter.unusedVariables false
section
variable {C:Ctx} {F:Nat→Prop} {I:Img} {η:Eta} {π:PW} {σ:AW}
theorem SRel.pushX (hs:SRel F I η π σ) (bk:Blk):SRel F I η π {next:=σ.next + 1,heap:=σ.heap.set σ.next bk }:=by
 have hget:∀ k,(σ.heap.set σ.next bk).get k=if k=σ.next then some bk else σ.heap.get k:=fun k=>Tr.get_set _ _ _ _ (Nat.lt_succ_self _)
 constructor
 ·intro k c hk
  dsimp only at hk ⊢
  rw [hget] at hk
  split at hk
  ·omega
  ·exact Nat.lt_succ_of_lt (hs.hn k c hk)
 ·exact fun i hi=>Nat.lt_succ_of_lt (hs.fn i hi)
 ·exact hs.fo
 ·intro k us hk
  obtain ⟨g1,c,g2,g3⟩:=hs.img k us hk
  refine ⟨Nat.lt_succ_of_lt g1,c,?_,g3⟩
  dsimp only
  rw [hget,if_neg (by omega)];exact g2
 ·exact hs.fresh
 ·intro j o hj
  obtain ⟨c,bc,g1,g2,g3,g4⟩:=hs.obj j o hj
  refine ⟨c,bc,g1,Nat.lt_succ_of_lt g2,?_,g4⟩
  dsimp only
  rw [hget,if_neg (by omega)];exact g3
 ·exact hs.inj
 ·exact hs.sep
 ·intro j cs ty esz ex ret al c bc hj hc hbc k hk
  obtain ⟨c',bc',q1,q2,q3,_⟩:=hs.obj j _ hj
  rw [hc] at q1;cases q1
  dsimp only at hbc
  rw [hget,if_neg (by omega)] at hbc
  obtain ⟨g1,g2,g3,g4⟩:=hs.al j _ _ _ _ _ _ _ _ hj hc hbc k hk
  refine ⟨Nat.lt_succ_of_lt g1,g2,fun hf=>?_,g4⟩
  dsimp only
  rw [hget,if_neg (by omega)];exact g3 hf
theorem SRel.drop (hs:SRel F I η π σ) (l:List Nat):SRel F I η {π with heap:=killO l π.heap } σ:=by
 have hlk:∀ j o',look (killO l π.heap) j=some o'→j∉l∧look π.heap j=some o':=by
  intro j o' hj
  rw [look_killO] at hj
  split at hj
  ·simp at hj
  ·rename_i h;exact ⟨h,hj⟩
 exact ⟨hs.hn,hs.fn,fun j o a hj=>hs.fo j o a (hlk j o hj).2,hs.img,hs.fresh,fun j o hj=>hs.obj j o (hlk j o hj).2,fun j k oj ok a hj hk=>hs.inj j k oj ok a (hlk j _ hj).2 (hlk k _ hk).2,fun j o a hj=>hs.sep j o a (hlk j o hj).2,
  fun j cs ty esz ex ret al a b hj ha hb i hi=>by
   obtain ⟨g1,g2,g3,g4⟩:=hs.al j _ _ _ _ _ _ _ _ (hlk j _ hj).2 ha hb i hi
   exact ⟨g1,g2,g3,fun m o hm hcm=>g4 m o (hlk m o hm).2 hcm⟩⟩
theorem SRel.setX (hs:SRel F I η π σ) {a:Nat} (ho:∀ j o,look π.heap j=some o→η j ≠ some a) (hI:I a=Option.none) (hF:¬ F a) (han:a < σ.next) (bk:Blk):SRel F I η π {σ with heap:=σ.heap.set a bk }:=by
 have hget:∀ k,(σ.heap.set a bk).get k=if k=a then some bk else σ.heap.get k:=fun k=>Tr.get_set _ _ _ _ (Nat.lt_succ_self _)
 constructor
 ·intro k c hk
  dsimp only at hk ⊢
  rw [hget] at hk
  split at hk
  ·omega
  ·exact hs.hn k c hk
 ·exact hs.fn
 ·exact hs.fo
 ·intro k us hk
  obtain ⟨g1,c,g2,g3⟩:=hs.img k us hk
  refine ⟨g1,c,?_,g3⟩
  dsimp only
  rw [hget,if_neg (fun e=>by subst e;rw [hI] at hk;simp at hk)];exact g2
 ·exact hs.fresh
 ·intro j o hj
  obtain ⟨c,bc,g1,g2,g3,g4⟩:=hs.obj j o hj
  refine ⟨c,bc,g1,g2,?_,g4⟩
  dsimp only
  rw [hget,if_neg (fun e=>by subst e;exact ho j o hj g1)];exact g3
 ·exact hs.inj
 ·exact hs.sep
 ·intro j cs ty esz ex ret al c bc hj hc hbc k hk
  dsimp only at hbc
  rw [hget,if_neg (fun e=>by subst e;exact ho j _ hj hc)] at hbc
  obtain ⟨g1,g2,g3,g4⟩:=hs.al j _ _ _ _ _ _ _ _ hj hc hbc k hk
  refine ⟨g1,g2,fun hf=>?_,g4⟩
  dsimp only
  rw [hget,if_neg (fun e=>by subst e;exact hF hf)];exact g3 hf
def exitOf:Option IExit→IExit
 | some (.exit i)=>.exit i
 | some .ret=>.ret
 | _=>.normal
theorem PRun.range {b:Nat} {f:Opd} {ps:List Nat} {as bo:ICode} {t:List PV} {Q:IExit→List PV→PW→Prop} (hb:b≤π.next)
  (h:Gh C b (.yld π.next::f.pv C.G t::t) (π.push (.loop .ready none t ps as bo)) fun e1 π1=>∃ l1 g x y t1 B,e1 = .yld l1::.fn g x y::t1∧b≤B∧l1 < B∧nmL B t1=true∧
   PToB C B g (x++([.yld l1]++y)) π1 fun _ π2=>∃ st pd tm,look π2.heap l1=some (.loop st pd tm ps as bo)∧st ≠ .busy∧Gh C b t1 {π2 with heap:=killO [l1] π2.heap } (Q (exitOf pd))) :
  PRun C b (.rangeF f ps as bo) t π Q:=by
 intro F I η σ env hG hs hr
 have hf0:=rd_opd (hG.any η) hr f
 have hsa0:=hs.pushX (.deferred false)
 have hget1:∀ k,(σ.heap.set σ.next (.deferred false)).get k=if k=σ.next then some (.deferred false) else σ.heap.get k:=fun k=>Tr.get_set _ _ _ _ (Nat.lt_succ_self _)
 have hlt:∀ j o a,look π.heap j=some o→η j=some a→a < σ.next:=by
  intro j o a hj ha
  obtain ⟨a',_,ha',hl,_⟩:=hs.obj j o hj
  rw [ha] at ha';cases ha';exact hl
 have hsa:SRel (FD F [σ.next]) I η π {next:=σ.next + 1,heap:=σ.heap.set σ.next (.deferred false) }:=by
  refine ⟨hsa0.hn,fun i hi=>?_,fun j o a hj ha hf=>?_,hsa0.img,hsa0.fresh,hsa0.obj,hsa0.inj,hsa0.sep,fun j cs ty esz ex ret al a b hj ha hb i hi=>?_⟩
  ·rcases hi with hi | hi
   ·exact hsa0.fn i hi
   ·simp at hi;subst hi;exact Nat.lt_succ_self _
  ·rcases hf with hf | hf
   ·exact hsa0.fo j o a hj ha hf
   ·simp at hf;have:=hlt j o a hj ha;omega
  ·obtain ⟨g1,g2,g3,g4⟩:=hsa0.al j _ _ _ _ _ _ _ _ hj ha hb i hi
   refine ⟨g1,g2,fun hf=>?_,g4⟩
   rcases hf with hf | hf
   ·exact g3 hf
   ·simp at hf
    have hl:=hlt j _ a hj ha
    have hb':σ.heap.get a=some (.cells b):=by
     have:=hb
     dsimp only at this
     rwa [hget1,if_neg (by omega)] at this
    have:=(hs.al j _ _ _ _ _ _ _ _ hj ha hb' i hi).1
    omega
 have hsb:=push_sim hsa (o:=.loop .ready none t ps as bo) (b:=.loop {state:=.ready,pending:=none,tmps:=env.tmps,params:=ps,assign:=as,body:=bo,defers:=σ.next }) ⟨rfl,rfl,hr,rfl,rfl,rfl⟩ (fun c hc=>by simp at hc)
 dsimp only at hsb
 have hle:=ext_le hs (σ.next + 1)
 have hr1:RdL I (η.ext π.next (σ.next + 1)) (.yld π.next::f.pv C.G t::t) (.func (.yield (σ.next + 1)) #[] #[]::f.ev env.tmps::env.tmps):=by
  simp only [RdL]
  exact ⟨by simp [Rd,Eta.ext],hf0.mono (Img.le_refl _) hle,hr.mono (Img.le_refl _) hle⟩
 obtain ⟨I1,η1,e1,π1,f0,s1,r1,l1,g,x,y,t1,B,rfl,hbB,hl1B,hnm,hto⟩:=h _ _ _ _ _ hG hsb hr1
 simp only [RdL] at r1
 obtain ⟨ry,rf,rt⟩:=r1
 simp only [Rd] at ry rf
 obtain ⟨a1,ha1,hy1⟩:=ry
 have:a1=σ.next + 1:=by simpa using hy1.symm
 subst this
 obtain ⟨xv,yv,hfe,hx,hyv⟩:=rf
 obtain ⟨v,σ2,I2,η2,r,π2,c1,f2,s2,_,st,pd,tm,hl2,hst,hgh⟩:=hto _ _ _ _ (xv++([.func (.yield (σ.next + 1)) #[] #[]]++yv)) (hG.le f0.im) s1 (hx.append (RdL.append (by simp only [RdL];exact ⟨by simp only [Rd];exact ⟨_,ha1,rfl⟩,trivial⟩) hyv))
 have ha2:η2 l1=some (σ.next + 1):=by rw [f2.et l1 hl1B];exact ha1
 obtain ⟨a',bk,ha',hln,hbk,ho⟩:=s2.obj l1 _ hl2
 rw [ha2] at ha';cases ha'
 cases bk <;> simp only [ORd] at ho
 rename_i r2
 have rt2:RdL I2 η2 t1 env.tmps:=(rt.names f2.et hnm).mono f2.im (Eta.le_refl _)
 have hF2:=s2.fo l1 _ _ hl2 ha2
 have s3:SRel (FD F [σ.next]) I2 η2 {π2 with heap:=killO [l1] π2.heap } (setLoop σ2.bump (σ.next + 1) {r2 with state:=.exhausted }):=by
  refine (s2.bump.drop [l1]).setX (fun j o hj hjl=>?_) (s2.sep l1 _ _ hl2 ha2) hF2 (Nat.lt_succ_of_lt hln) _
  dsimp only at hj
  rw [look_killO] at hj
  split at hj
  ·simp at hj
  ·rename_i hne
   simp at hne
   exact hne (s2.inj j l1 _ _ _ hj hl2 hjl ha2)
 obtain ⟨I3,η3,t3,π3,f3,s4,r4,hQ⟩:=hgh _ _ _ _ _ ((hG.le f0.im).le f2.im) s3 rt2
 have hgl:∀ k,(setLoop σ2.bump (σ.next + 1) {r2 with state:=.exhausted }).heap.get k=if k=σ.next + 1 then some (.loop {r2 with state:=.exhausted }) else σ2.heap.get k:=fun k=>Tr.get_set _ _ _ _ (Nat.lt_succ_self _)
 have hget2:∀ k,((σ.heap.set σ.next (.deferred false)).set (σ.next + 1) (.loop {state:=.ready,pending:=none,tmps:=env.tmps,params:=ps,assign:=as,body:=bo,defers:=σ.next })).get k=if k=σ.next + 1 then some (.loop {state:=.ready,pending:=none,tmps:=env.tmps,params:=ps,assign:=as,body:=bo,defers:=σ.next }) else if k=σ.next then some (.deferred false) else σ.heap.get k:=by
  intro k;rw [Tr.get_set _ _ _ _ (Nat.lt_succ_self _),hget1]
 let σb:AW:={next:=σ.next + 1 + 1,heap:=(σ.heap.set σ.next (.deferred false)).set (σ.next + 1) (.loop {state:=.ready,pending:=none,tmps:=env.tmps,params:=ps,assign:=as,body:=bo,defers:=σ.next }) }
 have hnn:σb.next≤σ2.next:=f2.next
 refine ⟨Lone ⟨g,xv++([.func (.yield (σ.next + 1)) #[] #[]]++yv),σb,v,σ2.bump,false⟩,1,exitOf pd,{env with dfs:=[σ.next]++env.dfs },setLoop σ2.bump (σ.next + 1) {r2 with state:=.exhausted },.one c1.bump,?_,?_,I3,η3,t3,π3,[σ.next],?_,rfl,by simp,?_,s4,r4,hQ⟩
 ·intro n E hE
  simp only [Lone] at hE
  split at hE
  ·rename_i hn
   subst hn
   have h1:σb.next=σ.next + 1 + 1:=rfl
   have h2:(setLoop σ2.bump (σ.next + 1) {r2 with state:=.exhausted }).next=σ2.next + 1:=rfl
   omega
  ·simp at hE
 ·have hk:callV (KL (Lone ⟨g,xv++([.func (.yield (σ.next + 1)) #[] #[]]++yv),σb,v,σ2.bump,false⟩)) (f.ev env.tmps) [.func (.yield (σ.next + 1)) #[] #[]] σb=some (.ret v,σ2.bump):=by
   rw [hfe]
   exact KL_one ⟨g,xv++([.func (.yield (σ.next + 1)) #[] #[]]++yv),σb,v,σ2.bump,false⟩ rfl
  have hbk':σ2.bump.heap.get (σ.next + 1)=some (.loop r2):=hbk
  simp only [evC,startOf,AW.push,most,Nat.lt_succ_self,if_true,Option.map_some,Option.bind_some]
  rw [show (callV (KL (Lone ⟨g,xv++([.func (.yield (σ.next + 1)) #[] #[]]++yv),σb,v,σ2.bump,false⟩)) (f.ev env.tmps) [.func (.yield (σ.next + 1)) #[] #[]] {next:=σ.next + 1 + 1,heap:=(σ.heap.set σ.next (.deferred false)).set (σ.next + 1) (.loop {state:=.ready,pending:=none,tmps:=env.tmps,params:=ps,assign:=as,body:=bo,defers:=σ.next }) }:Option (IRet × AW))=some (.ret v,σ2.bump) from hk]
  dsimp only
  rw [hbk']
  dsimp only
  have hst2:¬ (r2.state == .busy)=true:=by
   rw [ho.1];intro hh;apply hst;cases st <;> first | rfl | cases hh
  rw [if_neg hst2,ho.2.1]
  cases pd with
  | none=>rfl
  | some x=>cases x <;> rfl
 ·refine Fol.trans (σ1:=σb) (I1:=I1) (η1:=η1) ⟨by show σ.next≤σ.next + 1 + 1;omega,fun i hi=>⟨?_,(f0.fr i (.inl hi)).2⟩,f0.im,fun j hj=>?_⟩ ?_
  ·have:=hs.fn i hi
   show ((σ.heap.set σ.next (.deferred false)).set (σ.next + 1) _).get i=_
   rw [hget2,if_neg (by omega),if_neg (by omega)]
  ·rw [f0.et j hj];simp only [Eta.ext];rw [if_neg (by omega)]
  ·refine Fol.trans (σ1:=setLoop σ2.bump (σ.next + 1) {r2 with state:=.exhausted }) (I1:=I2) (η1:=η2) ⟨Nat.le_succ_of_le hnn,fun i hi=>⟨?_,(f2.fr i (.inl hi)).2⟩,f2.im,fun j hj=>f2.et j (by omega)⟩ ⟨f3.next,fun i hi=>f3.fr i (.inl hi),f3.im,f3.et⟩
   have:=hs.fn i hi
   rw [hgl,if_neg (by omega)];exact (f2.fr i (.inl hi)).1
 ·intro d hd
  simp at hd;subst hd
  refine ⟨fun hf=>by have:=hs.fn _ hf;omega,?_⟩
  rw [hgl,if_neg (by omega),(f2.fr σ.next (.inr (by simp))).1]
  show ((σ.heap.set σ.next (.deferred false)).set (σ.next + 1) _).get σ.next=_
  rw [hget2,if_neg (by omega),if_pos rfl]
end
end Go.Proofs.YtnpoloachkcadaaGreatDoor.Ai
namespace Go.Proofs.YtnpoloachkcadaaGreatDoor.Ai
theorem cut0 {l:List PV}:cutP 0 l=some []:=by simp [cutP]
theorem cutS {n:Nat} {a:PV} {l:List PV}:cutP (n + 1) (a::l)=(cutP n l).map (a::·):=by
 unfold cutP
 by_cases h:n≤l.length
 ·rw [if_pos h,if_pos (by simpa using h)];rfl
 ·rw [if_neg h,if_neg (by simpa using h)];rfl
end Go.Proofs.YtnpoloachkcadaaGreatDoor.Ai
namespace Go.Proofs.YtnpoloachkcadaaGreatDoor.Ai
open Go
set_option linter.unusedSimpArgs false
set_option linter.unusedVariables false
theorem ba_loop (bs:ByteArray):∀ (i:Nat) (r:List UInt8),ByteArray.toList.loop bs i r=r.reverse++bs.data.toList.drop i:=by
 intro i r
 induction h:bs.size - i generalizing i r with
 | zero=>
  unfold ByteArray.toList.loop
  have:¬ i < bs.size:=by omega
  rw [if_neg this,List.drop_eq_nil_of_le (by simp;exact Nat.le_of_not_lt this),List.append_nil]
 | succ n ih=>
  unfold ByteArray.toList.loop
  have hi:i < bs.size:=by omega
  rw [if_pos hi,ih (i + 1) _ (by omega)]
  have hl:i < bs.data.toList.length:=by simpa using hi
  rw [List.drop_eq_getElem_cons hl]
  have:bs.get! i=bs.data.toList[i]:=by
   simp [ByteArray.get!,getElem!_pos,hi]
  rw [this];simp
theorem ba_toList (bs:ByteArray):bs.toList=bs.data.toList:=by
 unfold ByteArray.toList;rw [ba_loop];simp
theorem ba_ext {a b:ByteArray} (h:a.data.toList=b.data.toList):a=b:=by
 obtain ⟨⟨a⟩⟩:=a;obtain ⟨⟨b⟩⟩:=b;simp at h;rw [h]
theorem ba_size (s:ByteArray):s.data.toList.length=s.size:=by simp
open Classical in
noncomputable def eqS (a b:ByteArray):Bool:=decide (a=b)
open Classical in
noncomputable def neS (a b:ByteArray):Bool:=decide (a ≠ b)
theorem eqS_t {a b:ByteArray} (h:a=b):eqS a b=true:=by simp [eqS,h]
theorem eqS_f {a b:ByteArray} (h:a ≠ b):eqS a b=false:=by simp [eqS,h]
theorem neS_t {a b:ByteArray} (h:a ≠ b):neS a b=true:=by simp [neS,h]
theorem neS_f {a b:ByteArray} (h:a=b):neS a b=false:=by simp [neS,h]
theorem beq_toList (a b:ByteArray):(a.toList == b.toList)=eqS a b:=by
 rw [ba_toList,ba_toList]
 by_cases h:a=b
 ·rw [eqS_t h,h];simp
 ·rw [eqS_f h]
  have:a.data.toList ≠ b.data.toList:=fun e=>h (ba_ext e)
  simpa using this
theorem bi_eqlS {a b:ByteArray}:bin .eql (.string a) (.string b)=some (.bool (eqS a b)):=by simp only [bin,binStr,beq_toList]
theorem bi_neqS {a b:ByteArray}:bin .neq (.string a) (.string b)=some (.bool (neS a b)):=by
 simp only [bin,binStr,beq_toList]
 by_cases h:a=b
 ·rw [eqS_t h,neS_f h];rfl
 ·rw [eqS_f h,neS_t h];rfl
theorem bi_addS {a b:ByteArray} (h:a.size + b.size < 9223372036854775808):bin .add (.string a) (.string b)=some (.string (a++b)):=by
 simp only [bin,binStr]
 rw [if_neg (by simp [IntKind.max,IntKind.signed,IntKind.bits];omega)]
theorem idx_some {s:ByteArray} {i:Nat} (h:i < s.size):s[i]? = some s[i]:=getElem?_pos s i h
theorem pv_f {G:PG} {e:List PV} {f:FuncId}:Opd.pv G e (.c (.func (.func f) #[] #[])) = .fn f [] []:=rfl
end Go.Proofs.YtnpoloachkcadaaGreatDoor.Ai
namespace Go.Proofs.YtnpoloachkcadaaGreatDoor.Ai
open Go
set_option linter.unusedSimpArgs false
set_option linter.unusedVariables false
def Bs.in (N:Bs) (w:World):Prop:=N.n≤w.heap.size∧∀ B,B < N.n→w.heap[B]? = N.h B
def onDE (o:Option (PV × PW)) (C:Ctx) (b:Nat) (l:List IOper) (fin:DStage) (st:List DStage) (d:Option Nat) (e:List PV) (Q:List PV→PW→Prop):Prop:=
 match o with
 | some (r,π')=>PDraw C b l fin st [] (putP e d r) π' Q
 | none=>False
section
variable {C:Ctx} {b:Nat} {l:List IOper} {fin:DStage} {st:List DStage} {S:List Nat} {e:List PV} {π:PW} {Q:List PV→PW→Prop}
theorem onDE_s {r:PV} {π':PW} {d:Option Nat}:onDE (some (r,π')) C b l fin st d e Q=PDraw C b l fin st [] (putP e d r) π' Q:=propext Iff.rfl
theorem PDE.ev {q:EOp} {d:Option Nat} (hb:b≤π.next) (h:onDE (pevE C.G e π q) C b l fin st d e Q):PDE C b l fin st S q d e π Q:=by
 unfold onDE at h
 split at h
 ·rename_i r π' hp
  exact PDE.any hb (PE.det hp h)
 ·exact h.elim
end
theorem PToB.of_body {C:Ctx} (hm:C.P.follows .mixedOrders=true) {tab:Tr IFunc} (hC:TabOK C.P C.ng C.ts tab) {f:FuncId} {ifn:IFunc} (hf:tab.get f=some ifn) {b:Nat} {args:List PV} {π:PW} {A:PV→PW→Prop}
  (h:PRun C b ifn.body (startP ifn args) π fun x t π'=>(x = .normal∨x = .ret)∧Gh C b t π' fun t π'=>∃ rs,resPs t π' ifn.results=some rs∧A (tupP rs) π'):PToB C b f args π A:=by
 intro F I η σ vargs hG hs hr
 have hlen:=hr.length
 have h':PRun C b ifn.body (startP ifn args) π fun x t π'=>(x = .normal∨x = .ret)∧∃ rs,resPs t π' ifn.results=some rs∧A (tupP rs) π':=
  PRun.after (h.mono fun x t π hx=>hx.2.mono fun t π ha=>⟨hx.1,ha⟩)
 obtain ⟨L,n,x,env',σ1,h1,h2,h3,I',η',t',π',D,h4,h5,h6,h7,h8,h9,hx,rs,h10,h11⟩:=h' F I η σ {tmps:=vargs++List.replicate (ifn.ntmps - vargs.length) undef,dfs:=[] } hG hs
  (by unfold startP;rw [hlen];exact hr.append (rdL_replicate _ _))
 obtain ⟨σ',d1,d2,d3,d4⟩:=runDfs_some h6 (fun d hd=>(h7 d hd).2) h8
 obtain ⟨vs,hvs,hrs⟩:=resPs_sim d4 h9 h10
 have hrun:=CRun.of_evC (rnd:=none) hm (KL_sound h1) h3
 refine ⟨tupleOf vs,σ',I',η',tupP rs,π',CTo.of_body hC hf hrun hx (by rw [h5];simpa using d1) hvs,⟨by have:=h4.next;omega,fun i hi=>⟨?_,(h4.fr i hi).2⟩,h4.im,h4.et⟩,d4,tupP_sim hrs,h11⟩
 rw [d3 i (fun hd=>(h7 i hd).1 hi)];exact (h4.fr i hi).1
end Go.Proofs.YtnpoloachkcadaaGreatDoor.Ai
namespace Go.Proofs.YtnpoloachkcadaaGreatDoor.Ai
open Go
set_option linter.unusedSimpArgs false
set_option linter.unusedVariables false
structure Op (P:Program) (ng:Nat) (ts:List TypeId) (W:World) (σ:AW) (μ:Nat→Loc) (I:Img):Prop where
 rep:Rep P ng ts (Bs.of W) μ σ W
 ro:∀ i b,σ.heap.get i=some b→isRo b=true
 rel:SRel (fun _=>False) I noE .none σ
structure OLe (σ:AW) (μ:Nat→Loc) (I:Img) (σ':AW) (μ':Nat→Loc) (I':Img):Prop where
 n:σ.next≤σ'.next
 m:∀ i,i < σ.next→μ' i=μ i
 i:I.le I'
section
variable {P:Program} {ng:Nat} {ts:List TypeId} {W:World} {σ σ1 σ2:AW} {μ μ1 μ2:Nat→Loc} {I I1 I2:Img}
theorem OLe.refl:OLe σ μ I σ μ I:=⟨Nat.le_refl _,fun _ _=>rfl,Img.le_refl _⟩
theorem OLe.trans (h:OLe σ μ I σ1 μ1 I1) (k:OLe σ1 μ1 I1 σ2 μ2 I2):OLe σ μ I σ2 μ2 I2:=
 ⟨Nat.le_trans h.n k.n,fun i hi=>(k.m i (Nat.lt_of_lt_of_le hi h.n)).trans (h.m i hi),Img.le_trans h.i k.i⟩
def viewB (us:List Value):CB:={cs:=us,ty:=0,esz:=1,ro:=true,exact:=true,retired:=false,frozen:=true,al:=[] }
theorem Op.add (h:Op P ng ts W σ μ I) {blk off:Nat} {us:List Value} (hl:ltL σ.next us=true) (hC:∃ C t fr,W.heap[blk]? = some (.cells C t fr)∧off + us.length≤C.size∧∀ k v,us[k]? = some v→C[off + k]? = some (conc μ v)) :
  Op P ng ts W {next:=σ.next + 1,heap:=σ.heap.set σ.next (.cells (viewB us)) } (upd μ σ.next ⟨blk,off,0⟩) (I.set σ.next us)∧
   OLe σ μ I {next:=σ.next + 1,heap:=σ.heap.set σ.next (.cells (viewB us)) } (upd μ σ.next ⟨blk,off,0⟩) (I.set σ.next us):=by
 have hget:∀ k,(σ.heap.set σ.next (.cells (viewB us))).get k=if k=σ.next then some (.cells (viewB us)) else σ.heap.get k:=fun k=>Tr.get_set _ _ _ _ (Nat.lt_succ_self _)
 have hagr:∀ k,k < σ.next→upd μ σ.next ⟨blk,off,0⟩ k=μ k:=fun k hk=>upd_ne _ _ (by omega)
 have hlt:∀ k c,σ.heap.get k=some c→k < σ.next:=fun k c hk=>(h.rep.blk k c hk).1
 have hI0:I σ.next=none:=by
  cases hI:I σ.next with
  | none=>rfl
  | some vs=>exact absurd (h.rel.img _ vs hI).1 (by omega)
 have hro:∀ i b,(σ.heap.set σ.next (.cells (viewB us))).get i=some b→isRo b=true:=by
  intro i b hi
  rw [hget] at hi
  split at hi
  ·simp only [Option.some.injEq] at hi;subst hi;rfl
  ·exact h.ro i b hi
 obtain ⟨C,t,fr,c1,c2,c3⟩:=hC
 refine ⟨⟨⟨⟨fun g hg=>?_⟩,?_,?_,?_,?_,?_,?_,h.rep.big⟩,hro,?_⟩,⟨Nat.le_succ _,hagr,Img.le_set hI0⟩⟩
 ·rw [hagr g (Nat.lt_of_lt_of_le hg h.rep.ngn)];exact h.rep.glob.out g hg
 ·have:=h.rep.ngn;simp only;omega
 ·intro k c hk
  dsimp only at hk ⊢
  rw [hget] at hk
  split at hk
  ·rename_i e;subst e
   simp only [Option.some.injEq] at hk;subst hk
   have hμ:upd μ σ.next ⟨blk,off,0⟩ σ.next=⟨blk,off,0⟩:=upd_same _ _ _
   refine ⟨Nat.lt_succ_self _,Nat.lt_succ_self _,⟨ltL_mono (Nat.le_succ _) _ hl,fun _=>by rw [hμ],fun _ hh=>by simp [viewB] at hh,fun hh=>by simp [viewB] at hh,C,t,fr,by rw [hμ];exact c1,fun hh=>by simp [viewB] at hh,by rw [hμ];exact c2,fun k v hk=>?_⟩⟩
   rw [hμ,c3 k v hk,conc_congr hagr v (ltL_getElem hl hk)]
  ·obtain ⟨h1,h2,h3⟩:=h.rep.blk k c hk
   exact ⟨Nat.lt_succ_of_lt h1,h2,h3.mono hagr h1 (Nat.le_succ _) rfl⟩
 ·intro i b hi hr;rw [hro i b hi] at hr;simp at hr
 ·intro i b hi _
  dsimp only at hi
  rw [hget] at hi
  split at hi
  ·rename_i e;subst e
   rw [upd_same]
   exact (Array.getElem?_eq_some_iff.1 c1).1
  ·rw [hagr i (hlt i b hi)];exact h.rep.ro i b hi (h.ro i b hi)
 ·intro i j bi bj hi _ hr;rw [hro i bi hi] at hr;simp at hr
 ·intro j cj hj i hi
  dsimp only at hj
  rw [hget] at hj
  split at hj
  ·simp only [Option.some.injEq,Blk.cells.injEq] at hj;subst hj;simp [viewB] at hi
  ·rename_i hne
   obtain ⟨h1,h2⟩:=h.rep.al j cj hj i hi
   refine ⟨h1,fun bi hbi=>h2 bi ?_⟩
   dsimp only at hbi
   rw [hget,if_neg (by have:=hlt j _ hj;omega)] at hbi;exact hbi
 ·refine ⟨fun i b hi=>?_,fun i hi=>hi.elim,fun j o a hj=>by simp [PW.none,look] at hj,fun i vs hi=>?_,fun j a ha=>by simp at ha,fun j o hj=>by simp [PW.none,look] at hj,fun j k oj ok a hj=>by simp [PW.none,look] at hj,
   fun j o a hj=>by simp [PW.none,look] at hj,fun j cs ty esz ex ret al a b hj=>by simp [PW.none,look] at hj⟩
  ·dsimp only at hi ⊢
   rw [hget] at hi
   split at hi
   ·omega
   ·exact Nat.lt_succ_of_lt (hlt i b hi)
  ·simp only [Img.set] at hi
   split at hi
   ·rename_i e;subst e
    simp at hi;subst hi
    exact ⟨Nat.lt_succ_self _,viewB us,by dsimp only;rw [hget,if_pos rfl],rfl,rfl,fun _=>rfl⟩
   ·rename_i e
    obtain ⟨g1,b,g2,g3,g4,g5⟩:=h.rel.img i vs hi
    exact ⟨Nat.lt_succ_of_lt g1,b,by dsimp only;rw [hget,if_neg (by omega)];exact g2,g3,g4,fun hx=>g5 (by simpa [Img.set,e] using hx)⟩
theorem Op.skip (h:Op P ng ts W σ μ I) (l:Loc):Op P ng ts W σ.bump (upd μ σ.next l) I∧OLe σ μ I σ.bump (upd μ σ.next l) I:=by
 have hagr:∀ k,k < σ.next→upd μ σ.next l k=μ k:=fun k hk=>upd_ne _ _ (by omega)
 have h1:Rep P ng ts (Bs.of W) (upd μ σ.next l) σ W:=h.rep.agrμ hagr
 exact ⟨⟨h1.bump,h.ro,h.rel.bump⟩,⟨Nat.le_succ _,hagr,Img.le_refl _⟩⟩
def Opens (P:Program) (ng:Nat) (ts:List TypeId) (W:World) (σ:AW) (μ:Nat→Loc) (I:Img) (vs:List Value) (ps:List PV):Prop:=
 ∃ σ' μ' I' us,Op P ng ts W σ' μ' I'∧OLe σ μ I σ' μ' I'∧concL μ' us=vs∧RdL I' noE ps us∧ltL σ'.next us=true
end
end Go.Proofs.YtnpoloachkcadaaGreatDoor.Ai
namespace Go.Proofs.YtnpoloachkcadaaGreatDoor.Ai
open Go
set_option linter.unusedSimpArgs false
set_option linter.unusedVariables false
section
variable {P:Program} {ng:Nat} {ts:List TypeId} {W:World}
theorem LaidAt.in {C:Ctx} {μ0:Nat→Loc} {w:World} {n:Nat} {x:Nat × TypeId × List Value} (hN:C.N0=Bs.of W) (h:LaidAt ng μ0 W n x) (hw:C.N0.in w):LaidAt ng μ0 w n x:=by
 obtain ⟨h1,h2,h3,h4,t,fr,h5⟩:=h
 refine ⟨h1,h2,h3,h4,t,fr,?_⟩
 have hlt:x.1 < C.N0.n:=by rw [hN];exact (Array.getElem?_eq_some_iff.1 h5).1
 rw [hw.2 _ hlt,hN];exact h5
theorem PFun.atStart {C:Ctx} {f:FuncId} {l:List (Nat × TypeId × List Value)} {n:Nat} {v:Value} {σf:AW} (hn:C.ng≤n) (hv:lt 0 v=true) (h:∀ N0,CTo C.P C.ng C.ts N0 f [] (known n l) v σf)
  (hl:∀ w,C.N0.in w→∃ μ0,Glob C.ng μ0∧∀ x∈l,LaidAt C.ng μ0 w n x):PFun C f [] (.lit v):=by
 intro F I σ vargs hG hs hr
 have:vargs=[]:=by cases vargs with
  | nil=>rfl
  | cons a b=>simp [RdL] at hr
 subst this
 refine ⟨v,σ,I,⟨(h C.N0).fn,fun {μ w} hrep _ c cs=>?_⟩,.refl,hs,rd_mk hv⟩
 obtain ⟨μ0,hg0,hl0⟩:=hl w hrep.big
 obtain ⟨hk,hro⟩:=known_at (P:=C.P) (ng:=C.ng) (ts:=C.ts) hg0 w hn hl0
 obtain ⟨μ',w',r1,g1,h3,h4⟩:=(h (Bs.of w)).ok hk (by simp [ltL]) c cs
 have hkeep:∀ B,B < w.heap.size→w'.heap[B]? = w.heap[B]?:=fun B hB=>g1.keep B hB fun i b hb hr=>by rw [hro i b hb] at hr;simp at hr
 refine ⟨μ,w',hrep.older g1.size hkeep,⟨Nat.le_refl _,fun _ _=>rfl,g1.os,g1.tape,g1.output,g1.size,fun B hB _=>hkeep B hB,fun i b hb hr=>.inr ⟨i,b,hb,hr,rfl⟩⟩,lt_mono (Nat.zero_le _) _ hv,?_⟩
 have e1:concL μ0 ([]:List Value)=[]:=rfl
 have e2:concL μ ([]:List Value)=[]:=rfl
 simp only [e1] at h4
 simp only [e2]
 rw [conc_zero _ _ hv] at h4 ⊢
 exact h4
def imgK (σ:AW):Img:=⟨fun i=>match σ.heap.get i with
 | some (.cells b)=>some b.cs
 | _=>none,fun _=>False⟩
theorem imgK_known {n:Nat} {l:List (Nat × TypeId × List Value)} (hl:∀ x∈l,x.1 < most x.1) {i:Nat} {vs:List Value} (h:imgK (known n l) i=some vs):∃ x∈l,x.1=i∧x.2.2=vs∧(known n l).heap.get i=some (.cells (tabB x)):=by
 simp only [imgK] at h
 split at h
 ·rename_i b hb
  obtain ⟨x,hx,h1,h2⟩:=known_get hl i _ hb
  simp only [Option.some.injEq,Blk.cells.injEq] at h h2
  subst h2
  exact ⟨x,hx,h1,h,hb⟩
 ·simp at h
theorem Op.known {n:Nat} {l:List (Nat × TypeId × List Value)} (hn:ng≤n) (hl:∀ x∈l,Laid W n x):Op P ng ts W (known n l) (fun i=>⟨i,0,0⟩) (imgK (known n l)):=by
 obtain ⟨h1,h2⟩:=known_rep (P:=P) (ng:=ng) (ts:=ts) W hn hl
 have hlm:∀ x∈l,x.1 < most x.1:=fun x hx=>(hl x hx).lm
 refine ⟨h1,h2,⟨fun i b hb=>(h1.blk i b hb).1,fun i hi=>hi.elim,fun j o a hj=>by simp [PW.none,look] at hj,fun i vs hi=>?_,fun j a ha=>by simp at ha,fun j o hj=>by simp [PW.none,look] at hj,
  fun j k oj ok a hj=>by simp [PW.none,look] at hj,fun j o a hj=>by simp [PW.none,look] at hj,fun j cs ty esz ex ret al a b hj=>by simp [PW.none,look] at hj⟩⟩
 obtain ⟨x,hx,e1,e2,e3⟩:=imgK_known hlm hi
 exact ⟨(h1.blk i _ e3).1,tabB x,e3,e2,rfl,fun h=>False.elim h⟩
theorem Opens.calls {C:Ctx} (hm:C.P.follows .mixedOrders=true) {tab:Tr IFunc} (hC:TabOK C.P C.ng C.ts tab) {f:FuncId} {u:Value} {σ:AW} {μ:Nat→Loc} {I:Img} {vs:List Value} {ps:List PV} (hN:C.N0=Bs.of W)
  (hG:GRd I noE C.G) (h:Opens C.P C.ng C.ts W σ μ I vs ps) (ht:PTop C tab f ps (.lit u)):Calls C.P f ⟨vs⟩ W fun e w'=>e = .returned u∧RowKit.Below W.heap.size W w':=by
 obtain ⟨σ',μ',I',us,ho,hle,h2,h3,h4⟩:=h
 have hrep:Rep C.P C.ng C.ts C.N0 μ' σ' W:=by rw [hN];exact ho.rep
 have hc:=ht.calls hm hC (fun g cs hg=>(hG g cs hg).mono hle.i (Eta.le_refl _)) ho.rel h3 hrep h4
 rw [h2] at hc
 refine hc.mono fun e w' ⟨he,μ2,σ2,hg⟩=>⟨he,hg.os,hg.tape,hg.output,hg.size,fun b hb=>hg.keep b hb fun i b hb hr=>by rw [ho.ro i b hb] at hr;simp at hr⟩
end
end Go.Proofs.YtnpoloachkcadaaGreatDoor.Ai
namespace Go.Proofs.YtnpoloachkcadaaGreatDoor.Ai
open Go
set_option linter.unusedSimpArgs false
set_option linter.unusedVariables false
set_option linter.unusedSectionVars false
theorem CTo.pre {P:Program} {ng:Nat} {ts:List TypeId} {N0:Bs} {σ σ1 σ2:AW} {f:FuncId} {args:List Value} {v:Value} (h:CTo P ng ts N0 f args σ1 v σ2) (hl:Less σ1 σ):CTo P ng ts N0 f args σ v σ2:=by
 refine ⟨h.fn,fun hr ha c cs=>?_⟩
 obtain ⟨μ',w',r1,g1,h3,h4⟩:=h.ok (hr.less' hl) (by rw [hl.1];exact ha) c cs
 refine ⟨μ',w',r1,⟨by rw [← hl.1];exact g1.next,fun i hi=>g1.agr i (by rw [hl.1];exact hi),g1.os,g1.tape,g1.output,g1.size,fun B hB hk=>g1.keep B hB fun i b hb=>hk i b (hl.2 i b hb),fun i b hb hro=>?_⟩,h3,h4⟩
 rcases g1.fresh i b hb hro with h | ⟨j,c,h1,h2⟩
 ·exact .inl h
 ·exact .inr ⟨j,c,hl.2 j c h1,h2⟩
def nmE (n:Nat):List (PV × PV × Nat)→Bool
 | []=>true
 | (p,q,_)::l=>nmP n p && nmP n q && nmE n l
def nmO (n:Nat):PObj→Bool
 | .cells cs _ _ _ _ al=>nmL n cs && al.isEmpty
 | .map es _=>nmE n es
 | .deferred _=>true
 | .loop _ _ t _ _ _=>nmL n t
def nmH (n:Nat):List (Nat × PObj)→Bool
 | []=>true
 | (j,o)::h=>Nat.blt j n && nmO n o && nmH n h
theorem nmH_ok {n:Nat}:∀ {H:List (Nat × PObj)},nmH n H=true→∀ {j:Nat} {o:PObj},look H j=some o→j < n∧nmO n o=true
 | [],_,j,o,h=>by simp [look] at h
 | (k,x)::H,hn,j,o,h=>by
  simp only [nmH,Bool.and_eq_true,Nat.blt_eq] at hn
  simp only [look] at h
  split at h
  ·rename_i e;cases h;subst e;exact hn.1
  ·exact nmH_ok hn.2 h
theorem EntRd.names {I:Img} {η θ:Eta} {n:Nat} (h:∀ j,j < n→θ j=η j):∀ {es:List (PV × PV × Nat)} {fs:List (Value × Value × Nat)},nmE n es=true→EntRd I η es fs→EntRd I θ es fs
 | [],[],_,_=>trivial
 | (p,q,c)::es,(v,w,d)::fs,hn,hr=>by
  simp only [nmE,Bool.and_eq_true] at hn
  simp only [EntRd] at hr ⊢
  exact ⟨hr.1.names h hn.1.1,hr.2.1.names h hn.1.2,hr.2.2.1,EntRd.names h hn.2 hr.2.2.2⟩
 | [],_::_,_,h=>by simp [EntRd] at h
 | _::_,[],_,h=>by simp [EntRd] at h
theorem ORd.names {I:Img} {η θ:Eta} {n:Nat} (h:∀ j,j < n→θ j=η j) {o:PObj} {b:Blk} (hn:nmO n o=true) (hr:ORd I η o b):ORd I θ o b:=by
 cases o <;> cases b <;> simp only [ORd,nmO,Bool.and_eq_true] at hr hn ⊢
 ·exact ⟨hr.1.names h hn.1,hr.2⟩
 ·exact ⟨EntRd.names h hn hr.1,hr.2⟩
 ·exact hr
 ·exact ⟨hr.1,hr.2.1,hr.2.2.1.names h hn,hr.2.2.2⟩
def PFunS (C:Ctx) (n:Nat) (H:List (Nat × PObj)) (f:FuncId) (args:List PV) (r:PV):Prop:=
 ∀ F I η σ vargs,GRd I noE C.G→SRel F I η ⟨n,H⟩ σ→RdL I η args vargs→∃ v σ' I',CTo C.P C.ng C.ts C.N0 f vargs σ v σ'∧Fol F 0 I η σ I' η σ'∧SRel F I' η ⟨n,H⟩ σ'∧Rd I' noE r v
theorem look_pre {n:Nat} {H:List (Nat × PObj)}:∀ {pre:List (Nat × PObj)},(pre.all fun x=>Nat.ble n x.1)=true→∀ {j:Nat},j < n→look (pre++H) j=look H j
 | [],_,j,_=>rfl
 | (k,x)::pre,hp,j,hj=>by
  simp only [List.all_cons,Bool.and_eq_true,Nat.ble_eq] at hp
  simp only [List.cons_append,look]
  rw [if_neg (by omega)]
  exact look_pre hp.2 hj
section
variable {C:Ctx} {n:Nat} {H pre:List (Nat × PObj)} {f:FuncId} {args:List PV} {r:PV} {F:Nat→Prop} {I:Img} {η:Eta} {π:PW} {σ:AW} {b:Nat} {e:List PV}
theorem alsOf (σ:AW) (η:Eta):∀ H:List (Nat × PObj),∃ L:List Nat,∀ i,i∈L↔∃ x∈H,∃ a c,η x.1=some a∧σ.heap.get a=some (.cells c)∧i∈c.al
 | []=>⟨[],by simp⟩
 | x::H=>by
  obtain ⟨L,hL⟩:=alsOf σ η H
  cases ha:η x.1 with
  | none=>exact ⟨L,fun i=>by rw [hL];simp [ha]⟩
  | some a=>
   cases hb:σ.heap.get a with
   | none=>exact ⟨L,fun i=>by rw [hL];simp [ha,hb]⟩
   | some bk=>
    cases bk with
    | cells c=>
     refine ⟨c.al++L,fun i=>?_⟩
     rw [List.mem_append,hL]
     simp only [List.mem_cons,exists_eq_or_imp]
     constructor
     ·rintro (h | h)
      ·exact .inl ⟨a,c,ha,hb,h⟩
      ·exact .inr h
     ·rintro (⟨a',c',h1,h2,h3⟩ | h)
      ·rw [ha] at h1;cases h1
       rw [hb] at h2;cases h2
       exact .inl h3
      ·exact .inr h
    | _=>exact ⟨L,fun i=>by rw [hL];simp [ha,hb]⟩
theorem look_mem:∀ {H:List (Nat × PObj)} {j:Nat} {o:PObj},look H j=some o→(j,o)∈H
 | [],j,o,h=>by simp [look] at h
 | (k,x)::H,j,o,h=>by
  simp only [look] at h
  split at h
  ·rename_i e;cases h;subst e;simp
  ·exact List.mem_cons_of_mem _ (look_mem h)
def uniqH:List (Nat × PObj)→Bool
 | []=>true
 | (j,_)::h=>(look h j).isNone && uniqH h
theorem uniq_look:∀ {H:List (Nat × PObj)},uniqH H=true→∀ {x:Nat × PObj},x∈H→look H x.1=some x.2
 | [],_,x,h=>by simp at h
 | (k,y)::H,hu,x,h=>by
  simp only [uniqH,Bool.and_eq_true,Option.isNone_iff_eq_none] at hu
  simp only [List.mem_cons] at h
  rcases h with rfl | h
  ·simp [look]
  ·have h1:=uniq_look hu.2 h
   simp only [look]
   rw [if_neg (fun e=>by rw [e,hu.1] at h1;cases h1)]
   exact h1
theorem look_sub (hok:(nmH n H && uniqH H)=true) (he:π.heap=pre++H) (hpre:(pre.all fun x=>Nat.ble n x.1)=true) {j:Nat} {o:PObj} (hj:look H j=some o):look π.heap j=some o:=by
 simp only [Bool.and_eq_true] at hok
 rw [he,look_pre hpre (nmH_ok hok.1 hj).1];exact hj
theorem PFunS.use (h:PFunS C n H f args r) (hok:(nmH n H && uniqH H)=true) (hargs:nmL n args=true) (hsub:∀ {j o},look H j=some o→look π.heap j=some o)
  (hG:GRd I noE C.G) (hs:SRel F I η π σ) {vargs:List Value} (ha:RdL I η args vargs) :
  ∃ v σ' I',CTo C.P C.ng C.ts C.N0 f vargs σ v σ'∧(σ.next < σ'.next∧I.le I'∧(∀ i,F i→σ'.heap.get i=σ.heap.get i∧I' i=I i))∧SRel F I' η π σ'∧Rd I' η r v∧
   ∀ a,(I a ≠ none∨∃ j o,look π.heap j=some o∧n≤j∧η j=some a)→a < σ.next∧σ'.heap.get a=σ.heap.get a:=by
 simp only [Bool.and_eq_true] at hok
 obtain ⟨hok,huq⟩:=hok
 obtain ⟨L,hL⟩:=alsOf σ η H
 have hL':∀ {i},i∈L→∃ j o a c,look H j=some o∧η j=some a∧σ.heap.get a=some (.cells c)∧i∈c.al:=fun {i} hi=>by
  obtain ⟨x,hx,a,c,h1,h2,h3⟩:=(hL i).1 hi
  exact ⟨x.1,x.2,a,c,uniq_look huq hx,h1,h2,h3⟩
 have hLal:∀ {i},i∈L→i < σ.next∧I i=none∧(F i→σ.heap.get i=none)∧∀ k o,look π.heap k=some o→η k ≠ some i:=by
  intro i hi
  obtain ⟨j,o,a,c,h1,h2,h3,h4⟩:=hL' hi
  obtain ⟨hjn,hno⟩:=nmH_ok hok h1
  obtain ⟨a',b',g1,g2,g3,g4⟩:=hs.obj j o (hsub h1)
  rw [h2] at g1;cases g1
  rw [h3] at g3;cases g3
  cases o <;> simp only [ORd] at g4
  simp only [nmO,Bool.and_eq_true,List.isEmpty_iff] at hno
  obtain ⟨q1,q2,q3,q4⟩:=hs.al j _ _ _ _ _ _ a c (hsub h1) h2 h3 i h4
  exact ⟨q1,q2,q3,fun k o hk hki=>by have:=q4 k o hk hki;rw [hno.2] at this;simp at this⟩
 let η1:Eta:=fun j=>if j < n then η j else none
 have e1:∀ j,j < n→η1 j=η j:=fun j hj=>if_pos hj
 have e2:∀ {j a},η1 j=some a→j < n∧η j=some a:=fun {j a} hj=>by
  simp only [η1] at hj
  split at hj
  ·rename_i hh;exact ⟨hh,hj⟩
  ·cases hj
 have hle:η1.le η:=fun j a hj=>(e2 hj).2
 let σ1:AW:={σ with heap:=killAll L σ.heap }
 have hget:∀ k,σ1.heap.get k=if k∈L then none else σ.heap.get k:=get_killAll L σ.heap fun i _=>by unfold most;omega
 have hless:Less σ1 σ:=⟨rfl,fun i b hb=>by
  rw [hget] at hb
  split at hb
  ·cases hb
  ·exact hb⟩
 let F1:Nat→Prop:=fun i=>i < σ.next∧∀ j o,look H j=some o→η j ≠ some i
 have hFF:∀ {i},F i→F1 i:=fun {i} hi=>⟨hs.fn i hi,fun j o hj hji=>hs.fo j o i (hsub hj) hji hi⟩
 have hadr:∀ {j o a},look π.heap j=some o→η j=some a→a < σ.next∧σ1.heap.get a=σ.heap.get a:=by
  intro j o a hj hja
  obtain ⟨a',b',g1,g2,g3,g4⟩:=hs.obj j o hj
  rw [hja] at g1;cases g1
  refine ⟨g2,?_⟩
  rw [hget,if_neg (fun hi=>(hLal hi).2.2.2 j o hj hja)]
 have hs1:SRel F1 I η1 ⟨n,H⟩ σ1:=by
  constructor
  ·intro i bk hi;exact hs.hn i bk (hless.2 i bk hi)
  ·intro i hi;exact hi.1
  ·intro j o a hj hja hf;exact hf.2 j o hj (e2 hja).2
  ·intro i vs hi
   obtain ⟨g1,b',g2,g3⟩:=hs.img i vs hi
   refine ⟨g1,b',?_,g3⟩
   rw [hget,if_neg (fun hL1=>by rw [(hLal hL1).2.1] at hi;cases hi)];exact g2
  ·intro j a hj;exact (e2 hj).1
  ·intro j o hj
   obtain ⟨hjn,hno⟩:=nmH_ok hok hj
   obtain ⟨a,bk,g1,g2,g3,g4⟩:=hs.obj j o (hsub hj)
   exact ⟨a,bk,by rw [e1 j hjn];exact g1,g2,by rw [(hadr (hsub hj) g1).2];exact g3,g4.names e1 hno⟩
  ·intro j k oj ok a hj hk hja hka
   exact hs.inj j k oj ok a (hsub hj) (hsub hk) (e2 hja).2 (e2 hka).2
  ·intro j o a hj hja;exact hs.sep j o a (hsub hj) (e2 hja).2
  ·intro j cs ty esz ex ret al a c hj hja hc i hi
   have hc':=hless.2 a _ hc
   have hiL:i∈L:=(hL i).2 ⟨(j,_),look_mem hj,a,c,(e2 hja).2,hc',hi⟩
   obtain ⟨q1,q2,q3,q4⟩:=hLal hiL
   exact ⟨q1,q2,fun _=>by rw [hget,if_pos hiL],fun k o hk hka=>absurd (e2 hka).2 (q4 k o (hsub hk))⟩
 obtain ⟨v,σ',I',k1,k2,k3,k4⟩:=h F1 I η1 σ1 vargs hG hs1 (ha.names e1 hargs)
 have hkeep:∀ {i},F1 i→σ'.heap.get i=σ1.heap.get i∧I' i=I i:=fun {i} hi=>k2.fr i hi
 have hF0:∀ {i},F i→σ'.heap.get i=σ.heap.get i:=by
  intro i hi
  rw [(hkeep (hFF hi)).1,hget]
  split
  ·rename_i hiL;exact ((hLal hiL).2.2.1 hi).symm
  ·rfl
 have hnx:σ.next≤σ'.next:=k2.next
 have hF1o:∀ {j o a},look π.heap j=some o→look H j=none→η j=some a→F1 a:=by
  intro j o a hj hn hja
  refine ⟨(hadr hj hja).1,fun k o' hk hka=>?_⟩
  have:=hs.inj j k o o' a hj (hsub hk) hja hka
  subst this
  rw [hn] at hk;cases hk
 refine ⟨v,σ'.bump,I',(k1.pre hless).bump,⟨Nat.lt_succ_of_le hnx,k2.im,fun i hi=>⟨hF0 hi,(hkeep (hFF hi)).2⟩⟩,SRel.bump ?_,k4.pure,fun a ha=>?_⟩
 rotate_left
 ·show _∧σ'.heap.get a=_
  rcases ha with ha | ⟨j,o,hj,hnj,hja⟩
  ·obtain ⟨vs,hvs⟩:=Option.ne_none_iff_exists'.1 ha
   obtain ⟨g1,b',g2,_⟩:=hs.img a vs hvs
   have hf:F1 a:=⟨g1,fun j o hj hja=>by have:=hs.sep j o a (hsub hj) hja;rw [this] at hvs;cases hvs⟩
   refine ⟨g1,?_⟩
   rw [(hkeep hf).1,hget,if_neg (fun hL1=>by rw [(hLal hL1).2.1] at hvs;cases hvs)]
  ·have hn:look H j=none:=by
    cases hH:look H j with
    | none=>rfl
    | some o'=>have:=(nmH_ok hok hH).1;omega
   have hf:=hF1o hj hn hja
   exact ⟨hf.1,by rw [(hkeep hf).1,(hadr hj hja).2]⟩
 constructor
 ·exact k3.hn
 ·intro i hi;exact Nat.lt_of_lt_of_le (hs.fn i hi) hnx
 ·exact hs.fo
 ·exact k3.img
 ·exact hs.fresh
 ·intro j o hj
  cases hH:look H j with
  | some o'=>
   have:o'=o:=by have h1:=hsub hH;rw [hj] at h1;exact (Option.some.inj h1).symm
   subst this
   obtain ⟨a,bk,g1,g2,g3,g4⟩:=k3.obj j _ hH
   exact ⟨a,bk,hle _ _ g1,g2,g3,g4.mono (Img.le_refl _) hle⟩
  | none=>
   obtain ⟨a,bk,g1,g2,g3,g4⟩:=hs.obj j o hj
   have hf:=hF1o hj hH g1
   exact ⟨a,bk,g1,Nat.lt_of_lt_of_le g2 hnx,by rw [(hkeep hf).1,(hadr hj g1).2];exact g3,g4.mono k2.im (Eta.le_refl _)⟩
 ·exact hs.inj
 ·intro j o a hj hja
  cases hH:look H j with
  | some o'=>exact k3.sep j o' a hH (by rw [e1 j (nmH_ok hok hH).1];exact hja)
  | none=>rw [(hkeep (hF1o hj hH hja)).2];exact hs.sep j o a hj hja
 ·intro j cs ty esz ex ret al a c hj hja hc i hi
  cases hH:look H j with
  | some o'=>
   have:o'=PObj.cells cs ty esz ex ret al:=by have h1:=hsub hH;rw [hj] at h1;exact (Option.some.inj h1).symm
   subst this
   have hj1:η1 j=some a:=by rw [e1 j (nmH_ok hok hH).1];exact hja
   obtain ⟨g1,g2,g3,g4⟩:=k3.al j _ _ _ _ _ _ a c hH hj1 hc i hi
   refine ⟨g1,g2,fun hf=>g3 (hFF hf),fun k o hk hki=>?_⟩
   cases hHk:look H k with
   | some o2=>exact g4 k o2 hHk (by rw [e1 k (nmH_ok hok hHk).1];exact hki)
   | none=>
    have hf:=hF1o hk hHk hki
    have q:=g3 hf
    rw [(hkeep hf).1,(hadr hk hki).2] at q
    obtain ⟨a',b',p1,p2,p3,p4⟩:=hs.obj k o hk
    rw [hki] at p1;cases p1
    rw [q] at p3;cases p3
  | none=>
   have hf:=hF1o hj hH hja
   have hc':σ.heap.get a=some (.cells c):=by rw [← (hadr hj hja).2,← (hkeep hf).1];exact hc
   obtain ⟨g1,g2,g3,g4⟩:=hs.al j _ _ _ _ _ _ a c hj hja hc' i hi
   refine ⟨Nat.lt_of_lt_of_le g1 hnx,?_,fun hf2=>by rw [hF0 hf2];exact g3 hf2,g4⟩
   by_cases hq:∃ k o,look H k=some o∧η k=some i
   ·obtain ⟨k,o,hk,hki⟩:=hq
    exact k3.sep k o i hk (by rw [e1 k (nmH_ok hok hk).1];exact hki)
   ·have hf2:F1 i:=⟨g1,fun k o hk hki=>hq ⟨k,o,hk,hki⟩⟩
    rw [(hkeep hf2).2];exact g2
theorem PFunS.to (h:PFunS C n H f args r) (hok:(nmH n H && uniqH H)=true) (hargs:nmL n args=true) (pre:List (Nat × PObj)) (he:π.heap=pre++H) (hpre:(pre.all fun x=>Nat.ble n x.1)=true) {A:PV→PW→Prop} (hA:A r π):PToE C b e f args π A:=by
 intro F I η σ env vargs hG hs her hr
 obtain ⟨v,σ',I',h1,⟨h2,h3,h4⟩,h5,h6,_⟩:=h.use hok hargs (fun hj=>look_sub hok he hpre hj) hG hs hr
 exact ⟨v,σ',I',η,r,π,h1,⟨Nat.le_of_lt h2,h4,h3,fun _ _=>rfl⟩,h5,her.mono h3 (Eta.le_refl _),h6,hA⟩
def keepS (n:Nat) (G:PG) (l:List IOper) (e:List PV) (π:PW) (j:Nat):Bool:=
 match nthO l j with
 | some o=>
  match o.op with
  | .r q=>
   match q.base.pv G e with
   | .ptr i _ | .loc i _ _ _=>Nat.ble n i && (look π.heap i).isSome
   | .ref _ | .sl _ _=>true
   | _=>false
  | _=>false
 | none=>false
theorem PFunS.body (hm:C.P.follows .mixedOrders=true) {tab:Tr IFunc} (hC:TabOK C.P C.ng C.ts tab) {ifn:IFunc} (hf:tab.get f=some ifn) (hp:pureP r=true) (hok:nmH n H=true)
  (h:PRun C n ifn.body (startP ifn args) ⟨n,H⟩ fun x t π'=>(x = .normal∨x = .ret)∧Gh C n t π' fun t π'=>∃ rs,resPs t π' ifn.results=some rs∧Wk (tupP rs) r∧∃ pre,π'.heap=pre++H∧(pre.all fun x=>Nat.ble n x.1)=true):PFunS C n H f args r:=by
 intro F I η σ vargs hG hs hr
 obtain ⟨v,σ',I',η',r',π',h1,h2,h5,h6,h7,pre,h8,h9⟩:=PToB.of_body hm hC hf (A:=fun r' π'=>Wk r' r∧∃ pre,π'.heap=pre++H∧(pre.all fun x=>Nat.ble n x.1)=true) h F I η σ vargs hG hs hr
 have hsub:∀ {j o},look H j=some o→look π'.heap j=some o:=fun {j o} hj=>by rw [h8,look_pre h9 (nmH_ok hok hj).1];exact hj
 have het:∀ {j o},look H j=some o→η' j=η j:=fun {j o} hj=>h2.et j (nmH_ok hok hj).1
 refine ⟨v,σ',I',h1,⟨h2.next,h2.fr,h2.im,fun _ _=>rfl⟩,?_,(h7 _ _ _ h6).toPure hp⟩
 constructor
 ·exact h5.hn
 ·exact h5.fn
 ·intro j o a hj hja;exact h5.fo j o a (hsub hj) (by rw [het hj];exact hja)
 ·exact h5.img
 ·exact hs.fresh
 ·intro j o hj
  obtain ⟨a,bk,g1,g2,g3,g4⟩:=h5.obj j o (hsub hj)
  exact ⟨a,bk,by rw [← het hj];exact g1,g2,g3,g4.names (fun k hk=>(h2.et k hk).symm) (nmH_ok hok hj).2⟩
 ·intro j k oj ok a hj hk hja hka
  exact h5.inj j k oj ok a (hsub hj) (hsub hk) (by rw [het hj];exact hja) (by rw [het hk];exact hka)
 ·intro j o a hj hja;exact h5.sep j o a (hsub hj) (by rw [het hj];exact hja)
 ·intro j cs ty esz ex ret al a c hj hja hc i hi
  obtain ⟨g1,g2,g3,g4⟩:=h5.al j _ _ _ _ _ _ a c (hsub hj) (by rw [het hj];exact hja) hc i hi
  exact ⟨g1,g2,g3,fun k o hk hki=>g4 k o (hsub hk) (by rw [het hk];exact hki)⟩
end
end Go.Proofs.YtnpoloachkcadaaGreatDoor.Ai
namespace Go.Proofs.YtnpoloachkcadaaGreatDoor.Ai
open Go
set_option linter.unusedSimpArgs false
set_option linter.unusedVariables false
theorem SRel.sub {F:Nat→Prop} {I:Img} {η:Eta} {π:PW} {n':Nat} {H':List (Nat × PObj)} {σ:AW} (h:SRel F I η π σ) (hs:∀ {j o},look H' j=some o→look π.heap j=some o) (hn:π.next≤n'):SRel F I η ⟨n',H'⟩ σ:=
 ⟨h.hn,h.fn,fun j o a hj ha=>h.fo j o a (hs hj) ha,h.img,fun j a ha=>Nat.lt_of_lt_of_le (h.fresh j a ha) hn,fun j o hj=>h.obj j o (hs hj),fun j k oj ok a hj hk=>h.inj j k oj ok a (hs hj) (hs hk),fun j o a hj=>h.sep j o a (hs hj),
  fun j cs ty esz ex ret al a b hj ha hb i hi=>by
   obtain ⟨g1,g2,g3,g4⟩:=h.al j cs ty esz ex ret al a b (hs hj) ha hb i hi
   exact ⟨g1,g2,g3,fun k o hk=>g4 k o (hs hk)⟩⟩
theorem Gh.sub {C:Ctx} {b:Nat} {e:List PV} {π:PW} {A:List PV→PW→Prop} (n':Nat) (H':List (Nat × PObj)) (hs:∀ {j o},look H' j=some o→look π.heap j=some o) (hn:π.next≤n') (h:A e ⟨n',H'⟩):Gh C b e π A:=by
 intro F I η σ env hG hr he
 exact ⟨I,η,e,⟨n',H'⟩,.refl,hr.sub hs hn,he,h⟩
theorem PToE.body {C:Ctx} (hm:C.P.follows .mixedOrders=true) {tab:Tr IFunc} (hC:TabOK C.P C.ng C.ts tab) {f:FuncId} {ifn:IFunc} (hf:tab.get f=some ifn) {b b':Nat} {e args:List PV} {π:PW} {A:PV→PW→Prop} (hn:nmL b' e=true) (hb:b≤b')
  (h:PRun C b' ifn.body (startP ifn args) π fun x t π'=>(x = .normal∨x = .ret)∧Gh C b' t π' fun t π'=>∃ rs,resPs t π' ifn.results=some rs∧A (tupP rs) π'):PToE C b e f args π A:=
 (PToB.of_body hm hC hf h).toE hn hb
end Go.Proofs.YtnpoloachkcadaaGreatDoor.Ai
namespace Go.Proofs.YtnpoloachkcadaaGreatDoor.Ai
open Go
set_option linter.unusedSimpArgs false
set_option linter.unusedVariables false
mutual
def freePv:PV→Bool
 | .sl _ _ | .sz _ _ | .sp _ _ _ | .ref _=>false
 | .fn _ a b=>freeLv a && freeLv b
 | .iface _ p=>freePv p
 | .agg l=>freeLv l
 | .tup l=>freeLv l
 | _=>true
def freeLv:List PV→Bool
 | []=>true
 | p::l=>freePv p && freeLv l
end
mutual
theorem Rd.free {I J:Img} {η:Eta}:∀ {p:PV} {v:Value},freePv p=true→Rd I η p v→Rd J η p v
 | .junk,v,_,_=>by simp [Rd]
 | .lit u,v,_,hr=>by simpa [Rd] using hr
 | .sl _ _,v,h,_=>by simp [freePv] at h
 | .sz _ _,v,h,_=>by simp [freePv] at h
 | .sp _ _ _,v,h,_=>by simp [freePv] at h
 | .ref _,v,h,_=>by simp [freePv] at h
 | .loc _ _ _ _,v,_,hr=>by simpa [Rd] using hr
 | .ptr _ _,v,_,hr=>by simpa [Rd] using hr
 | .map _,v,_,hr=>by simpa [Rd] using hr
 | .yld _,v,_,hr=>by simpa [Rd] using hr
 | .fn f x y,v,hp,hr=>by
  simp only [freePv,Bool.and_eq_true] at hp
  simp only [Rd] at hr ⊢
  obtain ⟨u,w,h1,h2,h3⟩:=hr
  exact ⟨u,w,h1,RdL.free hp.1 h2,RdL.free hp.2 h3⟩
 | .iface t p,v,hp,hr=>by
  simp only [freePv] at hp
  simp only [Rd] at hr ⊢
  obtain ⟨u,h1,h2⟩:=hr
  exact ⟨u,h1,Rd.free hp h2⟩
 | .agg l,v,hp,hr=>by
  simp only [freePv] at hp
  simp only [Rd] at hr ⊢
  obtain ⟨u,h1,h2⟩:=hr
  exact ⟨u,h1,RdL.free hp h2⟩
 | .tup l,v,hp,hr=>by
  simp only [freePv] at hp
  simp only [Rd] at hr ⊢
  obtain ⟨u,h1,h2⟩:=hr
  exact ⟨u,h1,RdL.free hp h2⟩
theorem RdL.free {I J:Img} {η:Eta}:∀ {ps:List PV} {vs:List Value},freeLv ps=true→RdL I η ps vs→RdL J η ps vs
 | [],[],_,_=>by simp [RdL]
 | p::ps,v::vs,hp,hr=>by
  simp only [freeLv,Bool.and_eq_true] at hp
  simp only [RdL] at hr ⊢
  exact ⟨Rd.free hp.1 hr.1,RdL.free hp.2 hr.2⟩
 | [],_::_,_,hr=>by simp [RdL] at hr
 | _::_,[],_,hr=>by simp [RdL] at hr
end
def freeOb:PObj→Bool
 | .cells l _ _ _ _ _=>freeLv l
 | _=>false
def freeHv:List (Nat × PObj)→Bool
 | []=>true
 | (_,o)::h=>freeOb o && freeHv h
theorem freeHv_look:∀ {h:List (Nat × PObj)} {j:Nat} {o:PObj},freeHv h=true→look h j=some o→freeOb o=true
 | [],_,_,_,h=>by simp [look] at h
 | (i,x)::h,j,o,hf,hl=>by
  simp only [freeHv,Bool.and_eq_true] at hf
  simp only [look] at hl
  split at hl
  ·rw [← Option.some.inj hl];exact hf.1
  ·exact freeHv_look hf.2 hl
theorem ORd.free {I J:Img} {η:Eta} {o:PObj} {b:Blk} (h:freeOb o=true) (hr:ORd I η o b):ORd J η o b:=by
 cases o <;> cases b <;> simp only [ORd,freeOb,Bool.false_eq_true] at h hr ⊢
 exact ⟨hr.1.free h,hr.2⟩
section
variable {C:Ctx} {f:FuncId} {args args0:List PV} {r:PV} {π1 π:PW} {F:Nat→Prop} {I:Img} {η:Eta} {σ:AW}
theorem PGen.useLent (h:PGen C f args0 r π1) (hp:pureL args0=true) (hg:Gh C 0 args π fun e' _=>e'=args0) (hr:freePv r=true) (hh:freeHv π1.heap=true) (hG:GRd I noE C.G) (hs:SRel F I η π σ) {vargs:List Value} (ha:RdL I η args vargs) :
  ∃ v σ' η',CTo C.P C.ng C.ts C.N0 f vargs σ v σ'∧(σ.next < σ'.next∧(∀ i,i < σ.next→σ'.heap.get i=σ.heap.get i))∧η.le η'∧(∀ j,j < π.next→η' j=η j)∧SRel F I η' (π.with π1) σ'∧Rd I η' (shP π.next r) v:=by
 obtain ⟨I2,η2,e2,π2,f2,s2,r2,rfl⟩:=hg F I η σ vargs hG hs ha
 obtain ⟨v,σ',I',η1,h1,h2,h3,h4⟩:=h (fun i=>i < σ.next) I2 σ vargs (hG.le f2.im) (s2.none _ (fun _ h=>h)) (r2.toPure hp)
 have him:∀ i,I' i=none→I i=none:=fun i hi=>by
  cases hx:I i with
  | none=>rfl
  | some vs=>
   have:=h2.im.c _ _ (f2.im.c _ _ hx)
   rw [hi] at this;cases this
 have hlt:∀ j o a,look π.heap j=some o→η j=some a→a < σ.next:=by
  intro j o a hj ha
  obtain ⟨a',_,ha',hl,_⟩:=hs.obj j o hj
  rw [ha] at ha';cases ha';exact hl
 have hget:∀ i,i < σ.next→σ'.heap.get i=σ.heap.get i:=fun i hi=>(h2.fr i hi).1
 have hold:∀ j,j < π.next→(η.sh η1 π.next) j=η j:=fun j hj=>by simp only [Eta.sh];rw [if_pos hj]
 have hlk:∀ j o,look π.heap j=some o→j < π.next:=fun j o hj=>by
  obtain ⟨a,_,ha,_⟩:=hs.obj j o hj
  exact hs.fresh j a ha
 have hnew:∀ i,(η.sh η1 π.next) (i + π.next)=η1 i:=fun i=>by simp only [Eta.sh];rw [if_neg (by omega),Nat.add_sub_cancel]
 have hle:η.le (η.sh η1 π.next):=fun j a ha=>by rw [hold j (hs.fresh j a ha)];exact ha
 have hge:∀ i o a,look π1.heap i=some o→η1 i=some a→¬ a < σ.next:=fun i o a hi ha=>h3.fo i o a hi ha
 have hcase:∀ j o,look (shH π.next π.heap π1.heap) j=some o→(∃ i o',j=i + π.next∧look π1.heap i=some o'∧o=shO π.next o')∨(j < π.next∧look π.heap j=some o):=by
  intro j o hj
  rcases look_shH hj with h | h
  ·exact .inl h
  ·exact .inr ⟨hlk j o h,h⟩
 have hnext:σ.next≤σ'.next:=h2.next
 refine ⟨v,σ'.bump,η.sh η1 π.next,h1.bump,⟨Nat.lt_succ_of_le hnext,hget⟩,hle,hold,?_,shP_sim (h4.free hr)⟩
 constructor
 ·intro i b hi;exact Nat.lt_succ_of_lt (h3.hn i b hi)
 ·intro i hi;exact Nat.lt_succ_of_le (Nat.le_trans (Nat.le_of_lt (hs.fn i hi)) hnext)
 ·intro j o a hj ha hf
  rcases hcase j o hj with ⟨i,o',rfl,hi,_⟩ | ⟨hjl,hj⟩
  ·rw [hnew] at ha
   exact hge i o' a hi ha (hs.fn a hf)
  ·rw [hold j hjl] at ha;exact hs.fo j o a hj ha hf
 ·intro i vs hi
  obtain ⟨g1,b,g2,g3⟩:=hs.img i vs hi
  exact ⟨Nat.lt_succ_of_le (Nat.le_trans (Nat.le_of_lt g1) hnext),b,by show σ'.heap.get i=_;rw [hget i g1];exact g2,g3⟩
 ·intro j a ha
  simp only [PW.with]
  simp only [Eta.sh] at ha
  split at ha
  ·omega
  ·have:=h3.fresh _ a ha;omega
 ·intro j o hj
  rcases hcase j o hj with ⟨i,o',rfl,hi,rfl⟩ | ⟨hjl,hj⟩
  ·obtain ⟨a,b,g1,g2,g3,g4⟩:=h3.obj i o' hi
   exact ⟨a,b,by rw [hnew];exact g1,Nat.lt_succ_of_lt g2,g3,shO_sim (g4.free (freeHv_look hh hi))⟩
  ·obtain ⟨a,b,g1,g2,g3,g4⟩:=hs.obj j o hj
   exact ⟨a,b,by rw [hold j hjl];exact g1,Nat.lt_succ_of_le (Nat.le_trans (Nat.le_of_lt g2) hnext),by show σ'.heap.get a=_;rw [hget a g2];exact g3,g4.mono (Img.le_refl _) hle⟩
 ·intro j l oj ol c hj hl hcj hcl
  rcases hcase j oj hj with ⟨i,o',rfl,hi,_⟩ | ⟨hjl,hj⟩ <;> rcases hcase l ol hl with ⟨i2,o2,rfl,hi2,_⟩ | ⟨hll,hl⟩
  ·rw [hnew] at hcj hcl;rw [h3.inj i i2 _ _ c hi hi2 hcj hcl]
  ·rw [hnew] at hcj;rw [hold l hll] at hcl;exact absurd (hlt l _ c hl hcl) (hge i o' c hi hcj)
  ·rw [hnew] at hcl;rw [hold j hjl] at hcj;exact absurd (hlt j _ c hj hcj) (hge i2 o2 c hi2 hcl)
  ·rw [hold j hjl] at hcj;rw [hold l hll] at hcl;exact hs.inj j l _ _ c hj hl hcj hcl
 ·intro j o a hj ha
  rcases hcase j o hj with ⟨i,o',rfl,hi,_⟩ | ⟨hjl,hj⟩
  ·rw [hnew] at ha;exact him a (h3.sep i o' a hi ha)
  ·rw [hold j hjl] at ha;exact hs.sep j o a hj ha
 ·intro j cs ty esz ex ret al a b hj ha hb i hi
  rcases hcase j _ hj with ⟨i',o',rfl,hi',ho⟩ | ⟨hjl,hj⟩
  ·rw [hnew] at ha
   cases o' <;> simp only [shO,PObj.cells.injEq,reduceCtorEq] at ho
   obtain ⟨g1,g2,g3,g4⟩:=h3.al i' _ _ _ _ _ _ _ _ hi' ha hb i hi
   refine ⟨Nat.lt_succ_of_lt g1,him i g2,fun hf=>g3 (hs.fn i hf),fun m o hm hcm=>?_⟩
   rcases hcase m o hm with ⟨m',o2,rfl,hm',_⟩ | ⟨hml,hm⟩
   ·rw [hnew] at hcm
    rw [ho.2.2.2.2.2];exact mem_shA (g4 m' o2 hm' hcm)
   ·rw [hold m hml] at hcm
    have hl:=hlt m _ i hm hcm
    obtain ⟨a',b',q1,_,q2,_⟩:=hs.obj m _ hm
    rw [hcm] at q1;cases q1
    have q3:σ'.heap.get i=none:=g3 hl
    rw [hget i hl,q2] at q3
    cases q3
  ·rw [hold j hjl] at ha
   have hl:=hlt j _ a hj ha
   obtain ⟨g1,g2,g3,g4⟩:=hs.al j _ _ _ _ _ _ _ _ hj ha (by rw [← hget a hl];exact hb) i hi
   refine ⟨Nat.lt_succ_of_le (Nat.le_trans (Nat.le_of_lt g1) hnext),g2,fun hf=>by show σ'.heap.get i=none;rw [hget i g1];exact g3 hf,fun m o hm hcm=>?_⟩
   rcases hcase m o hm with ⟨m',o2,rfl,hm',_⟩ | ⟨hml,hm⟩
   ·rw [hnew] at hcm;exact absurd g1 (hge m' o2 i hm' hcm)
   ·rw [hold m hml] at hcm;exact g4 m o hm hcm
theorem PGen.lentT (h:PGen C f args0 r π1) (hp:pureL args0=true) (hg:Gh C 0 args π fun e' _=>e'=args0) (hr:freePv r=true) (hh:freeHv π1.heap=true) {A:PV→PW→Prop} (hA:A (shP π.next r) (π.with π1)):PTo C f args π A:=by
 intro F I η σ vargs hG hs ha
 obtain ⟨v,σ',η',h1,⟨h2,h3⟩,h5,h6,h7,h8⟩:=h.useLent hp hg hr hh hG hs ha
 exact ⟨v,σ',I,η',_,_,h1,⟨Nat.le_of_lt h2,fun i hi=>⟨h3 i (hs.fn i hi),rfl⟩,Img.le_refl _,fun j hj=>by omega⟩,h5,h6,h7,h8,hA⟩
theorem PGen.wkA (h:PGen C f args0 r π1) (k:WkL args args0):PGen C f args r π1:=fun F I σ vargs hG hs hr=>h F I σ vargs hG hs (k _ _ _ hr)
end
end Go.Proofs.YtnpoloachkcadaaGreatDoor.Ai
namespace Go.Proofs.YtnpoloachkcadaaGreatDoor.Ai
open Go
set_option maxRecDepth 10000
theorem Pr {a b:Prop} (x:a) (y:b):a∧b:=⟨x,y⟩
def sw0:=PLift.up (Pr (Pr (Pr (Pr (Pr (Pr (Pr (Pr @wp.eq_1 (Pr @wp.eq_2 @wp.eq_3)) (Pr @wp.eq_4 (Pr @wp.eq_5 @wp.eq_6))) (Pr (Pr @wp.eq_7 (Pr @wp.eq_8 @wp.eq_9)) (Pr (Pr @wp.eq_10 @wp.eq_11) (Pr @wo_nil @wo_p)))) (Pr (Pr (Pr @wo_r (Pr @wo_n @wo_call)) (Pr @wo_st (Pr @wo_append @wo_appendZ))) (Pr (Pr @wo_callv (Pr @pval_fn @pval_yld)) (Pr (Pr @wo_mapUpd @wo_mapEnt) (Pr @wo_entSt @wo_copy))))) (Pr (Pr (Pr (Pr @wo_s2b (Pr @wo_sdata @wo_ustr)) (Pr @wo_g (Pr @beq_self_eq_true.{0} @onO_s))) (Pr (Pr @onN_s (Pr @onE_s @onG_t)) (Pr (Pr @onG_f @wanted_g) (Pr @wantB_b @wantB_u)))) (Pr (Pr (Pr @renP_u (Pr @frzP_u @pureP_u)) (Pr @b_tt (Pr @b_ff @b_tf))) (Pr (Pr @b_ft (Pr @onX_s @onXN_s)) (Pr (Pr @onXG_t @onXG_f) (Pr @onXI_s @rdX_e)))))) (Pr (Pr (Pr (Pr (Pr @ltN.eq_1 (Pr @ltN.eq_2 @ltN.eq_3)) (Pr @ble0 (Pr @ble_self @ble_succ))) (Pr (Pr @and_tt (Pr @ltD_s @onD_s)) (Pr (Pr @onDG_t @onDG_f) (Pr @wx_nil @wx_cons)))) (Pr (Pr (Pr @wx_p (Pr @wx_r @wx_n)) (Pr @wx_g (Pr @wd_cons @wd_e))) (Pr (Pr @wd_g (Pr @pv_t @pv_int)) (Pr (Pr @pv_bool @pv_str) (Pr @pv_nilS @pv_nilP))))) (Pr (Pr (Pr (Pr @pv_nilI (Pr @pv_nilF @pv_nilM)) (Pr @ov_nil (Pr @ov_cons @ov_int))) (Pr (Pr @ov_bool (Pr @ov_str @ov_nilS)) (Pr (Pr @ov_nilP @ov_nilI) (Pr @ov_nilF @ov_nilM)))) (Pr (Pr (Pr @ov_agg (Pr @put_some @put_none)) (Pr (Pr @bi_add @bi_sub) (Pr @bi_mul @bi_eql))) (Pr (Pr @bi_neq (Pr @bi_eqlS @bi_neqS)) (Pr (Pr @pv_f @onDE_s) (Pr @bi_lss @bi_leq))))))) (Pr (Pr (Pr (Pr (Pr (Pr @bi_gtr (Pr @bi_geq @pevP.eq_1)) (Pr @pevP.eq_2 (Pr @pevP.eq_3 @pevP.eq_4))) (Pr (Pr @pevP.eq_5 (Pr @pevP.eq_6 @pevP.eq_7)) (Pr (Pr @pevP.eq_8 @pevP.eq_9) (Pr @pevP.eq_10 @pevP.eq_11)))) (Pr (Pr (Pr @pevP.eq_12 (Pr @pevP.eq_13 @pevP.eq_14)) (Pr @pevP.eq_15 (Pr @pevP.eq_16 @pevP.eq_17))) (Pr (Pr @pevP.eq_18 (Pr @pevP.eq_19 @pevP.eq_20)) (Pr (Pr @pevP.eq_21 @pevP.eq_22) (Pr @pevP.eq_23 @pevP.eq_24))))) (Pr (Pr (Pr (Pr @pevP.eq_25 (Pr @pevP.eq_26 @pevP.eq_27)) (Pr @pevP.eq_28 (Pr @pevP.eq_29 @pevP.eq_30))) (Pr (Pr @pevP.eq_31 (Pr @pevP.eq_32 @pevP.eq_33)) (Pr (Pr @pevP.eq_34 @pevR.eq_1) (Pr @pevR.eq_2 @pevR.eq_3)))) (Pr (Pr (Pr @pevR.eq_4 (Pr @pevR.eq_5 @pevR.eq_6)) (Pr @pevR.eq_7 (Pr @pevR.eq_8 @pevR.eq_9))) (Pr (Pr @pevR.eq_10 (Pr @pevR.eq_11 @pevN.eq_1)) (Pr (Pr @pevN.eq_2 @pevN.eq_3) (Pr @pevN.eq_4 @pevN.eq_5)))))) (Pr (Pr (Pr (Pr (Pr @pevE.eq_1 (Pr @pevE.eq_2 @pevE.eq_3)) (Pr @pevE.eq_4 (Pr @pevE.eq_5 @pevE.eq_6))) (Pr (Pr @pevE.eq_7 (Pr @pevE.eq_8 @pevE.eq_9)) (Pr (Pr @pevE.eq_10 @pevE.eq_11) (Pr @getP.eq_1 @getP.eq_2)))) (Pr (Pr (Pr @getP.eq_3 (Pr @setP.eq_1 @setP.eq_2)) (Pr @setP.eq_3 (Pr @nthO.eq_1 @nthO.eq_2))) (Pr (Pr @nthO.eq_3 (Pr @evsP.eq_1 @evsP.eq_2)) (Pr (Pr @eqP.eq_1 @eqP.eq_2) (Pr @eqP.eq_3 @eqP.eq_4))))) (Pr (Pr (Pr (Pr @eqP.eq_5 (Pr @eqP.eq_6 @eqP.eq_7)) (Pr @eqP.eq_8 (Pr @eqP.eq_9 @eqP.eq_10))) (Pr (Pr @eqP.eq_11 (Pr @eqP.eq_12 @eqP.eq_13)) (Pr (Pr @eqP.eq_14 @eqP.eq_15) (Pr @eqP.eq_16 @eqP.eq_17)))) (Pr (Pr (Pr @eqP.eq_18 (Pr @eqP.eq_19 @eqP.eq_20)) (Pr (Pr @lenP.eq_1 @lenP.eq_2) (Pr @lenP.eq_3 @lenP.eq_4))) (Pr (Pr @lenP.eq_5 (Pr @lenP.eq_6 @srcP.eq_1)) (Pr (Pr @srcP.eq_2 @srcP.eq_3) (Pr @srcP.eq_4 @srcP.eq_5)))))))) (Pr (Pr (Pr (Pr (Pr (Pr (Pr @srcP.eq_6 (Pr @appendP.eq_1 @appendP.eq_2)) (Pr @appendP.eq_3 (Pr @fillP.eq_1 @fillP.eq_2))) (Pr (Pr @boxP.eq_1 (Pr @boxP.eq_2 @pcells.eq_1)) (Pr (Pr @pcells.eq_2 @spliceP.eq_1) (Pr @spliceP.eq_2 @spliceP.eq_3)))) (Pr (Pr (Pr @overP.eq_1 (Pr @overP.eq_2 @overP.eq_3)) (Pr @plainP.eq_1 (Pr @plainP.eq_2 @plainP.eq_3))) (Pr (Pr @plainP.eq_4 (Pr @plainP.eq_5 @isCell.eq_1)) (Pr (Pr @isCell.eq_2 @isCell.eq_3) (Pr @look.eq_1 @look.eq_2))))) (Pr (Pr (Pr (Pr @PW.cs?.eq_1 (Pr @PW.exactAt.eq_1 @PW.push.eq_1)) (Pr @PW.none.eq_1 (Pr @nthP.eq_1 @nthP.eq_2))) (Pr (Pr @nthP.eq_3 (Pr @cut0 @cutS)) (Pr (Pr @partP.eq_1 @partP.eq_2) (Pr @boundP.eq_1 @boundP.eq_2)))) (Pr (Pr (Pr @baseP.eq_1 (Pr @baseP.eq_2 @baseP.eq_3)) (Pr @baseP.eq_4 (Pr @baseP.eq_5 @baseP.eq_6))) (Pr (Pr @baseP.eq_7 (Pr @baseP.eq_8 @baseP.eq_9)) (Pr (Pr @ROp.base.eq_1 @ROp.base.eq_2) (Pr @ROp.base.eq_3 @ROp.base.eq_4)))))) (Pr (Pr (Pr (Pr (Pr @ROp.base.eq_5 (Pr @ROp.base.eq_6 @ROp.base.eq_7)) (Pr @ROp.base.eq_8 (Pr @ROp.base.eq_9 @ROp.base.eq_10))) (Pr (Pr @ROp.base.eq_11 (Pr @List.length_cons.{0} @List.length_nil.{0})) (Pr (Pr @List.drop_zero.{0} @List.drop_succ_cons.{0}) (Pr @List.take_zero.{0} @List.take_succ_cons.{0})))) (Pr (Pr (Pr @Option.map_some.{0,0} (Pr @Option.map_none.{0,0} @Option.bind_some.{0,0})) (Pr @Option.bind_none.{0,0} (Pr @Nat.zero_le @Option.isNone_none.{0}))) (Pr (Pr @Option.isNone_some.{0} (Pr @true_or @or_true)) (Pr (Pr @Nat.mul_one @Nat.sub_zero) (Pr @Int.natCast_nonneg @Int.toNat_natCast))))) (Pr (Pr (Pr (Pr @nc0 (Pr @nc1 @nc2)) (Pr @tn0 (Pr @tn1 @tn2))) (Pr (Pr @Int.le_refl (Pr @Int.lt_irrefl @Nat.lt_irrefl)) (Pr (Pr @Int.sub_self @Int.sub_zero) (Pr @and_self @flat_one)))) (Pr (Pr (Pr @true_and (Pr @and_true @Bool.and_true)) (Pr (Pr @Bool.true_and @Bool.false_and) (Pr @Bool.and_false @if_true.{0}))) (Pr (Pr @if_true.{1} (Pr @if_false.{0} @if_false.{1})) (Pr (Pr @ltL.eq_1 @ltL.eq_2) (Pr @lt.eq_1 @lt.eq_2))))))) (Pr (Pr (Pr (Pr (Pr (Pr @lt.eq_3 (Pr @lt.eq_4 @lt.eq_5)) (Pr @lt.eq_6 (Pr @lt.eq_7 @lt.eq_8))) (Pr (Pr @lt.eq_9 (Pr @ltFn.eq_1 @ltFn.eq_2)) (Pr (Pr @Option.isSome_some.{0} @Option.isSome_none.{0}) (Pr @Bool.false_eq_true @Nat.add_zero)))) (Pr (Pr (Pr @Nat.zero_add (Pr @allPlain.eq_1 @allPlain.eq_2)) (Pr @PW.wr.eq_1 (Pr @setO.eq_1 @setO.eq_2))) (Pr (Pr @killO.eq_1 (Pr @killO.eq_2 @Bool.or_self)) (Pr (Pr @Bool.or_false @Bool.false_or) (Pr @Bool.not_true @Bool.not_false))))) (Pr (Pr (Pr (Pr @Bool.true_bne (Pr @Bool.false_bne @Bool.bne_false)) (Pr @Bool.bne_true (Pr @resPs.eq_1 @resPs.eq_2))) (Pr (Pr @resP.eq_1 (Pr @resP.eq_2 @resP.eq_3)) (Pr (Pr @tupP.eq_1 @tupP.eq_2) (Pr @ltB_iff @leB_iff)))) (Pr (Pr (Pr @eqB_iff (Pr @neB_iff @decide_eq_true_eq)) (Pr (Pr @frzL.eq_1 @frzL.eq_2) (Pr @frzP.eq_1 @frzP.eq_2))) (Pr (Pr @frzP.eq_3 (Pr @frzP.eq_4 @frzP.eq_5)) (Pr (Pr @frzP.eq_6 @frzP.eq_7) (Pr @frzO.eq_1 @frzO.eq_2)))))) (Pr (Pr (Pr (Pr (Pr @frzO.eq_3 (Pr @frzO.eq_4 @frzE.eq_1)) (Pr @frzE.eq_2 (Pr @frzH.eq_1 @frzH.eq_2))) (Pr (Pr @noAlP.eq_1 (Pr @noAlP.eq_2 @noAlP.eq_3)) (Pr (Pr @pureL.eq_1 @pureL.eq_2) (Pr @pureP.eq_1 @pureP.eq_2)))) (Pr (Pr (Pr @pureP.eq_3 (Pr @pureP.eq_4 @pureP.eq_5)) (Pr @pureP.eq_6 (Pr @pureP.eq_7 @pureP.eq_8))) (Pr (Pr @pureP.eq_9 (Pr @renL.eq_1 @renL.eq_2)) (Pr (Pr @renP.eq_1 @renP.eq_2) (Pr @renP.eq_3 @renP.eq_4))))) (Pr (Pr (Pr (Pr @renP.eq_5 (Pr @renP.eq_6 @renP.eq_7)) (Pr @renP.eq_8 (Pr @renP.eq_9 @renO.eq_1))) (Pr (Pr @renO.eq_2 (Pr @renO.eq_3 @renO.eq_4)) (Pr (Pr @renE.eq_1 @renE.eq_2) (Pr @renH.eq_1 @renH.eq_2)))) (Pr (Pr (Pr @renA.eq_1 (Pr @renA.eq_2 @lkN.eq_1)) (Pr (Pr @lkN.eq_2 @maskP.eq_1) (Pr @maskP.eq_2 @maskP.eq_3))) (Pr (Pr @List.nil_append.{0} (Pr @List.append_nil.{0} @List.cons_append.{0})) (Pr (Pr @Nat.not_lt @ge_iff_le.{0}) (Pr @gt_iff_lt.{0} @Nat.le_refl)))))))))
theorem SW:type_of% sw0.down:=sw0.down
end Go.Proofs.YtnpoloachkcadaaGreatDoor.Ai
namespace Go.Proofs.YtnpoloachkcadaaGreatDoor.Ai
open Go
set_option linter.unusedSimpArgs false
set_option linter.unusedVariables false
set_option linter.unusedSectionVars false
def PMk (C:Ctx) (f:FuncId) (args:List PV) (A:PV→PW→Prop):Prop:=
 ∀ F I σ vargs,GRd I noE C.G→SRel F I noE .none σ→RdL I noE args vargs→∃ v σ' I' η' r π1,CTo C.P C.ng C.ts C.N0 f vargs σ v σ'∧Fol F 0 I noE σ I' η' σ'∧SRel F I' η' π1 σ'∧Rd I' η' r v∧A r π1
def FreeW (r:PV) (π1:PW):Prop:=freePv r=true∧∀ i o,look π1.heap i=some o→freeOb o=true
section
variable {C:Ctx} {f:FuncId} {args args0:List PV} {π:PW} {F:Nat→Prop} {I:Img} {η:Eta} {σ:AW} {A:PV→PW→Prop}
theorem PMk.useLent (h:PMk C f args0 A) (hA:∀ r π1,A r π1→FreeW r π1) (hp:pureL args0=true) (hg:Gh C 0 args π fun e' _=>e'=args0) (hG:GRd I noE C.G) (hs:SRel F I η π σ) {vargs:List Value} (ha:RdL I η args vargs) :
  ∃ v σ' η' r π1,A r π1∧CTo C.P C.ng C.ts C.N0 f vargs σ v σ'∧(σ.next < σ'.next∧(∀ i,i < σ.next→σ'.heap.get i=σ.heap.get i))∧η.le η'∧(∀ j,j < π.next→η' j=η j)∧SRel F I η' (π.with π1) σ'∧Rd I η' (shP π.next r) v:=by
 obtain ⟨I2,η2,e2,π2,f2,s2,r2,rfl⟩:=hg F I η σ vargs hG hs ha
 obtain ⟨v,σ',I',η1,r,π1,h1,h2,h3,h4,hA0⟩:=h (fun i=>i < σ.next) I2 σ vargs (hG.le f2.im) (s2.none _ (fun _ h=>h)) (r2.toPure hp)
 have him:∀ i,I' i=none→I i=none:=fun i hi=>by
  cases hx:I i with
  | none=>rfl
  | some vs=>
   have:=h2.im.c _ _ (f2.im.c _ _ hx)
   rw [hi] at this;cases this
 have hlt:∀ j o a,look π.heap j=some o→η j=some a→a < σ.next:=by
  intro j o a hj ha
  obtain ⟨a',_,ha',hl,_⟩:=hs.obj j o hj
  rw [ha] at ha';cases ha';exact hl
 have hget:∀ i,i < σ.next→σ'.heap.get i=σ.heap.get i:=fun i hi=>(h2.fr i hi).1
 have hold:∀ j,j < π.next→(η.sh η1 π.next) j=η j:=fun j hj=>by simp only [Eta.sh];rw [if_pos hj]
 have hlk:∀ j o,look π.heap j=some o→j < π.next:=fun j o hj=>by
  obtain ⟨a,_,ha,_⟩:=hs.obj j o hj
  exact hs.fresh j a ha
 have hnew:∀ i,(η.sh η1 π.next) (i + π.next)=η1 i:=fun i=>by simp only [Eta.sh];rw [if_neg (by omega),Nat.add_sub_cancel]
 have hle:η.le (η.sh η1 π.next):=fun j a ha=>by rw [hold j (hs.fresh j a ha)];exact ha
 have hge:∀ i o a,look π1.heap i=some o→η1 i=some a→¬ a < σ.next:=fun i o a hi ha=>h3.fo i o a hi ha
 have hcase:∀ j o,look (shH π.next π.heap π1.heap) j=some o→(∃ i o',j=i + π.next∧look π1.heap i=some o'∧o=shO π.next o')∨(j < π.next∧look π.heap j=some o):=by
  intro j o hj
  rcases look_shH hj with h | h
  ·exact .inl h
  ·exact .inr ⟨hlk j o h,h⟩
 have hnext:σ.next≤σ'.next:=h2.next
 obtain ⟨hr,hh⟩:=hA r π1 hA0
 refine ⟨v,σ'.bump,η.sh η1 π.next,r,π1,hA0,h1.bump,⟨Nat.lt_succ_of_le hnext,hget⟩,hle,hold,?_,shP_sim (h4.free hr)⟩
 constructor
 ·intro i b hi;exact Nat.lt_succ_of_lt (h3.hn i b hi)
 ·intro i hi;exact Nat.lt_succ_of_le (Nat.le_trans (Nat.le_of_lt (hs.fn i hi)) hnext)
 ·intro j o a hj ha hf
  rcases hcase j o hj with ⟨i,o',rfl,hi,_⟩ | ⟨hjl,hj⟩
  ·rw [hnew] at ha
   exact hge i o' a hi ha (hs.fn a hf)
  ·rw [hold j hjl] at ha;exact hs.fo j o a hj ha hf
 ·intro i vs hi
  obtain ⟨g1,b,g2,g3⟩:=hs.img i vs hi
  exact ⟨Nat.lt_succ_of_le (Nat.le_trans (Nat.le_of_lt g1) hnext),b,by show σ'.heap.get i=_;rw [hget i g1];exact g2,g3⟩
 ·intro j a ha
  simp only [PW.with]
  simp only [Eta.sh] at ha
  split at ha
  ·omega
  ·have:=h3.fresh _ a ha;omega
 ·intro j o hj
  rcases hcase j o hj with ⟨i,o',rfl,hi,rfl⟩ | ⟨hjl,hj⟩
  ·obtain ⟨a,b,g1,g2,g3,g4⟩:=h3.obj i o' hi
   exact ⟨a,b,by rw [hnew];exact g1,Nat.lt_succ_of_lt g2,g3,shO_sim (g4.free (hh i o' hi))⟩
  ·obtain ⟨a,b,g1,g2,g3,g4⟩:=hs.obj j o hj
   exact ⟨a,b,by rw [hold j hjl];exact g1,Nat.lt_succ_of_le (Nat.le_trans (Nat.le_of_lt g2) hnext),by show σ'.heap.get a=_;rw [hget a g2];exact g3,g4.mono (Img.le_refl _) hle⟩
 ·intro j l oj ol c hj hl hcj hcl
  rcases hcase j oj hj with ⟨i,o',rfl,hi,_⟩ | ⟨hjl,hj⟩ <;> rcases hcase l ol hl with ⟨i2,o2,rfl,hi2,_⟩ | ⟨hll,hl⟩
  ·rw [hnew] at hcj hcl;rw [h3.inj i i2 _ _ c hi hi2 hcj hcl]
  ·rw [hnew] at hcj;rw [hold l hll] at hcl;exact absurd (hlt l _ c hl hcl) (hge i o' c hi hcj)
  ·rw [hnew] at hcl;rw [hold j hjl] at hcj;exact absurd (hlt j _ c hj hcj) (hge i2 o2 c hi2 hcl)
  ·rw [hold j hjl] at hcj;rw [hold l hll] at hcl;exact hs.inj j l _ _ c hj hl hcj hcl
 ·intro j o a hj ha
  rcases hcase j o hj with ⟨i,o',rfl,hi,_⟩ | ⟨hjl,hj⟩
  ·rw [hnew] at ha;exact him a (h3.sep i o' a hi ha)
  ·rw [hold j hjl] at ha;exact hs.sep j o a hj ha
 ·intro j cs ty esz ex ret al a b hj ha hb i hi
  rcases hcase j _ hj with ⟨i',o',rfl,hi',ho⟩ | ⟨hjl,hj⟩
  ·rw [hnew] at ha
   cases o' <;> simp only [shO,PObj.cells.injEq,reduceCtorEq] at ho
   obtain ⟨g1,g2,g3,g4⟩:=h3.al i' _ _ _ _ _ _ _ _ hi' ha hb i hi
   refine ⟨Nat.lt_succ_of_lt g1,him i g2,fun hf=>g3 (hs.fn i hf),fun m o hm hcm=>?_⟩
   rcases hcase m o hm with ⟨m',o2,rfl,hm',_⟩ | ⟨hml,hm⟩
   ·rw [hnew] at hcm
    rw [ho.2.2.2.2.2];exact mem_shA (g4 m' o2 hm' hcm)
   ·rw [hold m hml] at hcm
    have hl:=hlt m _ i hm hcm
    obtain ⟨a',b',q1,_,q2,_⟩:=hs.obj m _ hm
    rw [hcm] at q1;cases q1
    have q3:σ'.heap.get i=none:=g3 hl
    rw [hget i hl,q2] at q3
    cases q3
  ·rw [hold j hjl] at ha
   have hl:=hlt j _ a hj ha
   obtain ⟨g1,g2,g3,g4⟩:=hs.al j _ _ _ _ _ _ _ _ hj ha (by rw [← hget a hl];exact hb) i hi
   refine ⟨Nat.lt_succ_of_le (Nat.le_trans (Nat.le_of_lt g1) hnext),g2,fun hf=>by show σ'.heap.get i=none;rw [hget i g1];exact g3 hf,fun m o hm hcm=>?_⟩
   rcases hcase m o hm with ⟨m',o2,rfl,hm',_⟩ | ⟨hml,hm⟩
   ·rw [hnew] at hcm;exact absurd g1 (hge m' o2 i hm' hcm)
   ·rw [hold m hml] at hcm;exact g4 m o hm hcm
theorem PMk.lentT (h:PMk C f args0 A) (hA:∀ r π1,A r π1→FreeW r π1) (hp:pureL args0=true) (hg:Gh C 0 args π fun e' _=>e'=args0) {B:PV→PW→Prop} (hB:∀ r π1,A r π1→B (shP π.next r) (π.with π1)):PTo C f args π B:=by
 intro F I η σ vargs hG hs ha
 obtain ⟨v,σ',η',r,π1,h0,h1,⟨h2,h3⟩,h5,h6,h7,h8⟩:=h.useLent hA hp hg hG hs ha
 exact ⟨v,σ',I,η',_,_,h1,⟨Nat.le_of_lt h2,fun i hi=>⟨h3 i (hs.fn i hi),rfl⟩,Img.le_refl _,fun j hj=>by omega⟩,h5,h6,h7,h8,hB r π1 h0⟩
theorem PMk.lent {b:Nat} {e:List PV} (h:PMk C f args0 A) (hA:∀ r π1,A r π1→FreeW r π1) (hp:pureL args0=true) (hg:Gh C 0 args π fun e' _=>e'=args0) {B:PV→PW→Prop} (hB:∀ r π1,A r π1→B (shP π.next r) (π.with π1)) (hb:b≤π.next:=by exact Nat.zero_le _):PToE C b e f args π B:=(h.lentT hA hp hg hB).toE hb
theorem PMk.to {b:Nat} {e:List PV} (h:PMk C f args A) (hA:∀ r π1,A r π1→FreeW r π1) (hp:pureL args=true) {B:PV→PW→Prop} (hB:∀ r π1,A r π1→B (shP π.next r) (π.with π1)) (hb:b≤π.next:=by exact Nat.zero_le _):PToE C b e f args π B:=h.lent hA hp (.refl rfl) hB hb
theorem PMk.mono {B:PV→PW→Prop} (h:PMk C f args A) (k:∀ r π1,A r π1→B r π1):PMk C f args B:=fun F I σ vargs hG hs hr=>by
 obtain ⟨v,σ',I',η',r,π1,h1,h2,h3,h4,h5⟩:=h F I σ vargs hG hs hr
 exact ⟨v,σ',I',η',r,π1,h1,h2,h3,h4,k _ _ h5⟩
theorem PMk.wkA (h:PMk C f args0 A) (k:WkL args args0):PMk C f args A:=fun F I σ vargs hG hs hr=>h F I σ vargs hG hs (k _ _ _ hr)
theorem PMk.body (hm:C.P.follows .mixedOrders=true) {tab:Tr IFunc} (hC:TabOK C.P C.ng C.ts tab) {ifn:IFunc} (hf:tab.get f=some ifn)
  (h:PRun C 0 ifn.body (startP ifn args) .none fun x t π'=>(x = .normal∨x = .ret)∧Gh C 0 t π' fun t π'=>∃ rs,resPs t π' ifn.results=some rs∧A (tupP rs) π'):PMk C f args A:=by
 intro F I σ vargs hG hs hr
 obtain ⟨v,σ',I',η',r',π',h1,h2,h3,h4,h5,h6,h7⟩:=PTo.of_body hm hC hf (PRun.after (h.mono fun x t π hx=>hx.2.mono fun t π ha=>⟨hx.1,ha⟩)) F I noE σ vargs hG hs hr
 exact ⟨v,σ',I',η',r',π',h1,h2,h5,h6,h7⟩
theorem PMk.body2 (hm:C.P.follows .mixedOrders=true) {tab:Tr IFunc} (hC:TabOK C.P C.ng C.ts tab) {ifn:IFunc} (hf:tab.get f=some ifn)
  (h:PRun C 0 ifn.body (startP ifn args) .none fun x t π'=>(x = .normal∨x = .ret)∧Gh C 0 t π' fun t π'=>∃ rs,resPs t π' ifn.results=some rs∧Gh C 0 [tupP rs] π' fun e π2=>∃ r,e=[r]∧A r π2):PMk C f args A:=by
 intro F I σ vargs hG hs hr
 obtain ⟨v,σ',I',η',r',π',h1,h2,h3,h4,h5,h6,h7⟩:=PTo.of_body hm hC hf (A:=fun r π'=>Gh C 0 [r] π' fun e π2=>∃ r,e=[r]∧A r π2) (PRun.after (h.mono fun x t π hx=>hx.2.mono fun t π ha=>⟨hx.1,ha⟩)) F I noE σ vargs hG hs hr
 obtain ⟨I2,η2,e2,π2,f2,s2,r2,r3,rfl,ha⟩:=h7 F I' η' σ' [v] (hG.le h2.im) h5 (by simp only [RdL];exact ⟨h6,trivial⟩)
 simp only [RdL] at r2
 exact ⟨v,σ',I2,η2,r3,π2,h1,h2.trans f2,s2,r2.1,ha⟩
theorem PDE.mk {b:Nat} {l:List IOper} {fin:DStage} {st:List DStage} {S:List Nat} {e:List PV} {Q:List PV→PW→Prop} {as:List Opd} {d:Option Nat} (hf:PMk C f args0 A) (hA:∀ r π1,A r π1→FreeW r π1) (hp:pureL args0=true)
  (hg:Gh C 0 (evsP C.G e as) π fun e' _=>e'=args0) (h:∀ r π1,A r π1→PDraw C b l fin st (S.filter (freeJ l d)) (putP e d (shP π.next r)) (π.with π1) Q) (hb0:b≤π.next:=by exact Nat.zero_le _):PDE C b l fin st S (.call f as) d e π Q:=by
 intro F I η σ env hG hs hr hy
 obtain ⟨v,σ1,η1,r,π1,h0,h1,⟨h2,h4⟩,h5,h6,h7,h8⟩:=hf.useLent hA hp hg hG hs (evsP_sim (hG.any η) hr as)
 obtain ⟨M,env',σ',I',η',e',π',k1,k2,k3,k4,k5⟩:=h r π1 h0 F I η1 σ1.bump (put env d v) hG h7.bump (rdL_putP (hr.mono (Img.le_refl _) h5) _ h8) ((hy.congr (σ':=σ1.bump) (Nat.le_succ_of_le (Nat.le_of_lt h2)) fun k hk=>h4 k hk).put d v)
 have hb:=LB.one ⟨f,evs env as,σ,v,σ1.bump,false⟩ (b:=σ1.bump.next) (Nat.lt_succ_of_lt h2)
 exact ⟨Lcat σ1.bump.next (Lone ⟨f,evs env as,σ,v,σ1.bump,false⟩) M,v,σ1.bump,env',σ',I',η',e',π',(LOK.one h1.bump).cat k1 _,hb.cat k2 (Nat.le_succ_of_le (Nat.le_of_lt h2)) k4.next,
  runE_mono (KL_left hb) (KL_one ⟨f,evs env as,σ,v,σ1.bump,false⟩ rfl),runDraw_mono (KL_right k2) k3,Fol.trans (σ1:=σ1.bump) ⟨Nat.le_succ_of_le (Nat.le_of_lt h2),fun i hi=>⟨h4 i (hs.fn i hi),rfl⟩,Img.le_refl _,fun j hj=>h6 j (by omega)⟩ k4,k5⟩
end
open Classical in
noncomputable def lendI (I:Img) (η:Eta) (H:List (Nat × PObj)) (σ:AW):Img where
 c i:=match I i with
  | some vs=>some vs
  | none=>if ∃ j cs ty esz ex al,look H j=some (.cells cs ty esz ex false al)∧η j=some i then (σ.cells? i).map (·.cs) else none
 x i:=if (I i).isSome=true then I.x i else ∃ b,σ.cells? i=some b∧b.exact=true
theorem lendI_le (I:Img) (η:Eta) (H:List (Nat × PObj)) (σ:AW):I.le (lendI I η H σ):=by
 constructor
 ·intro i vs h;simp only [lendI,h]
 ·intro i vs h hx
  simp only [lendI,h,Option.isSome_some,if_true];exact hx
theorem lendI_at {F:Nat→Prop} {I:Img} {η:Eta} {π:PW} {σ:AW} (hs:SRel F I η π σ) {j a:Nat} {cs:List PV} {ty esz:Nat} {ex:Bool} {al:List Nat} (hj:look π.heap j=some (.cells cs ty esz ex false al)) (ha:η j=some a) :
  ∃ b,σ.cells? a=some b∧RdL I η cs b.cs∧(lendI I η π.heap σ) a=some b.cs∧(ex=true→(lendI I η π.heap σ).x a):=by
 obtain ⟨a',bk,g1,g2,g3,g4⟩:=hs.obj j _ hj
 rw [ha] at g1;cases g1
 cases bk <;> simp only [ORd] at g4
 rename_i b
 have hc:σ.cells? a=some b:=by simp only [AW.cells?,g3]
 have h0:=hs.sep j _ a hj ha
 refine ⟨b,hc,g4.1,?_,fun hx=>?_⟩
 ·simp only [lendI,h0]
  rw [if_pos ⟨j,cs,ty,esz,ex,al,hj,ha⟩,hc];rfl
 ·simp only [lendI,h0,Option.isSome_none,Bool.false_eq_true,if_false]
  exact ⟨b,hc,by rw [g4.2.2.2.1];exact hx⟩
theorem SRel.lendAll {F:Nat→Prop} {I:Img} {η:Eta} {π:PW} {σ:AW} (hs:SRel F I η π σ):SRel F (lendI I η π.heap σ) noE ⟨π.next,[]⟩ σ:=by
 refine ⟨hs.hn,hs.fn,fun j o a h=>by simp [look] at h,fun i vs h=>?_,fun j a h=>by simp at h,fun j o h=>by simp [look] at h,fun j k oj ok a h=>by simp [look] at h,fun j o a h=>by simp [look] at h,fun j cs ty esz ex ret al a b h=>by simp [look] at h⟩
 cases h0:I i with
 | some us=>
  simp only [lendI,h0,Option.some.injEq] at h
  subst h
  obtain ⟨g1,b,g2,g3,g4,g5⟩:=hs.img i us h0
  exact ⟨g1,b,g2,g3,g4,fun hx=>g5 (by simpa only [lendI,h0,Option.isSome_some,if_true] using hx)⟩
 | none=>
  simp only [lendI,h0] at h
  split at h
  ·rename_i hj
   obtain ⟨j,cs,ty,esz,ex,al,hj,ha⟩:=hj
   obtain ⟨a',bk,g1,g2,g3,g4⟩:=hs.obj j _ hj
   rw [ha] at g1;cases g1
   cases bk <;> simp only [ORd] at g4
   rename_i b
   have hc:σ.cells? i=some b:=by simp only [AW.cells?,g3]
   rw [hc] at h
   simp only [Option.map_some,Option.some.injEq] at h
   refine ⟨g2,b,g3,h,g4.2.2.2.2.1,fun hx=>?_⟩
   simp only [lendI,h0,Option.isSome_none,Bool.false_eq_true,if_false] at hx
   obtain ⟨b',h1,h2⟩:=hx
   rw [hc] at h1;cases h1;exact h2
  ·simp at h
def Lends (π:PW) (p p':PV):Prop:=∀ F I η σ,SRel F I η π σ→∀ v,Rd I η p v→Rd (lendI I η π.heap σ) noE p' v
def LendsL (π:PW) (e e':List PV):Prop:=∀ F I η σ,SRel F I η π σ→∀ v,RdL I η e v→RdL (lendI I η π.heap σ) noE e' v
section
variable {π:PW} {p p' q:PV} {e e' d d':List PV}
theorem Lends.pure (h:pureP p=true):Lends π p p:=fun F I η σ hs v hv=>(hv.toPure h).mono (lendI_le _ _ _ _) (Eta.le_refl _)
theorem LendsL.pure (h:pureL e=true):LendsL π e e:=fun F I η σ hs v hv=>(hv.toPure h).mono (lendI_le _ _ _ _) (Eta.le_refl _)
theorem Lends.wk (h:Lends π p p') (k:Wk p' q):Lends π p q:=fun F I η σ hs v hv=>k _ _ _ (h F I η σ hs v hv)
theorem LendsL.wk (h:LendsL π e e') (k:WkL e' d):LendsL π e d:=fun F I η σ hs v hv=>k _ _ _ (h F I η σ hs v hv)
theorem LendsL.nil:LendsL π [] []:=fun F I η σ hs v hv=>by cases v <;> simp only [RdL] at hv ⊢
theorem LendsL.cons (h:Lends π p p') (k:LendsL π e e'):LendsL π (p::e) (p'::e'):=fun F I η σ hs v hv=>by
 cases v <;> simp only [RdL] at hv ⊢
 exact ⟨h F I η σ hs _ hv.1,k F I η σ hs _ hv.2⟩
theorem Lends.agg (h:LendsL π e e'):Lends π (.agg e) (.agg e'):=fun F I η σ hs v hv=>by
 simp only [Rd] at hv ⊢
 obtain ⟨x,rfl,hx⟩:=hv
 exact ⟨x,rfl,h F I η σ hs x hx⟩
theorem LendsL.append:∀ {e e':List PV},LendsL π e e'→e.length=e'.length→LendsL π d d'→LendsL π (e++d) (e'++d'):=by
 intro e e' h hl k F I η σ hs v hv
 have hlen:=rdL_len hv
 obtain ⟨v1,v2,rfl,h1⟩:∃ v1 v2,v=v1++v2∧e.length=v1.length:=⟨v.take e.length,v.drop e.length,(List.take_append_drop _ _).symm,by rw [List.length_take,← hlen,List.length_append];omega⟩
 obtain ⟨g1,g2⟩:=rdL_split h1 hv
 exact (h F I η σ hs _ g1).append (k F I η σ hs _ g2)
theorem LendsL.drop (h:LendsL π e e') (hl:e.length=e'.length):True:=trivial
theorem Lends.loc {id n cap:Nat} {cs cs':List PV} {ty esz:Nat} {ex:Bool} {al:List Nat} (hj:look π.heap id=some (.cells cs ty esz ex false al)) (h:LendsL π cs cs') (hn:n≤cap):Lends π (.loc id 0 n cap) (.sl cs' n):=fun F I η σ hs v hv=>by
 simp only [Rd] at hv ⊢
 obtain ⟨a,ha,rfl⟩:=hv
 obtain ⟨b,g1,g2,g3,g4⟩:=lendI_at hs hj ha
 exact ⟨a,0,cap,b.cs,b.cs,[],rfl,hn,g3,by simp,h F I η σ hs _ g2⟩
theorem Lends.locX {id n cap:Nat} {cs cs':List PV} {ty esz:Nat} {al:List Nat} (hj:look π.heap id=some (.cells cs ty esz true false al)) (h:LendsL π cs cs') (hn:n≤cap):Lends π (.loc id 0 n cap) (.sp cs' n cap):=fun F I η σ hs v hv=>by
 simp only [Rd] at hv ⊢
 obtain ⟨a,ha,rfl⟩:=hv
 obtain ⟨b,g1,g2,g3,g4⟩:=lendI_at hs hj ha
 exact ⟨a,0,b.cs,b.cs,[],rfl,hn,g3,by simp,g4 rfl,h F I η σ hs _ g2⟩
theorem Lends.ptr {id:Nat} {cs cs':List PV} {ty esz:Nat} {ex:Bool} {al:List Nat} (hj:look π.heap id=some (.cells cs ty esz ex false al)) (h:LendsL π cs cs'):Lends π (.ptr id 0) (.ref cs'):=fun F I η σ hs v hv=>by
 simp only [Rd] at hv ⊢
 obtain ⟨a,ha,rfl⟩:=hv
 obtain ⟨b,g1,g2,g3,g4⟩:=lendI_at hs hj ha
 exact ⟨a,0,b.cs,b.cs,[],rfl,g3,by simp,h F I η σ hs _ g2⟩
theorem Gh.lends {C:Ctx} (h:LendsL π e e'):Gh C 0 e π fun e'' _=>e''=e':=by
 intro F I η σ env hG hs hr
 refine ⟨lendI I η π.heap σ,noE,e',⟨π.next,[]⟩,⟨Nat.le_refl _,fun i hi=>⟨rfl,?_⟩,lendI_le _ _ _ _,fun j hj=>by omega⟩,hs.lendAll,h F I η σ hs env hr,rfl⟩
 cases h0:I i with
 | some vs=>simp only [lendI,h0]
 | none=>
  simp only [lendI,h0]
  rw [if_neg]
  rintro ⟨j,cs,ty,esz,ex,al,hj,ha⟩
  exact hs.fo j _ i hj ha hi
end
theorem PFun.lendA {C:Ctx} {b:Nat} {e:List PV} {f:FuncId} {args args0:List PV} {u:Value} {π:PW} (h:PFun C f args0 (.lit u)) (hp:pureL args0=true) (hl:LendsL π args args0) {A:PV→PW→Prop} (hA:A (.lit u) π) (hb:b≤π.next:=by exact Nat.zero_le _):PToE C b e f args π A:=h.lent hp (Gh.lends hl) hA hb
def clrO (S:Nat→Bool):PObj→PObj
 | .cells cs ty esz ex ret al=>.cells cs ty esz ex ret (al.filter S)
 | o=>o
def pick (S:Nat→Bool):List (Nat × PObj)→List (Nat × PObj)
 | []=>[]
 | (j,o)::h=>if S j=true then (j,clrO S o)::pick S h else pick S h
theorem look_pick {S:Nat→Bool} {j:Nat}:∀ {H:List (Nat × PObj)},look (pick S H) j=if S j=true then (look H j).map (clrO S) else none
 | []=>by simp [pick,look]
 | (i,o)::H=>by
  unfold pick
  have ih:=look_pick (S:=S) (j:=j) (H:=H)
  by_cases hi:S i=true
  ·rw [if_pos hi]
   simp only [look]
   by_cases hji:j=i
   ·subst hji;simp [hi]
   ·rw [if_neg hji,if_neg hji,ih]
  ·rw [if_neg hi]
   simp only [look]
   by_cases hji:j=i
   ·subst hji
    rw [ih,if_neg hi,if_neg hi]
   ·rw [if_neg hji,ih]
theorem pick_some {S:Nat→Bool} {j:Nat} {H:List (Nat × PObj)} {o:PObj} (h:look (pick S H) j=some o):S j=true∧∃ o',look H j=some o'∧o=clrO S o':=by
 rw [look_pick] at h
 split at h
 ·rename_i hj
  cases ho:look H j with
  | none=>rw [ho] at h;simp at h
  | some o'=>rw [ho] at h;exact ⟨hj,o',rfl,(Option.some.inj h).symm⟩
 ·simp at h
theorem ORd.clr {I:Img} {η:Eta} {S:Nat→Bool} {o:PObj} {b:Blk} (h:ORd I η o b):ORd I η (clrO S o) b:=by
 cases o <;> cases b <;> simp only [ORd,clrO] at h ⊢ <;> exact h
theorem SRel.pick {F:Nat→Prop} {I:Img} {η:Eta} {π:PW} {σ:AW} (S:Nat→Bool) (h:SRel F I η π σ):SRel F I η ⟨π.next,Ai.pick S π.heap⟩ σ:=
 ⟨h.hn,h.fn,fun j o a hj ha=>by
  obtain ⟨_,o',g,_⟩:=pick_some hj
  exact h.fo j o' a g ha,h.img,h.fresh,fun j o hj=>by
  obtain ⟨_,o',g,rfl⟩:=pick_some hj
  obtain ⟨a,b,h1,h2,h3,h4⟩:=h.obj j o' g
  exact ⟨a,b,h1,h2,h3,h4.clr⟩,fun j k oj ok a hj hk=>by
  obtain ⟨_,o',g,_⟩:=pick_some hj
  obtain ⟨_,o2,g2,_⟩:=pick_some hk
  exact h.inj j k o' o2 a g g2,fun j o a hj=>by
  obtain ⟨_,o',g,_⟩:=pick_some hj
  exact h.sep j o' a g,
  fun j cs ty esz ex ret al a b hj ha hb i hi=>by
   obtain ⟨_,o',g,he⟩:=pick_some hj
   cases o' <;> simp only [clrO,PObj.cells.injEq,reduceCtorEq] at he
   rename_i cs' ty' esz' ex' ret' al'
   obtain ⟨g1,g2,g3,g4⟩:=h.al j _ _ _ _ _ _ a b g ha hb i hi
   refine ⟨g1,g2,g3,fun k o hk hki=>?_⟩
   obtain ⟨hS,o2,k2,_⟩:=pick_some hk
   rw [he.2.2.2.2.2,List.mem_filter]
   exact ⟨g4 k o2 k2 hki,hS⟩⟩
theorem Gh.pick {C:Ctx} {b:Nat} {e:List PV} {π:PW} {A:List PV→PW→Prop} (S:Nat→Bool) (h:A e ⟨π.next,Ai.pick S π.heap⟩):Gh C b e π A:=by
 intro F I η σ env hG hr he
 exact ⟨I,η,e,⟨π.next,Ai.pick S π.heap⟩,.refl,hr.pick S,he,h⟩
def dropO (c:Nat):List (Nat × PObj)→List (Nat × PObj)
 | []=>[]
 | (j,o)::h=>if j=c then dropO c h else (j,o)::dropO c h
theorem look_dropO {c j:Nat}:∀ {H:List (Nat × PObj)},look (dropO c H) j=if j=c then none else look H j
 | []=>by simp [dropO,look]
 | (i,o)::H=>by
  unfold dropO
  have ih:=look_dropO (c:=c) (j:=j) (H:=H)
  by_cases hi:i=c
  ·rw [if_pos hi,ih]
   simp only [look]
   by_cases hj:j=c
   ·rw [if_pos hj,if_pos hj]
   ·rw [if_neg hj,if_neg hj,if_neg (fun e=>hj (e.trans hi))]
  ·rw [if_neg hi]
   simp only [look]
   by_cases hji:j=i
   ·subst hji;rw [if_pos rfl,if_neg hi,if_pos rfl]
   ·rw [if_neg hji,if_neg hji,ih]
theorem dropO_ne {c j:Nat} {H:List (Nat × PObj)} (h:¬ j=c):look (dropO c H) j=look H j:=by rw [look_dropO,if_neg h]
theorem SRel.alike {F:Nat→Prop} {I:Img} {η:Eta} {π:PW} {σ:AW} {H':List (Nat × PObj)} (h:SRel F I η π σ)
  (hs:∀ j o',look H' j=some o'→look π.heap j=some o'∨∃ cs ty esz ex ret al al',look π.heap j=some (.cells cs ty esz ex ret al)∧o' = .cells cs ty esz ex ret al'∧∀ k∈al,look H' k ≠ Option.none→k∈al'):SRel F I η ⟨π.next,H'⟩ σ:=by
 have hd:∀ {j o'},look H' j=some o'→∃ o,look π.heap j=some o:=fun hj=>by
  rcases hs _ _ hj with h1 | ⟨_,_,_,_,_,_,_,h1,_⟩
  ·exact ⟨_,h1⟩
  ·exact ⟨_,h1⟩
 refine ⟨h.hn,h.fn,fun j o a hj ha=>?_,h.img,h.fresh,fun j o hj=>?_,fun j k oj ok a hj hk=>?_,fun j o a hj=>?_,fun j cs ty esz ex ret al a b hj ha hb i hi=>?_⟩
 ·obtain ⟨o',g⟩:=hd hj
  exact h.fo j o' a g ha
 ·rcases hs _ _ hj with h1 | ⟨_,_,_,_,_,_,_,h1,rfl,_⟩
  ·exact h.obj j o h1
  ·obtain ⟨a,b,g1,g2,g3,g4⟩:=h.obj j _ h1
   exact ⟨a,b,g1,g2,g3,by cases b <;> simp only [ORd] at g4 ⊢;exact g4⟩
 ·obtain ⟨o1,g1⟩:=hd hj
  obtain ⟨o2,g2⟩:=hd hk
  exact h.inj j k o1 o2 a g1 g2
 ·obtain ⟨o',g⟩:=hd hj
  exact h.sep j o' a g
 ·rcases hs _ _ hj with h1 | ⟨cs',ty',esz',ex',ret',al0,al',h1,he,h2⟩
  ·obtain ⟨g1,g2,g3,g4⟩:=h.al j _ _ _ _ _ _ a b h1 ha hb i hi
   refine ⟨g1,g2,g3,fun k o hk hki=>?_⟩
   obtain ⟨o2,k2⟩:=hd hk
   exact g4 k o2 k2 hki
  ·cases he
   obtain ⟨g1,g2,g3,g4⟩:=h.al j _ _ _ _ _ _ a b h1 ha hb i hi
   refine ⟨g1,g2,g3,fun k o hk hki=>?_⟩
   obtain ⟨o2,k2⟩:=hd hk
   exact h2 k (g4 k o2 k2 hki) (by rw [hk];simp)
theorem Gh.retire {C:Ctx} {b:Nat} {e:List PV} {n a c:Nat} {cs:List PV} {ty esz:Nat} {ex ret:Bool} {H:List (Nat × PObj)} {A:List PV→PW→Prop} (hac:¬ a=c) (h:Gh C b e ⟨n,(a,.cells cs ty esz ex ret [])::dropO c H⟩ A):Gh C b e ⟨n,(a,.cells cs ty esz ex ret [c])::H⟩ A:=by
 intro F I η σ env hG hr he
 refine h F I η σ env hG (hr.alike (H':=(a,.cells cs ty esz ex ret [])::dropO c H) fun j o' hj=>?_) he
 simp only [look] at hj ⊢
 split at hj
 ·rename_i e;subst e
  cases hj
  refine .inr ⟨cs,ty,esz,ex,ret,[c],[],by rw [if_pos rfl],rfl,fun k hk hne=>?_⟩
  simp only [List.mem_singleton] at hk
  subst hk
  rw [if_neg (fun e=>hac e.symm),look_dropO,if_pos rfl] at hne
  exact absurd rfl hne
 ·rename_i e
  rw [look_dropO] at hj
  split at hj
  ·simp at hj
  ·rw [if_neg e];exact .inl hj
end Go.Proofs.YtnpoloachkcadaaGreatDoor.Ai
namespace Go.Proofs.YtnpoloachkcadaaGreatDoor.Ai
open Go
set_option linter.unusedSimpArgs false
set_option linter.unusedVariables false
set_option linter.unusedSectionVars false
section
variable {C:Ctx} {b:Nat} {l:List IOper} {fin:DStage} {st:List DStage} {S:List Nat} {e:List PV} {π:PW} {Q:List PV→PW→Prop}
theorem PDraw.stageS {s:DStage} (hb:b≤π.next) (hc:∀ {F I η σ env},GRd I noE C.G→SRel F I η π σ→RdL I η e env→chkR l env σ s.chk=true) (h:wpX C.G l π.next s.xs e π fun e1 π1=>wpDE C b l fin st (afterX l s.xs S) s.e e1 π1 Q):PDraw C b l fin (s::st) S e π Q:=by
 intro F I η σ env hG hs hr hy
 obtain ⟨env1,σ1,η1,e1,π1,w1,w2,w3,w4,w5,w6,w7,w8,w9,w10,w11⟩:=wpX_sim hG hs hr (stg0 hs) (Nat.le_refl _) hy h
 have f1:Fol F b I η σ I η1 σ1:=.of_stage hb w8 w9 w10
 have hy1:Sync l env1 σ1 (afterX l s.xs S):=w6.congr w4.next w4.keep
 unfold wpDE at w7
 split at w7
 ·exact w7.elim
 ·rename_i o ho
  split at w7
  ·exact w7.elim
  ·rename_i hw
   obtain ⟨L,env',σ',I',η',e',π',h1,h2,h3,h4,h5⟩:=w7 F I η1 σ1 (put env1 o.dst undef) hG w2 (rdL_putP w3 _ rd_undef) (hy1.put _ _)
   refine ⟨L,env',σ',I',η',e',π',h1,fun n E hE=>⟨Nat.le_trans f1.next (h2 n E hE).1,(h2 n E hE).2⟩,?_,f1.trans h4,h5⟩
   simp only [runDraw,hc hG hs hr,if_true,w1,ho,wantedP_sim w3 hw]
   exact h3
  ·rename_i hw
   split at w7
   ·rename_i q hq
    obtain ⟨L,v,σ2,env',σ',I',η',e',π',h1,h2,h3,h3',h4,h5⟩:=w7 F I η1 σ1 env1 hG w2 w3 hy1
    refine ⟨L,env',σ',I',η',e',π',h1,fun n E hE=>⟨Nat.le_trans f1.next (h2 n E hE).1,(h2 n E hE).2⟩,?_,f1.trans h4,h5⟩
    simp only [runDraw,hc hG hs hr,if_true,w1,ho,wantedP_sim w3 hw,hq,h3]
    exact h3'
   ·exact w7.elim
end
theorem loc_fun {I:Img} {η:Eta} {a o n c:Nat} {v w:Value} (h:Rd I η (.loc a o n c) v) (k:Rd I η (.loc a o n c) w):v=w:=by
 simp only [Rd] at h k
 obtain ⟨x,hx,rfl⟩:=h
 obtain ⟨y,hy,rfl⟩:=k
 rw [hx] at hy;cases hy;rfl
theorem chk1 {G:PG} {l:List IOper} {e:List PV} {π:PW} {i d:Nat} {q:ROp} {p:PV} (ho:nthO l i=some ⟨some d,.r q,none⟩) (hq:pevR G e π q=some p) (hd:getP e d=p) (hp:p = .lit (.slice none 0 0)∨∃ a o n c,p = .loc a o n c)
  {F:Nat→Prop} {I:Img} {η:Eta} {σ:AW} {env:List Value} (hG:GRd I noE G) (hs:SRel F I η π σ) (hr:RdL I η e env):chkR l env σ [i]=true:=by
 obtain ⟨v,hv,hrv⟩:=pevR_sim (hG.any η) hr hs hq
 have h2:=rd_getP hr d
 rw [hd] at h2
 have hvw:v=getV env d:=by
  rcases hp with rfl | ⟨a,o,n,c,rfl⟩
  ·obtain ⟨h3,_⟩:=rd_lit hrv
   obtain ⟨h4,_⟩:=rd_lit h2
   rw [h3,h4]
  ·exact loc_fun hrv h2
 have hb:beqV v v=true:=by
  refine flatP_sim hrv ?_
  rcases hp with rfl | ⟨a,o,n,c,rfl⟩ <;> rfl
 simp only [chkR,ho,IOper.wanted,if_true,hv,← hvw,hb,Bool.and_self]
end Go.Proofs.YtnpoloachkcadaaGreatDoor.Ai
