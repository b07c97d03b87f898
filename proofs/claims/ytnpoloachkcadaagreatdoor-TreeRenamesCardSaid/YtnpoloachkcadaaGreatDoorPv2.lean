/- A PART OF THE PROOF: a step of the proof that the law's code does what its contracts say, by an interpreter of the program's functions that is proved to be sound. -/
import Derived.Test.YtnpoloachkcadaaGreatDoorPv1
import Derived.Below
import Derived.ChangeSlices
namespace Go.Proofs.YtnpoloachkcadaaGreatDoor.Ai
open Go
set_option linter.unusedSimpArgs false
set_option linter.unusedVariables false
def undefP:PV:=.lit undef
def wantB (want:Bool):PV→Option Bool
 | .lit (.bool b)=>some (b == want)
 | .lit _=>some false
 | _=>none
theorem wantB_b {w b:Bool}:wantB w (.lit (.bool b))=some (b == w):=rfl
theorem wantB_u {w:Bool}:wantB w undefP=some false:=rfl
def wantedP (e:List PV):Option (Nat × Bool)→Option Bool
 | none=>some true
 | some (j,want)=>wantB want (getP e j)
def putP (e:List PV) (d:Option Nat) (v:PV):List PV:=
 match d with
 | some d=>setP e d v
 | none=>e
section
variable {F:Nat→Prop} {b:Nat} {I:Img} {η:Eta} {G:PG} {e:List PV} {env:List Value} {π π':PW} {σ:AW}
theorem rdL_setP (h:RdL I η e env) (d:Nat) {p:PV} {v:Value} (hp:Rd I η p v):RdL I η (setP e d p) (setV env d v):=by
 rw [setP_eq,setV_eq];exact h.set d hp
theorem rdL_putP (h:RdL I η e env) (d:Option Nat) {p:PV} {v:Value} (hp:Rd I η p v):RdL I η (putP e d p) (put env d v):=by
 cases d with
 | none=>exact h
 | some d=>exact rdL_setP h d hp
theorem rd_undef {I:Img} {η:Eta}:Rd I η undefP undef:=by
 unfold undefP
 simp only [Rd]
 exact ⟨trivial,lt_undef _⟩
theorem wantedP_sim (h:RdL I η e env) {o:IOper} {t:Bool} (hw:wantedP e o.guard=some t):o.wanted env=t:=by
 unfold wantedP at hw
 unfold IOper.wanted
 split at hw
 ·rename_i hg;rw [hg];simpa using hw.symm
 ·rename_i j want hg
  rw [hg]
  dsimp only
  have hj:=rd_getP h j
  unfold wantB at hw
  split at hw
  ·rename_i x hx
   rw [hx] at hj
   obtain ⟨h1,_⟩:=rd_lit hj
   rw [h1]
   simpa using hw
  ·rename_i x hnb hx
   rw [hx] at hj
   obtain ⟨h1,_⟩:=rd_lit hj
   rw [h1]
   simp only [Option.some.injEq] at hw
   subst hw
   cases x <;> first | rfl | exact (hnb _ rfl).elim
  ·simp at hw
theorem rd_junk (v:Value):Rd I η .junk v:=by simp [Rd]
end
def Gh (C:Ctx) (b:Nat) (e:List PV) (π:PW) (A:List PV→PW→Prop):Prop:=
 ∀ F I η σ env,GRd I noE C.G→SRel F I η π σ→RdL I η e env→∃ I' η' e' π',Fol F b I η σ I' η' σ∧SRel F I' η' π' σ∧RdL I' η' e' env∧A e' π'
def POps (C:Ctx) (b:Nat) (l:List IOper) (e:List PV) (π:PW) (Q:List PV→PW→Prop):Prop:=
 ∀ F I η σ env,GRd I noE C.G→SRel F I η π σ→RdL I η e env→∃ L env' σ' I' η' e' π',LOK C L∧LB L σ.next σ'.next∧runOps (KL L) l env σ=some (.normal,env',σ')∧Fol F b I η σ I' η' σ'∧SRel F I' η' π' σ'∧RdL I' η' e' env'∧Q e' π'
def PE (C:Ctx) (q:EOp) (e:List PV) (π:PW) (Q:PV→PW→Prop):Prop:=
 ∀ F I η σ env,GRd I noE C.G→SRel F I η π σ→RdL I η e env→∃ L v σ' I' η' r π',LOK C L∧LB L σ.next σ'.next∧runE (KL L) env σ q=some (.ret v,σ')∧Fol F 0 I η σ I' η' σ'∧η.le η'∧(∀ j,j < π.next→η' j=η j)∧SRel F I' η' π' σ'∧Rd I' η' r v∧Q r π'
section
variable {C:Ctx} {b:Nat} {l:List IOper} {e:List PV} {π:PW} {Q:List PV→PW→Prop}
theorem GRd.le {I J:Img} {G:PG} (h:GRd I noE G) (hi:I.le J):GRd J noE G:=fun g cs hg=>(h g cs hg).mono hi (Eta.le_refl _)
theorem GRd.any {I:Img} {G:PG} (h:GRd I noE G) (η:Eta):GRd I η G:=fun g cs hg=>(h g cs hg).pure
theorem Gh.refl {A:List PV→PW→Prop} (h:A e π):Gh C b e π A:=fun F I η σ env hG hs hr=>⟨I,η,e,π,.refl,hs,hr,h⟩
theorem Gh.trans {A B:List PV→PW→Prop} (h:Gh C b e π A) (k:∀ e π,A e π→Gh C b e π B):Gh C b e π B:=by
 intro F I η σ env hG hs hr
 obtain ⟨I1,η1,e1,π1,f1,s1,r1,a1⟩:=h F I η σ env hG hs hr
 obtain ⟨I2,η2,e2,π2,f2,s2,r2,a2⟩:=k e1 π1 a1 F I1 η1 σ env (hG.le f1.im) s1 r1
 exact ⟨I2,η2,e2,π2,f1.trans f2,s2,r2,a2⟩
theorem Gh.mono {A B:List PV→PW→Prop} (h:Gh C b e π A) (k:∀ e π,A e π→B e π):Gh C b e π B:=h.trans fun e π ha=>.refl (k e π ha)
theorem POps.gh (h:Gh C b e π fun e π=>POps C b l e π Q):POps C b l e π Q:=by
 intro F I η σ env hG hs hr
 obtain ⟨I1,η1,e1,π1,f1,s1,r1,a1⟩:=h F I η σ env hG hs hr
 obtain ⟨L,env',σ',I',η',e',π',h1,h2,h3,h4,h5⟩:=a1 F I1 η1 σ env (hG.le f1.im) s1 r1
 exact ⟨L,env',σ',I',η',e',π',h1,h2,h3,f1.trans h4,h5⟩
theorem POps.nil (h:Q e π):POps C b [] e π Q:=fun F I η σ env hG hs hr=>⟨Lno,env,σ,I,η,e,π,.no,.no _ _,rfl,.refl,hs,hr,h⟩
theorem POps.mono {Q':List PV→PW→Prop} (h:POps C b l e π Q) (k:∀ e π,Q e π→Q' e π):POps C b l e π Q':=by
 intro F I η σ env hG hs hr
 obtain ⟨L,env',σ',I',η',e',π',h1,h2,h3,h4,h5,h6,h7⟩:=h F I η σ env hG hs hr
 exact ⟨L,env',σ',I',η',e',π',h1,h2,h3,h4,h5,h6,k _ _ h7⟩
theorem POps.step {o:IOper} {e1:List PV} {π1:PW} (h:∀ F I η σ env,GRd I noE C.G→SRel F I η π σ→RdL I η e env→∃ env1 σ1 η1,(∀ K l,runOps K (o::l) env σ=runOps K l env1 σ1)∧Fol F b I η σ I η1 σ1∧SRel F I η1 π1 σ1∧RdL I η1 e1 env1)
  (h2:POps C b l e1 π1 Q):POps C b (o::l) e π Q:=by
 intro F I η σ env hG hs hr
 obtain ⟨env1,σ1,η1,g1,g2,g3,g4⟩:=h F I η σ env hG hs hr
 obtain ⟨L,env',σ',I',η',e',π',h1,h2,h3,h4,h5⟩:=h2 F I η1 σ1 env1 hG g3 g4
 exact ⟨L,env',σ',I',η',e',π',h1,fun n E hE=>⟨Nat.le_trans g2.next (h2 n E hE).1,(h2 n E hE).2⟩,by rw [g1];exact h3,g2.trans h4,h5⟩
theorem POps.skip {o:IOper} (hw:wantedP e o.guard=some false) (h:POps C b l (putP e o.dst undefP) π Q):POps C b (o::l) e π Q:=
 .step (fun F I η σ env hG hs hr=>⟨put env o.dst undef,σ,η,fun K l=>by simp only [runOps,wantedP_sim hr hw];rfl,.refl,hs,rdL_putP hr _ rd_undef⟩) h
theorem POps.p {o:IOper} {q:POp} (ho:o.op = .p q) (hw:wantedP e o.guard=some true) {p:PV} (hp:pevP C.G e q=some p) (h:POps C b l (putP e o.dst p) π Q):POps C b (o::l) e π Q:=
 .step (fun F I η σ env hG hs hr=>by
  obtain ⟨v,hv,hr'⟩:=pevP_sim (hG.any η) hr hp
  exact ⟨put env o.dst v,σ,η,fun K l=>by simp only [runOps,wantedP_sim hr hw,ho,runOp,hv];rfl,.refl,hs,rdL_putP hr _ hr'⟩) h
theorem POps.r {o:IOper} {q:ROp} (ho:o.op = .r q) (hw:wantedP e o.guard=some true) {p:PV} (hp:pevR C.G e π q=some p) (h:POps C b l (putP e o.dst p) π Q):POps C b (o::l) e π Q:=
 .step (fun F I η σ env hG hs hr=>by
  obtain ⟨v,hv,hr'⟩:=pevR_sim (hG.any η) hr hs hp
  exact ⟨put env o.dst v,σ,η,fun K l=>by simp only [runOps,wantedP_sim hr hw,ho,runOp,hv];rfl,.refl,hs,rdL_putP hr _ hr'⟩) h
theorem ext_et (h:b≤π.next) (η:Eta) (a:Nat):∀ j,j < b→(η.ext π.next a) j=η j:=fun j hj=>by simp only [Eta.ext];rw [if_neg (by omega)]
theorem POps.n {o:IOper} {q:NOp} (ho:o.op = .n q) (hw:wantedP e o.guard=some true) {x:PObj} {f:Nat→PV} (hp:pevN C.G e q=some (x,f)) (hb:b≤π.next) (h:POps C b l (putP e o.dst (f π.next)) (π.push x) Q):POps C b (o::l) e π Q:=
 .step (fun F I η σ env hG hs hr=>by
  obtain ⟨bk,g,h1,h2,h3,h4⟩:=pevN_sim (hG.any η) hr hp
  obtain ⟨σ',q1,q2⟩:=push_chg hs h2 (fun c hc=>by
   have:=h3 c hc
   subst hc
   cases x <;> simp only [ORd] at h2
   exact ⟨_,_,_,_,_,_,rfl,fun i hi=>by rw [this] at hi;simp at hi⟩)
  have hσ:σ'={next:=σ.next + 1,heap:=σ.heap.set σ.next bk }:=by simpa [AW.push,most] using q1.symm
  refine ⟨put env o.dst (g σ.next),σ',η.ext π.next σ.next,fun K l=>?_,⟨q2.next,fun i hi=>⟨q2.fr i hi,rfl⟩,Img.le_refl _,ext_et hb _ _⟩,q2.rel,rdL_putP (hr.mono (Img.le_refl _) q2.et) _ (h4 _ _ _ _ (by simp [Eta.ext]))⟩
  simp only [runOps,wantedP_sim hr hw,ho,runOp,h1,Option.bind_some,most,Nat.lt_succ_self,if_true]
  have e1:Nat.max σ.next (σ.next + 1)=σ.next + 1:=Nat.max_eq_right (Nat.le_succ _)
  rw [hσ]
  simp [e1]) h
theorem PE.mono {q:EOp} {A B:PV→PW→Prop} (h:PE C q e π A) (k:∀ r π,A r π→B r π):PE C q e π B:=by
 intro F I η σ env hG hs hr
 obtain ⟨L,v,σ',I',η',r,π',h1,h2,h3,h4,h5,h6,h7,h8,h9⟩:=h F I η σ env hG hs hr
 exact ⟨L,v,σ',I',η',r,π',h1,h2,h3,h4,h5,h6,h7,h8,k _ _ h9⟩
theorem POps.ee {o:IOper} {q:EOp} (ho:o.op = .e q) (hw:wantedP e o.guard=some true) (hb:b≤π.next) (h:PE C q e π fun r π'=>POps C b l (putP e o.dst r) π' Q):POps C b (o::l) e π Q:=by
 intro F I η σ env hG hs hr
 obtain ⟨L,v,σ1,I1,η1,r,π1,h1,h2,h3,h4,h5,h6,h7,h8,h9⟩:=h F I η σ env hG hs hr
 obtain ⟨M,env',σ',I',η',e',π',k1,k2,k3,k4,k5⟩:=h9 F I1 η1 σ1 (put env o.dst v) (hG.le h4.im) h7 (rdL_putP (hr.mono h4.im h5) _ h8)
 refine ⟨Lcat σ1.next L M,env',σ',I',η',e',π',h1.cat k1 _,h2.cat k2 h4.next k4.next,?_,Fol.trans ⟨h4.next,h4.fr,h4.im,fun j hj=>h6 j (by omega)⟩ k4,k5⟩
 simp only [runOps,wantedP_sim hr hw,ho,runOp]
 rw [runE_mono (KL_left h2) h3]
 exact runOps_mono (KL_right k2) k3
theorem PE.det {q:EOp} {r:PV} {π':PW} (h:pevE C.G e π q=some (r,π')) {A:PV→PW→Prop} (ha:A r π'):PE C q e π A:=by
 intro F I η σ env hG hs hr
 obtain ⟨v,σ',η',h1,h2,h3⟩:=pevE_sim hG hr hs h
 exact ⟨Lno,v,σ',I,η',r,π',.no,.no _ _,h1 _,⟨h2.next,fun i hi=>⟨h2.fr i hi,rfl⟩,Img.le_refl _,fun j hj=>by omega⟩,h2.et,h2.ag,h2.rel,h3,ha⟩
theorem PE.call {f:FuncId} {args:List Opd} {A:PV→PW→Prop} (h:PTo C f (evsP C.G e args) π A):PE C (.call f args) e π A:=by
 intro F I η σ env hG hs hr
 obtain ⟨v,σ',I',η',r,π',h1,h2,h3,h3',h4,h5,h6⟩:=h F I η σ _ hG hs (evsP_sim (hG.any η) hr args)
 refine ⟨Lone ⟨f,evs env args,σ,v,σ'.bump,false⟩,v,σ'.bump,I',η',r,π',.one h1.bump,LB.one ⟨f,evs env args,σ,v,σ'.bump,false⟩ (Nat.lt_succ_of_le h2.next),KL_one ⟨f,evs env args,σ,v,σ'.bump,false⟩ rfl,⟨Nat.le_succ_of_le h2.next,h2.fr,h2.im,h2.et⟩,h3,h3',h4.bump,h5,h6⟩
theorem PTo.mono {f:FuncId} {args:List PV} {A B:PV→PW→Prop} (h:PTo C f args π A) (k:∀ r π,A r π→B r π):PTo C f args π B:=by
 intro F I η σ vargs hG hs hr
 obtain ⟨v,σ',I',η',r,π',h1,h2,h3,h3',h4,h5,h6⟩:=h F I η σ _ hG hs hr
 exact ⟨v,σ',I',η',r,π',h1,h2,h3,h3',h4,h5,k _ _ h6⟩
def PToE (C:Ctx) (b:Nat) (e:List PV) (f:FuncId) (args:List PV) (π:PW) (A:PV→PW→Prop):Prop:=
 ∀ F I η σ env vargs,GRd I noE C.G→SRel F I η π σ→RdL I η e env→RdL I η args vargs→∃ v σ' I' η' r π',CTo C.P C.ng C.ts C.N0 f vargs σ v σ'∧Fol F b I η σ I' η' σ'∧SRel F I' η' π' σ'∧RdL I' η' e env∧Rd I' η' r v∧A r π'
def PToB (C:Ctx) (b:Nat) (f:FuncId) (args:List PV) (π:PW) (A:PV→PW→Prop):Prop:=
 ∀ F I η σ vargs,GRd I noE C.G→SRel F I η π σ→RdL I η args vargs→∃ v σ' I' η' r π',CTo C.P C.ng C.ts C.N0 f vargs σ v σ'∧Fol F b I η σ I' η' σ'∧SRel F I' η' π' σ'∧Rd I' η' r v∧A r π'
def PY (C:Ctx) (b:Nat) (l:Nat) (args:List PV) (π:PW) (A:PV→PW→Prop):Prop:=
 ∀ F I η σ vargs a,GRd I noE C.G→SRel F I η π σ→RdL I η args vargs→η l=some a→∃ v σ' I' η' r π',YTo C.P C.ng C.ts C.N0 a vargs σ v σ'∧Fol F b I η σ I' η' σ'∧SRel F I' η' π' σ'∧Rd I' η' r v∧A r π'
def PYE (C:Ctx) (b:Nat) (e:List PV) (l:Nat) (args:List PV) (π:PW) (A:PV→PW→Prop):Prop:=
 ∀ F I η σ env vargs a,GRd I noE C.G→SRel F I η π σ→RdL I η e env→RdL I η args vargs→η l=some a→∃ v σ' I' η' r π',YTo C.P C.ng C.ts C.N0 a vargs σ v σ'∧Fol F b I η σ I' η' σ'∧SRel F I' η' π' σ'∧RdL I' η' e env∧Rd I' η' r v∧A r π'
def PVal (C:Ctx) (b:Nat) (e:List PV) (p:PV) (args:List PV) (π:PW) (A:PV→PW→Prop):Prop:=
 match p with
 | .fn g x y=>PToE C b e g (x++(args++y)) π A
 | .yld l=>PYE C b e l args π A
 | _=>False
mutual
def nmP (b:Nat):PV→Bool
 | .ptr j _ | .loc j _ _ _ | .map j | .yld j=>Nat.blt j b
 | .fn _ x y=>nmL b x && nmL b y
 | .iface _ p=>nmP b p
 | .agg l=>nmL b l
 | .tup l=>nmL b l
 | _=>true
def nmL (b:Nat):List PV→Bool
 | []=>true
 | p::l=>nmP b p && nmL b l
end
mutual
theorem Rd.names {I:Img} {η θ:Eta} {b:Nat} (h:∀ j,j < b→θ j=η j):∀ {p:PV} {v:Value},nmP b p=true→Rd I η p v→Rd I θ p v
 | .junk,v,_,_=>by simp [Rd]
 | .lit u,v,_,hr=>by simpa [Rd] using hr
 | .sl cs n,v,_,hr=>by simpa [Rd] using hr
 | .sz cs n,v,_,hr=>by simpa [Rd] using hr
 | .ref cs,v,_,hr=>by simpa [Rd] using hr
 | .loc j _ _ _,v,hp,hr=>by
  simp only [nmP,Nat.blt_eq] at hp
  simp only [Rd] at hr ⊢
  obtain ⟨a,ha,hv⟩:=hr
  exact ⟨a,by rw [h j hp];exact ha,hv⟩
 | .ptr j _,v,hp,hr=>by
  simp only [nmP,Nat.blt_eq] at hp
  simp only [Rd] at hr ⊢
  obtain ⟨a,ha,hv⟩:=hr
  exact ⟨a,by rw [h j hp];exact ha,hv⟩
 | .map j,v,hp,hr=>by
  simp only [nmP,Nat.blt_eq] at hp
  simp only [Rd] at hr ⊢
  obtain ⟨a,ha,hv⟩:=hr
  exact ⟨a,by rw [h j hp];exact ha,hv⟩
 | .yld j,v,hp,hr=>by
  simp only [nmP,Nat.blt_eq] at hp
  simp only [Rd] at hr ⊢
  obtain ⟨a,ha,hv⟩:=hr
  exact ⟨a,by rw [h j hp];exact ha,hv⟩
 | .fn f x y,v,hp,hr=>by
  simp only [nmP,Bool.and_eq_true] at hp
  simp only [Rd] at hr ⊢
  obtain ⟨u,w,h1,h2,h3⟩:=hr
  exact ⟨u,w,h1,RdL.names h hp.1 h2,RdL.names h hp.2 h3⟩
 | .iface t p,v,hp,hr=>by
  simp only [nmP] at hp
  simp only [Rd] at hr ⊢
  obtain ⟨u,h1,h2⟩:=hr
  exact ⟨u,h1,Rd.names h hp h2⟩
 | .agg l,v,hp,hr=>by
  simp only [nmP] at hp
  simp only [Rd] at hr ⊢
  obtain ⟨u,h1,h2⟩:=hr
  exact ⟨u,h1,RdL.names h hp h2⟩
 | .tup l,v,hp,hr=>by
  simp only [nmP] at hp
  simp only [Rd] at hr ⊢
  obtain ⟨u,h1,h2⟩:=hr
  exact ⟨u,h1,RdL.names h hp h2⟩
 | .sp cs n m,v,_,hr=>by simpa [Rd] using hr
theorem RdL.names {I:Img} {η θ:Eta} {b:Nat} (h:∀ j,j < b→θ j=η j):∀ {ps:List PV} {vs:List Value},nmL b ps=true→RdL I η ps vs→RdL I θ ps vs
 | [],[],_,_=>by simp [RdL]
 | p::ps,v::vs,hp,hr=>by
  simp only [nmL,Bool.and_eq_true] at hp
  simp only [RdL] at hr ⊢
  exact ⟨Rd.names h hp.1 hr.1,RdL.names h hp.2 hr.2⟩
 | [],_::_,_,hr=>by simp [RdL] at hr
 | _::_,[],_,hr=>by simp [RdL] at hr
end
theorem PTo.toE {f:FuncId} {args:List PV} {A:PV→PW→Prop} (h:PTo C f args π A) (hb:b≤π.next):PToE C b e f args π A:=by
 intro F I η σ env vargs hG hs he hr
 obtain ⟨v,σ',I',η',r,π',h1,h2,h3,h3',h4,h5,h6⟩:=h F I η σ _ hG hs hr
 exact ⟨v,σ',I',η',r,π',h1,⟨h2.next,h2.fr,h2.im,fun j hj=>h3' j (by omega)⟩,h4,he.mono h2.im h3,h5,h6⟩
theorem PToB.toE {b':Nat} {f:FuncId} {args:List PV} {A:PV→PW→Prop} (h:PToB C b' f args π A) (hn:nmL b' e=true) (hb:b≤b'):PToE C b e f args π A:=by
 intro F I η σ env vargs hG hs he hr
 obtain ⟨v,σ',I',η',r,π',h1,h2,h4,h5,h6⟩:=h F I η σ _ hG hs hr
 exact ⟨v,σ',I',η',r,π',h1,⟨h2.next,h2.fr,h2.im,fun j hj=>h2.et j (by omega)⟩,h4,(he.names h2.et hn).mono h2.im (Eta.le_refl _),h5,h6⟩
theorem PY.toE {b':Nat} {l:Nat} {args:List PV} {A:PV→PW→Prop} (h:PY C b' l args π A) (hn:nmL b' e=true) (hb:b≤b'):PYE C b e l args π A:=by
 intro F I η σ env vargs a hG hs he hr ha
 obtain ⟨v,σ',I',η',r,π',h1,h2,h4,h5,h6⟩:=h F I η σ _ a hG hs hr ha
 exact ⟨v,σ',I',η',r,π',h1,⟨h2.next,h2.fr,h2.im,fun j hj=>h2.et j (by omega)⟩,h4,(he.names h2.et hn).mono h2.im (Eta.le_refl _),h5,h6⟩
theorem PToE.mono {f:FuncId} {args:List PV} {A B:PV→PW→Prop} (h:PToE C b e f args π A) (k:∀ r π,A r π→B r π):PToE C b e f args π B:=by
 intro F I η σ env vargs hG hs he hr
 obtain ⟨v,σ',I',η',r,π',h1,h2,h4,h5,h6,h7⟩:=h F I η σ env _ hG hs he hr
 exact ⟨v,σ',I',η',r,π',h1,h2,h4,h5,h6,k _ _ h7⟩
theorem PToB.mono {f:FuncId} {args:List PV} {A B:PV→PW→Prop} (h:PToB C b f args π A) (k:∀ r π,A r π→B r π):PToB C b f args π B:=by
 intro F I η σ vargs hG hs hr
 obtain ⟨v,σ',I',η',r,π',h1,h2,h4,h5,h6⟩:=h F I η σ _ hG hs hr
 exact ⟨v,σ',I',η',r,π',h1,h2,h4,h5,k _ _ h6⟩
theorem PFun.toT {f:FuncId} {args:List PV} {r:PV} (h:PFun C f args r) (hp:pureL args=true) {A:PV→PW→Prop} (ha:A r π):PTo C f args π A:=by
 intro F I η σ vargs hG hs hr
 obtain ⟨v,σ',I',h1,⟨h2,h3,h4⟩,h5,h6⟩:=h.use hp hG hs hr
 exact ⟨v,σ',I',η,r,π,h1,⟨Nat.le_of_lt h2,fun i hi=>h4 i (hs.fn i hi),h3,fun _ _=>rfl⟩,Eta.le_refl _,fun _ _=>rfl,h5,h6,ha⟩
theorem PFun.to {f:FuncId} {args:List PV} {r:PV} (h:PFun C f args r) (hp:pureL args=true) {A:PV→PW→Prop} (ha:A r π):PToE C b e f args π A:=by
 intro F I η σ env vargs hG hs he hr
 obtain ⟨v,σ',I',h1,⟨h2,h3,h4⟩,h5,h6⟩:=h.use hp hG hs hr
 exact ⟨v,σ',I',η,r,π,h1,⟨Nat.le_of_lt h2,fun i hi=>h4 i (hs.fn i hi),h3,fun _ _=>rfl⟩,h5,he.mono h3 (Eta.le_refl _),h6,ha⟩
theorem POps.callE {o:IOper} {f:FuncId} {args:List Opd} (ho:o.op = .e (.call f args)) (hw:wantedP e o.guard=some true)
  (h:Gh C b e π fun e π=>PToE C b e f (evsP C.G e args) π fun r π'=>POps C b l (putP e o.dst r) π' Q):POps C b (o::l) e π Q:=by
 intro F I0 η0 σ env hG hs hr
 have hw':=wantedP_sim hr hw
 obtain ⟨I,η,e,π,f0,hs,hr,h⟩:=h F I0 η0 σ env hG hs hr
 have hG:=hG.le f0.im
 obtain ⟨v,σ1,I1,η1,r,π1,h1,h4,h5,h6,h7,h8⟩:=h F I η σ env _ hG hs hr (evsP_sim (hG.any η) hr args)
 obtain ⟨M,env',σ',I',η',e',π',k1,k2,k3,k4,k5⟩:=h8 F I1 η1 σ1.bump (put env o.dst v) (hG.le h4.im) h5.bump (rdL_putP h6 _ h7)
 have hn:σ.next < σ1.bump.next:=Nat.lt_succ_of_le h4.next
 have hb:=LB.one ⟨f,evs env args,σ,v,σ1.bump,false⟩ (b:=σ1.bump.next) hn
 refine ⟨Lcat σ1.bump.next (Lone ⟨f,evs env args,σ,v,σ1.bump,false⟩) M,env',σ',I',η',e',π',(LOK.one h1.bump).cat k1 _,hb.cat k2 (Nat.le_of_lt hn) k4.next,?_,f0.trans (Fol.trans (σ1:=σ1.bump) ⟨Nat.le_of_lt hn,h4.fr,h4.im,h4.et⟩ k4),k5⟩
 simp only [runOps,hw',ho,runOp]
 have hk:runE (KL (Lone ⟨f,evs env args,σ,v,σ1.bump,false⟩)) env σ (.call f args)=some (.ret v,σ1.bump):=KL_one ⟨f,evs env args,σ,v,σ1.bump,false⟩ rfl
 rw [runE_mono (KL_left hb) hk]
 exact runOps_mono (KL_right k2) k3
theorem callv_fn {K:Ks} {env:List Value} {σ:AW} {f:Opd} {args:List Opd} {g:FuncId} {x y:List Value} (hf:f.ev env = .func (.func g) ⟨x⟩ ⟨y⟩):runE K env σ (.callv f args)=K.call g (x++(evs env args++y)) σ:=by
 simp only [runE,hf,callV]
theorem callv_yld {K:Ks} {env:List Value} {σ:AW} {f:Opd} {args:List Opd} {a:Nat} (hf:f.ev env = .func (.yield a) #[] #[]):runE K env σ (.callv f args)=K.yield a (evs env args) σ:=by
 simp only [runE,hf,callV,List.nil_append]
theorem POps.callvE {o:IOper} {f:Opd} {args:List Opd} (ho:o.op = .e (.callv f args)) (hw:wantedP e o.guard=some true)
  (h:Gh C b e π fun e π=>PVal C b e (f.pv C.G e) (evsP C.G e args) π fun r π'=>POps C b l (putP e o.dst r) π' Q):POps C b (o::l) e π Q:=by
 intro F I0 η0 σ env hG hs hr
 have hw':=wantedP_sim hr hw
 obtain ⟨I,η,e,π,f0,hs,hr,h⟩:=h F I0 η0 σ env hG hs hr
 have hG:=hG.le f0.im
 have hf:=rd_opd (hG.any η) hr f
 unfold PVal at h
 split at h
 ·rename_i g x y hp
  rw [hp] at hf
  simp only [Rd] at hf
  obtain ⟨xv,yv,hfe,hx,hy⟩:=hf
  obtain ⟨v,σ1,I1,η1,r,π1,h1,h4,h5,h6,h7,h8⟩:=h F I η σ env _ hG hs hr (hx.append ((evsP_sim (hG.any η) hr args).append hy))
  obtain ⟨M,env',σ',I',η',e',π',k1,k2,k3,k4,k5⟩:=h8 F I1 η1 σ1.bump (put env o.dst v) (hG.le h4.im) h5.bump (rdL_putP h6 _ h7)
  have hn:σ.next < σ1.bump.next:=Nat.lt_succ_of_le h4.next
  have hb:=LB.one ⟨g,xv++(evs env args++yv),σ,v,σ1.bump,false⟩ (b:=σ1.bump.next) hn
  refine ⟨Lcat σ1.bump.next (Lone ⟨g,xv++(evs env args++yv),σ,v,σ1.bump,false⟩) M,env',σ',I',η',e',π',(LOK.one h1.bump).cat k1 _,hb.cat k2 (Nat.le_of_lt hn) k4.next,?_,f0.trans (Fol.trans (σ1:=σ1.bump) ⟨Nat.le_of_lt hn,h4.fr,h4.im,h4.et⟩ k4),k5⟩
  simp only [runOps,hw',ho,runOp]
  have hk:runE (KL (Lone ⟨g,xv++(evs env args++yv),σ,v,σ1.bump,false⟩)) env σ (.callv f args)=some (.ret v,σ1.bump):=by
   rw [callv_fn hfe];exact KL_one ⟨g,xv++(evs env args++yv),σ,v,σ1.bump,false⟩ rfl
  rw [runE_mono (KL_left hb) hk]
  exact runOps_mono (KL_right k2) k3
 ·rename_i l' hp
  rw [hp] at hf
  simp only [Rd] at hf
  obtain ⟨a,ha,hfe⟩:=hf
  obtain ⟨v,σ1,I1,η1,r,π1,h1,h4,h5,h6,h7,h8⟩:=h F I η σ env _ a hG hs hr (evsP_sim (hG.any η) hr args) ha
  obtain ⟨M,env',σ',I',η',e',π',k1,k2,k3,k4,k5⟩:=h8 F I1 η1 σ1.bump (put env o.dst v) (hG.le h4.im) h5.bump (rdL_putP h6 _ h7)
  have hn:σ.next < σ1.bump.next:=Nat.lt_succ_of_le h4.next
  have hb:=LB.one ⟨a,evs env args,σ,v,σ1.bump,true⟩ (b:=σ1.bump.next) hn
  refine ⟨Lcat σ1.bump.next (Lone ⟨a,evs env args,σ,v,σ1.bump,true⟩) M,env',σ',I',η',e',π',(LOK.oneY h1.bump).cat k1 _,hb.cat k2 (Nat.le_of_lt hn) k4.next,?_,f0.trans (Fol.trans (σ1:=σ1.bump) ⟨Nat.le_of_lt hn,h4.fr,h4.im,h4.et⟩ k4),k5⟩
  simp only [runOps,hw',ho,runOp]
  have hk:runE (KL (Lone ⟨a,evs env args,σ,v,σ1.bump,true⟩)) env σ (.callv f args)=some (.ret v,σ1.bump):=by
   rw [callv_yld hfe];exact KL_oneY ⟨a,evs env args,σ,v,σ1.bump,true⟩ rfl
  rw [runE_mono (KL_left hb) hk]
  exact runOps_mono (KL_right k2) k3
 ·exact h.elim
end
end Go.Proofs.YtnpoloachkcadaaGreatDoor.Ai
namespace Go.Proofs.YtnpoloachkcadaaGreatDoor.Ai
open Go
set_option linter.unusedSimpArgs false
set_option linter.unusedVariables false
def tmO:Opd→List Nat
 | .t n=>[n]
 | _=>[]
def tmOO:Option Opd→List Nat
 | some x=>tmO x
 | none=>[]
def ROp.tms:ROp→List Nat
 | .ld x | .ldn _ x | .cap x | .lenM x | .b2s x | .p2u x | .u2p _ _ x=>tmO x
 | .slV _ x lo hi mx=>tmO x++tmOO lo++tmOO hi++tmOO mx
 | .slA _ _ x lo hi=>tmO x++tmOO lo++tmOO hi
 | .peq _ x y=>tmO x++tmO y
 | .lookup _ _ _ x k=>tmO x++tmO k
def ROp.base:ROp→Opd
 | .ld x | .ldn _ x | .cap x | .lenM x | .b2s x | .p2u x | .u2p _ _ x | .slV _ x _ _ _ | .slA _ _ x _ _ | .peq _ x _ | .lookup _ _ _ x _=>x
def blkV:Value→Option Nat
 | .pointer (some a)=>some a.block
 | .slice (some a) _ _=>some a.block
 | .map (some r)=>some r
 | _=>none
def gFree:Option (Nat × Bool)→Nat→Bool
 | some (g,_),d=>g != d
 | none,_=>true
def freeO (o:IOper) (d:Nat):Bool:=
 match o.op with
 | .r q=>!(o.dst == some d) && !(q.tms.contains d) && gFree o.guard d
 | _=>false
def freeJ (l:List IOper) (d:Option Nat) (j:Nat):Bool:=
 match d with
 | none=>true
 | some d=>match nthO l j with | some o=>freeO o d | none=>false
def ownJ (l:List IOper) (i:Nat):List Nat:=
 match nthO l i with
 | some o=>match o.op,o.dst with | .r q,some d=>if q.tms.contains d || !gFree o.guard d then [] else [i] | _,_=>[]
 | none=>[]
def afterX (l:List IOper):List Nat→List Nat→List Nat
 | [],S=>S
 | i::xs,S=>match nthO l i with | some o=>afterX l xs (ownJ l i++S.filter (freeJ l o.dst)) | none=>[]
def Sync (l:List IOper) (env:List Value) (σ:AW) (S:List Nat):Prop:=
 ∀ j∈S,∃ o q d,nthO l j=some o∧o.op = .r q∧o.dst=some d∧(o.wanted env=true→evR env σ q=some (getV env d)∧∀ a,blkV (q.base.ev env)=some a→a < σ.next)
theorem getV_setV (env:List Value) (d n:Nat) (v:Value) (h:n ≠ d):getV (setV env d v) n=getV env n:=by
 rw [getV_eq,getV_eq,setV_eq]
 simp [List.getD,List.getElem?_set,Ne.symm h]
theorem ev_setV (env:List Value) (d:Nat) (v:Value) (x:Opd) (h:d∉tmO x):x.ev (setV env d v)=x.ev env:=by
 cases x with
 | t n=>simp only [tmO,List.mem_singleton] at h;exact getV_setV env d n v (fun e=>h e.symm)
 | _=>rfl
theorem bound_setV (env:List Value) (d:Nat) (v:Value) (a y:Nat) (x:Option Opd) (h:d∉tmOO x):bound (setV env d v) a y x=bound env a y x:=by
 cases x with
 | none=>rfl
 | some x=>simp only [bound,ev_setV env d v x h]
theorem evR_setV (env:List Value) (σ:AW) (d:Nat) (v:Value) (q:ROp) (h:d∉q.tms):evR (setV env d v) σ q=evR env σ q:=by
 cases q <;> simp only [ROp.tms,List.mem_append,not_or] at h <;> simp only [evR]
 all_goals first
  | rw [ev_setV _ _ _ _ h]
  | rw [ev_setV _ _ _ _ h.1,ev_setV _ _ _ _ h.2]
  | (rw [ev_setV _ _ _ _ h.1.1.1];simp only [bound_setV _ _ _ _ _ _ h.1.1.2,bound_setV _ _ _ _ _ _ h.1.2,bound_setV _ _ _ _ _ _ h.2])
  | (rw [ev_setV _ _ _ _ h.1.1];simp only [bound_setV _ _ _ _ _ _ h.1.2,bound_setV _ _ _ _ _ _ h.2])
theorem evR_congr {env:List Value} {σ β:AW} {q:ROp} (h:∀ a,blkV (q.base.ev env)=some a→σ.heap.get a=β.heap.get a):evR env σ q=evR env β q:=by
 have hc:∀ a,blkV (q.base.ev env)=some a→σ.cells? a=β.cells? a:=fun a ha=>by simp only [AW.cells?,h a ha]
 cases q with
 | peq neg x y=>rfl
 | lenM x=>
  simp only [ROp.base] at h hc;simp only [evR]
  generalize x.ev env=V at h hc ⊢
  cases V with
  | map r=>cases r with
   | none=>rfl
   | some r=>dsimp only;rw [h r rfl]
  | _=>rfl
 | lookup kt z ok x k=>
  simp only [ROp.base] at h hc;simp only [evR]
  generalize x.ev env=V at h hc ⊢
  cases V with
  | map r=>cases r with
   | none=>rfl
   | some r=>dsimp only;rw [h r rfl]
  | _=>rfl
 | slV esz x lo hi mx=>
  simp only [ROp.base] at h hc;simp only [evR]
  generalize x.ev env=V at h hc ⊢
  cases V with
  | slice a n c=>cases a with
   | none=>rfl
   | some a=>dsimp only;rw [show σ.exactAt a.block=β.exactAt a.block by simp only [AW.exactAt,hc a.block rfl]]
  | _=>rfl
 | cap x=>
  simp only [ROp.base] at h hc;simp only [evR]
  generalize x.ev env=V at h hc ⊢
  cases V with
  | slice a n c=>cases a with
   | none=>rfl
   | some a=>dsimp only;rw [hc a.block rfl]
  | _=>rfl
 | b2s x=>
  simp only [ROp.base] at h hc;simp only [evR]
  generalize x.ev env=V at h hc ⊢
  cases V with
  | slice a n c=>cases a with
   | none=>rfl
   | some a=>dsimp only;simp only [AW.rdN,hc a.block rfl]
  | _=>rfl
 | ld x=>
  simp only [ROp.base] at h hc;simp only [evR]
  generalize x.ev env=V at h hc ⊢
  cases V with
  | pointer a=>cases a with
   | none=>rfl
   | some a=>dsimp only;simp only [AW.rd,hc a.block rfl]
  | _=>rfl
 | ldn n x=>
  simp only [ROp.base] at h hc;simp only [evR]
  generalize x.ev env=V at h hc ⊢
  cases V with
  | pointer a=>cases a with
   | none=>rfl
   | some a=>dsimp only;simp only [AW.rdN,hc a.block rfl]
  | _=>rfl
 | slA esz len x lo hi=>
  simp only [ROp.base] at h hc;simp only [evR]
  generalize x.ev env=V at h hc ⊢
  cases V with
  | pointer a=>cases a with
   | none=>rfl
   | some a=>dsimp only;simp only [hc a.block rfl]
  | _=>rfl
 | p2u x=>
  simp only [ROp.base] at h hc;simp only [evR]
  generalize x.ev env=V at h hc ⊢
  cases V with
  | pointer a=>cases a with
   | none=>rfl
   | some a=>dsimp only;rw [hc a.block rfl]
  | _=>rfl
 | u2p t n x=>
  simp only [ROp.base] at h hc;simp only [evR]
  generalize x.ev env=V at h hc ⊢
  cases V with
  | pointer a=>cases a with
   | none=>rfl
   | some a=>dsimp only;rw [hc a.block rfl]
  | _=>rfl
theorem Sync.no (l:List IOper) (env:List Value) (σ:AW):Sync l env σ []:=fun j hj=>by simp at hj
theorem Sync.congr {l:List IOper} {env:List Value} {σ σ':AW} {S:List Nat} (h:Sync l env σ S) (hn:σ.next≤σ'.next) (hk:∀ k,k < σ.next→σ'.heap.get k=σ.heap.get k):Sync l env σ' S:=by
 intro j hj
 obtain ⟨o,q,d,h1,h2,h3,h4⟩:=h j hj
 refine ⟨o,q,d,h1,h2,h3,fun hw=>?_⟩
 obtain ⟨h5,h6⟩:=h4 hw
 exact ⟨by rw [← h5];exact evR_congr fun a ha=>hk a (h6 a ha),fun a ha=>Nat.lt_of_lt_of_le (h6 a ha) hn⟩
theorem wanted_setV (o:IOper) (env:List Value) (d:Nat) (v:Value) (h:gFree o.guard d=true):o.wanted (setV env d v)=o.wanted env:=by
 unfold IOper.wanted
 cases hg:o.guard with
 | none=>rfl
 | some p=>
  obtain ⟨g,w⟩:=p
  rw [hg] at h
  simp only [gFree,bne_iff_ne,ne_eq] at h
  simp only [getV_setV env d g v h]
theorem Sync.put {l:List IOper} {env:List Value} {σ:AW} {S:List Nat} (h:Sync l env σ S) (d:Option Nat) (v:Value):Sync l (put env d v) σ (S.filter (freeJ l d)):=by
 intro j hj
 simp only [List.mem_filter] at hj
 obtain ⟨hj,hf⟩:=hj
 obtain ⟨o,q,d',h1,h2,h3,h4⟩:=h j hj
 refine ⟨o,q,d',h1,h2,h3,?_⟩
 cases d with
 | none=>exact h4
 | some d=>
  simp only [freeJ,h1,freeO,h2,h3,Bool.and_eq_true,Bool.not_eq_true',beq_eq_false_iff_ne,ne_eq,Option.some.injEq] at hf
  obtain ⟨⟨f1,f2⟩,f3⟩:=hf
  have f2':d∉q.tms:=by simpa using f2
  have fb:d∉tmO q.base:=by
   intro hb
   apply f2'
   cases q <;> simp only [ROp.base,ROp.tms,List.mem_append] at hb ⊢ <;> simp [hb]
  simp only [Ai.put]
  intro hw
  rw [wanted_setV o env d v f3] at hw
  obtain ⟨h5,h6⟩:=h4 hw
  exact ⟨by rw [evR_setV _ _ _ _ _ f2',getV_setV _ _ _ _ f1];exact h5,by rw [ev_setV _ _ _ _ fb];exact h6⟩
theorem getV_self (env:List Value) (d:Nat) (v:Value) (h:d < env.length):getV (setV env d v) d=v:=by
 rw [getV_eq,setV_eq]
 simp [List.getD,List.getElem?_set,h]
theorem Sync.own {l:List IOper} {env:List Value} {σ:AW} {S:List Nat} (h:Sync l env σ S) {i:Nat} {o:IOper} (ho:nthO l i=some o) (v:Value)
  (hr:∀ q,o.op = .r q→∀ d,o.dst=some d→o.wanted env=true→evR env σ q=some v∧(∀ a,blkV (q.base.ev env)=some a→a < σ.next)∧d < env.length) :
  Sync l (Ai.put env o.dst v) σ (ownJ l i++S.filter (freeJ l o.dst)):=by
 intro j hj
 simp only [List.mem_append] at hj
 rcases hj with hj | hj
 ·unfold ownJ at hj
  rw [ho] at hj
  dsimp only at hj
  split at hj
  ·rename_i q d hq hd
   split at hj
   ·simp at hj
   ·rename_i hc
    simp only [List.mem_singleton] at hj;subst hj
    simp only [Bool.or_eq_true,not_or,Bool.not_eq_true,Bool.not_eq_false,Bool.not_eq_true'] at hc
    have f2:d∉q.tms:=by simpa using hc.1
    have fb:d∉tmO q.base:=by
     intro hb
     apply f2
     cases q <;> simp only [ROp.base,ROp.tms,List.mem_append] at hb ⊢ <;> simp [hb]
    refine ⟨o,q,d,ho,hq,hd,?_⟩
    rw [hd]
    simp only [Ai.put]
    intro hw
    rw [wanted_setV o env d v (by simpa using hc.2)] at hw
    obtain ⟨h5,h6,h7⟩:=hr q hq d hd hw
    exact ⟨by rw [evR_setV _ _ _ _ _ f2,getV_self _ _ _ h7];exact h5,by rw [ev_setV _ _ _ _ fb];exact h6⟩
  ·simp at hj
 ·exact h.put o.dst v j hj
def ltN:Nat→Nat→Bool
 | _,0=>false
 | 0,_ + 1=>true
 | a + 1,b + 1=>ltN a b
theorem ltN_iff:∀ {a b:Nat},ltN a b=true→a < b
 | _,0,h=>by simp [ltN] at h
 | 0,b + 1,_=>by omega
 | a + 1,b + 1,h=>by have:=ltN_iff (a:=a) (b:=b) (by simpa [ltN] using h);omega
def baseP (m:Nat) (π:PW):PV→Bool
 | .lit _ | .sl _ _ | .sz _ _ | .ref _ | .sp _ _ _=>true
 | .ptr i _ | .loc i _ _ _ | .map i=>ltN i m && (look π.heap i).isSome
 | _=>false
def ltD (d:Option Nat) (n:Nat):Bool:=
 match d with
 | some d=>ltN d n
 | none=>true
def rdX (G:PG) (e:List PV) (π:PW) (m:Nat) (d:Option Nat) (q:ROp):Option PV:=
 match baseP m π (q.base.pv G e) && ltD d e.length with
 | true=>pevR G e π q
 | false=>none
def wpX (G:PG) (l:List IOper) (m:Nat):List Nat→List PV→PW→(List PV→PW→Prop)→Prop
 | [],e,π,Q=>Q e π
 | i::xs,e,π,Q=>
  match nthO l i with
  | none=>False
  | some o=>
   match wantedP e o.guard with
   | none=>False
   | some false=>wpX G l m xs (putP e o.dst undefP) π Q
   | some true=>
    match o.op with
    | .p q=>match pevP G e q with | some v=>wpX G l m xs (putP e o.dst v) π Q | none=>False
    | .r q=>match rdX G e π m o.dst q with | some v=>wpX G l m xs (putP e o.dst v) π Q | none=>False
    | .n q=>match pevN G e q with | some (x,f)=>wpX G l m xs (putP e o.dst (f π.next)) (π.push x) Q | none=>False
    | _=>False
structure Stg (β:AW) (m:Nat) (I:Img) (η:Eta) (π:PW) (σ:AW):Prop where
 next:β.next≤σ.next
 keep:∀ k,k < β.next→σ.heap.get k=β.heap.get k
 old:∀ j o a,j < m→look π.heap j=some o→η j=some a→a < β.next
 img:∀ k us,I k=some us→k < β.next
section
variable {F:Nat→Prop} {I:Img} {η:Eta} {G:PG} {e:List PV} {env:List Value} {π π':PW} {σ β:AW} {m:Nat}
theorem blkV_lit {u:Value} (h:lt 0 u=true):blkV u=none:=by
 cases u with
 | pointer a=>cases a with
  | none=>rfl
  | some a=>simp [lt] at h
 | slice a n c=>cases a with
  | none=>rfl
  | some a=>simp [lt] at h
 | map r=>cases r with
  | none=>rfl
  | some r=>simp [lt] at h
 | _=>rfl
theorem baseP_sim (hs:SRel F I η π σ) (hg:Stg β m I η π σ) {p:PV} {v:Value} (h:Rd I η p v) (hb:baseP m π p=true) {a:Nat} (ha:blkV v=some a):a < β.next:=by
 unfold baseP at hb
 split at hb
 ·obtain ⟨rfl,h0⟩:=rd_lit h
  rw [blkV_lit h0] at ha;simp at ha
 ·simp only [Rd] at h
  obtain ⟨i,off,cap,vs,ws,rest,rfl,hnc,h1,h2,h3⟩:=h
  simp [blkV] at ha;subst ha
  exact hg.img i vs h1
 ·simp only [Rd] at h
  rcases h with ⟨_,rfl | ⟨c,j,us,rfl,h2,h3⟩⟩ | ⟨i,off,cap,vs,ws,rest,rfl,hnc,h1,h2,h3⟩
  ·simp [blkV] at ha
  ·simp [blkV] at ha;subst ha
   exact Nat.lt_of_le_of_lt h2 (hg.img j us h3)
  ·simp [blkV] at ha;subst ha
   exact hg.img i vs h1
 ·simp only [Rd] at h
  obtain ⟨i,off,vs,ws,rest,rfl,h1,h2,h3⟩:=h
  simp [blkV] at ha;subst ha
  exact hg.img i vs h1
 ·simp only [Rd] at h
  obtain ⟨i,off,vs,ws,rest,rfl,hnm,h1,h2,hx,h3⟩:=h
  simp [blkV] at ha;subst ha
  exact hg.img i vs h1
 all_goals first
  | (simp at hb;done)
  | (simp only [Bool.and_eq_true,Option.isSome_iff_exists] at hb;obtain ⟨h1,o,h2⟩:=hb;have h1:=ltN_iff h1;simp only [Rd] at h;obtain ⟨c,hc,rfl⟩:=h;simp [blkV] at ha;subst ha;exact hg.old _ o _ h1 h2 hc)
theorem wpX_sim (hG:GRd I noE G) {l:List IOper} {Q:List PV→PW→Prop}:∀ {xs:List Nat} {e:List PV} {env:List Value} {η:Eta} {π:PW} {σ:AW} {S:List Nat},SRel F I η π σ→RdL I η e env→Stg β m I η π σ→m≤π.next→Sync l env β S→wpX G l m xs e π Q→
  ∃ env' σ' η' e' π',runX l β xs env σ=some (env',σ')∧SRel F I η' π' σ'∧RdL I η' e' env'∧Stg β m I η' π' σ'∧m≤π'.next∧Sync l env' β (afterX l xs S)∧Q e' π'∧σ.next≤σ'.next∧(∀ i,F i→σ'.heap.get i=σ.heap.get i)∧(∀ j,j < π.next→η' j=η j)∧π.next≤π'.next
 | [],e,env,η,π,σ,S,hs,hr,hg,hm,hy,hw=>⟨env,σ,η,e,π,rfl,hs,hr,hg,hm,hy,hw,Nat.le_refl _,fun _ _=>rfl,fun _ _=>rfl,Nat.le_refl _⟩
 | i::xs,e,env,η,π,σ,S,hs,hr,hg,hm,hy,hw=>by
  simp only [wpX] at hw
  split at hw
  ·exact hw.elim
  ·rename_i o ho
   simp only [runX,ho,afterX]
   split at hw
   ·exact hw.elim
   ·rename_i hwt
    have hwt':=wantedP_sim hr hwt
    rw [if_neg (by rw [hwt'];simp)]
    exact wpX_sim hG hs (rdL_putP hr _ rd_undef) hg hm (hy.own ho undef (fun q _ d _ h=>by rw [hwt'] at h;simp at h)) hw
   ·rename_i hwt
    have hwt':=wantedP_sim hr hwt
    rw [if_pos hwt']
    split at hw
    ·rename_i q hq
     rw [hq]
     split at hw
     ·rename_i p hp
      obtain ⟨v,hv,hrv⟩:=pevP_sim (hG.any η) hr hp
      simp only [hv]
      exact wpX_sim hG hs (rdL_putP hr _ hrv) hg hm (hy.own ho v (fun q' hq' d _ h=>by rw [hq] at hq';simp at hq')) hw
     ·exact hw.elim
    ·rename_i q hq
     rw [hq]
     split at hw
     ·rename_i p hp
      unfold rdX at hp
      split at hp
      case h_2=>simp at hp
      rename_i hbd
      simp only [Bool.and_eq_true] at hbd
      obtain ⟨hb,hd⟩:=hbd
      obtain ⟨v,hv,hrv⟩:=pevR_sim (hG.any η) hr hs hp
      have hbase:∀ a,blkV (q.base.ev env)=some a→a < β.next:=fun a ha=>baseP_sim hs hg (rd_opd (hG.any η) hr _) hb ha
      have hv':evR env β q=some v:=by rw [← hv];exact (evR_congr fun a ha=>hg.keep a (hbase a ha)).symm
      simp only [hv']
      exact wpX_sim hG hs (rdL_putP hr _ hrv) hg hm (hy.own ho v (fun q' hq' d hd' h=>by
       rw [hq] at hq';simp at hq';subst hq'
       rw [hd'] at hd
       exact ⟨hv',hbase,by have:=hr.length;have hd:=ltN_iff hd;omega⟩)) hw
     ·exact hw.elim
    ·rename_i q hq
     rw [hq]
     split at hw
     ·rename_i x f hp
      obtain ⟨bk,g,h1,h2,h3,h4⟩:=pevN_sim (hG.any η) hr hp
      obtain ⟨σ',q1,q2⟩:=push_chg hs h2 (fun c hc=>by
       have:=h3 c hc
       subst hc
       cases x <;> simp only [ORd] at h2
       exact ⟨_,_,_,_,_,_,rfl,fun i hi=>by rw [this] at hi;simp at hi⟩)
      have hσ:σ'={next:=σ.next + 1,heap:=σ.heap.set σ.next bk }:=by simpa [AW.push,most] using q1.symm
      subst hσ
      simp only [h1]
      have hext:∀ j,j < π.next→(η.ext π.next σ.next) j=η j:=fun j hj=>by simp only [Eta.ext];rw [if_neg (by omega)]
      obtain ⟨env',σ',η',e',π',w1,w2,w3,w4,w5,w6,w7,w8,w9,w10,w11⟩:=wpX_sim hG q2.rel (rdL_putP (hr.mono (Img.le_refl _) q2.et) _ (h4 _ _ _ _ (by simp [Eta.ext])))
       ⟨by have:=hg.next;dsimp only;omega,fun k hk=>by
        have:=hg.next
        dsimp only
        rw [Tr.get_set _ _ _ _ (Nat.lt_succ_self _),if_neg (by omega)];exact hg.keep k hk,fun j o a hj hl ha=>by
        rw [hext j (by omega)] at ha
        simp only [PW.push,look] at hl
        rw [if_neg (by omega)] at hl
        exact hg.old j o a hj hl ha,hg.img⟩ (by simp only [PW.push];omega) (hy.own ho (g σ.next) (fun q' hq' d _ h=>by rw [hq] at hq';simp at hq')) hw
      refine ⟨env',σ',η',e',π',by rw [if_pos (by simp [most])];exact w1,w2,w3,w4,w5,w6,w7,?_,?_,?_,?_⟩
      ·dsimp only at w8;omega
      ·intro i hi;rw [w9 i hi];exact q2.fr i hi
      ·intro j hj;rw [w10 j (by simp only [PW.push];omega),hext j hj]
      ·simp only [PW.push] at w11;omega
     ·exact hw.elim
    ·exact hw.elim
end
end Go.Proofs.YtnpoloachkcadaaGreatDoor.Ai
namespace Go.Proofs.YtnpoloachkcadaaGreatDoor.Ai
open Go
set_option linter.unusedSimpArgs false
set_option linter.unusedVariables false
def flat0:PV→Bool
 | .lit (.bool _) | .lit (.int _ _) | .lit (.string _) | .lit (.pointer none) | .lit (.slice none _ _) | .lit (.map none) | .lit .nilFunc | .lit .nilIface=>true
 | .sl _ _ | .sz _ _ | .ref _ | .loc _ _ _ _ | .ptr _ _ | .map _ | .sp _ _ _=>true
 | _=>false
def flat1:PV→Bool
 | .iface _ p=>flat0 p
 | p=>flat0 p
def flats:List PV→Bool
 | []=>true
 | p::l=>flat1 p && flats l
def flatP:PV→Bool
 | .agg l | .tup l=>flats l
 | p=>flat1 p
def litP (G:PG) (e:List PV) (π:PW) (o:IOper) (d:Nat):Bool:=
 match o.op with
 | .r q=>match pevR G e π q,getP e d with | some (.lit u),.lit w=>beqV u w | _,_=>false
 | _=>false
def chkP (G:PG) (l:List IOper) (S:List Nat) (e:List PV) (π:PW):List Nat→Bool
 | []=>true
 | i::is=>
  (match nthO l i with
   | some o=>wantedP e o.guard == some false || (match o.dst with | some d=>(S.contains i && flatP (getP e d)) || (wantedP e o.guard == some true && litP G e π o d) | none=>false)
   | none=>false) && chkP G l S e π is
section
variable {F:Nat→Prop} {I:Img} {η:Eta} {G:PG} {e:List PV} {env:List Value} {π π':PW} {σ β:AW} {m:Nat}
theorem flat0_sim {p:PV} {v:Value} (h:Rd I η p v) (hf:flat0 p=true):beq0 v v=true:=by
 unfold flat0 at hf
 split at hf
 all_goals first
  | (simp at hf;done)
  | (obtain ⟨rfl,_⟩:=rd_lit h;simp [beq0])
  | (simp only [Rd] at h;rcases h with ⟨_,rfl | ⟨_,_,_,rfl,_⟩⟩ | ⟨i,off,cap,vs,ws,rest,rfl,_⟩ <;> simp [beq0];done)
  | (simp only [Rd] at h;obtain ⟨i,off,cap,vs,ws,rest,rfl,_⟩:=h;simp [beq0];done)
  | (simp only [Rd] at h;obtain ⟨i,off,vs,ws,rest,rfl,_⟩:=h;simp [beq0])
  | (simp only [Rd] at h;obtain ⟨a,_,rfl⟩:=h;simp [beq0])
theorem beq1_of0 {v:Value} (h:beq0 v v=true):beq1 v v=true:=by
 unfold beq1
 split
 ·simp [beq0] at h
 ·simp [beq0] at h
 ·exact h
theorem flat1_sim {p:PV} {v:Value} (h:Rd I η p v) (hf:flat1 p=true):beq1 v v=true:=by
 unfold flat1 at hf
 split at hf
 ·simp only [Rd] at h
  obtain ⟨x,rfl,hx⟩:=h
  simp [beq1,flat0_sim hx hf]
 ·exact beq1_of0 (flat0_sim h hf)
theorem flats_sim:∀ {ps:List PV} {vs:List Value},RdL I η ps vs→flats ps=true→beqs vs vs=true
 | [],[],_,_=>rfl
 | p::ps,v::vs,h,hf=>by
  simp only [RdL] at h
  simp only [flats,Bool.and_eq_true] at hf
  simp only [beqs,Bool.and_eq_true]
  exact ⟨flat1_sim h.1 hf.1,flats_sim h.2 hf.2⟩
 | [],_::_,h,_=>by simp [RdL] at h
 | _::_,[],h,_=>by simp [RdL] at h
theorem beqV_of1 {v:Value} (h:beq1 v v=true):beqV v v=true:=by
 unfold beqV
 split
 ·simp [beq1,beq0] at h
 ·simp [beq1,beq0] at h
 ·exact h
theorem flatP_sim {p:PV} {v:Value} (h:Rd I η p v) (hf:flatP p=true):beqV v v=true:=by
 unfold flatP at hf
 split at hf
 ·simp only [Rd] at h
  obtain ⟨x,rfl,hx⟩:=h
  simp only [beqV];exact flats_sim hx hf
 ·simp only [Rd] at h
  obtain ⟨x,rfl,hx⟩:=h
  simp only [beqV];exact flats_sim hx hf
 ·exact beqV_of1 (flat1_sim h hf)
theorem chkP_sim (hG:GRd I noE G) (hs:SRel F I η π σ) (hr:RdL I η e env) {l:List IOper} {S:List Nat} (hy:Sync l env σ S):∀ {is:List Nat},chkP G l S e π is=true→chkR l env σ is=true
 | [],_=>rfl
 | i::is,h=>by
  simp only [chkP,Bool.and_eq_true] at h
  obtain ⟨h,h2⟩:=h
  simp only [chkR,Bool.and_eq_true]
  refine ⟨?_,chkP_sim hG hs hr hy h2⟩
  split at h
  ·rename_i o ho
   rw [ho]
   dsimp only
   simp only [Bool.or_eq_true,beq_iff_eq] at h
   rcases h with h | h
   ·rw [wantedP_sim hr h];rfl
   ·split
    ·rename_i hw
     split at h
     ·rename_i d hd
      simp only [Bool.or_eq_true,Bool.and_eq_true] at h
      rcases h with ⟨h1,h3⟩ | ⟨_,h1⟩
      ·obtain ⟨o',q,d',g1,g2,g3,g4⟩:=hy i (by simpa using h1)
       rw [ho] at g1;cases g1
       rw [hd] at g3;cases g3
       rw [g2,hd]
       dsimp only
       rw [(g4 hw).1]
       exact flatP_sim (rd_getP hr d) h3
      ·unfold litP at h1
       split at h1
       ·rename_i q hq
        rw [hq,hd]
        dsimp only
        split at h1
        ·rename_i u w hu hw'
         obtain ⟨v,hv,hrv⟩:=pevR_sim (hG.any η) hr hs hu
         obtain ⟨rfl,_⟩:=rd_lit hrv
         rw [hv]
         have:=rd_getP hr d
         rw [hw'] at this
         obtain ⟨h5,_⟩:=rd_lit this
         dsimp only
         rw [h5];exact h1
        ·simp at h1
       ·simp at h1
     ·simp at h
    ·rfl
  ·simp at h
end
def PDraw (C:Ctx) (b:Nat) (l:List IOper) (fin:DStage) (st:List DStage) (S:List Nat) (e:List PV) (π:PW) (Q:List PV→PW→Prop):Prop:=
 ∀ F I η σ env,GRd I noE C.G→SRel F I η π σ→RdL I η e env→Sync l env σ S→∃ L env' σ' I' η' e' π',LOK C L∧LB L σ.next σ'.next∧runDraw (KL L) l fin st env σ=some (env',σ')∧Fol F b I η σ I' η' σ'∧SRel F I' η' π' σ'∧RdL I' η' e' env'∧Q e' π'
def PDE (C:Ctx) (b:Nat) (l:List IOper) (fin:DStage) (st:List DStage) (S:List Nat) (q:EOp) (d:Option Nat) (e:List PV) (π:PW) (Q:List PV→PW→Prop):Prop:=
 ∀ F I η σ env,GRd I noE C.G→SRel F I η π σ→RdL I η e env→Sync l env σ S→∃ L v σ1 env' σ' I' η' e' π',LOK C L∧LB L σ.next σ'.next∧runE (KL L) env σ q=some (.ret v,σ1)∧runDraw (KL L) l fin st (put env d v) σ1=some (env',σ')∧Fol F b I η σ I' η' σ'∧SRel F I' η' π' σ'∧RdL I' η' e' env'∧Q e' π'
def wpDE (C:Ctx) (b:Nat) (l:List IOper) (fin:DStage) (st:List DStage) (S:List Nat) (k:Nat) (e:List PV) (π:PW) (Q:List PV→PW→Prop):Prop:=
 match nthO l k with
 | none=>False
 | some o=>
  match wantedP e o.guard with
  | none=>False
  | some false=>PDraw C b l fin st (S.filter (freeJ l o.dst)) (putP e o.dst undefP) π Q
  | some true=>
   match o.op with
   | .e q=>PDE C b l fin st S q o.dst e π Q
   | _=>False
section
variable {C:Ctx} {b:Nat} {l:List IOper} {fin:DStage} {st:List DStage} {S:List Nat} {e:List PV} {π:PW} {Q:List PV→PW→Prop}
theorem stg0 {F:Nat→Prop} {I:Img} {η:Eta} {σ:AW} (hs:SRel F I η π σ):Stg σ π.next I η π σ:=
 ⟨Nat.le_refl _,fun _ _=>rfl,fun j o a hj hl ha=>by obtain ⟨a',b,ha',hlt,_⟩:=hs.obj j o hl;rw [ha] at ha';cases ha';exact hlt,fun k us hk=>(hs.img k us hk).1⟩
theorem Fol.of_stage {F:Nat→Prop} {I:Img} {η η':Eta} {σ σ':AW} {m:Nat} (hb:b≤m) (h1:σ.next≤σ'.next) (h2:∀ i,F i→σ'.heap.get i=σ.heap.get i) (h3:∀ j,j < m→η' j=η j):Fol F b I η σ I η' σ':=
 ⟨h1,fun i hi=>⟨h2 i hi,rfl⟩,Img.le_refl _,fun j hj=>h3 j (by omega)⟩
theorem PDraw.gh (h:Gh C b e π fun e π=>PDraw C b l fin st S e π Q):PDraw C b l fin st S e π Q:=by
 intro F I η σ env hG hs hr hy
 obtain ⟨I1,η1,e1,π1,f1,s1,r1,a1⟩:=h F I η σ env hG hs hr
 obtain ⟨L,env',σ',I',η',e',π',h1,h2,h3,h4,h5⟩:=a1 F I1 η1 σ env (hG.le f1.im) s1 r1 hy
 exact ⟨L,env',σ',I',η',e',π',h1,h2,h3,f1.trans h4,h5⟩
theorem PDE.gh {q:EOp} {d:Option Nat} (h:Gh C b e π fun e π=>PDE C b l fin st S q d e π Q):PDE C b l fin st S q d e π Q:=by
 intro F I η σ env hG hs hr hy
 obtain ⟨I1,η1,e1,π1,f1,s1,r1,a1⟩:=h F I η σ env hG hs hr
 obtain ⟨L,v,σ1,env',σ',I',η',e',π',h1,h2,h3,h3',h4,h5⟩:=a1 F I1 η1 σ env (hG.le f1.im) s1 r1 hy
 exact ⟨L,v,σ1,env',σ',I',η',e',π',h1,h2,h3,h3',f1.trans h4,h5⟩
theorem PDraw.last (hb:b≤π.next) (hc:chkP C.G l S e π fin.chk=true) (h:wpX C.G l π.next fin.xs e π Q):PDraw C b l fin [] S e π Q:=by
 intro F I η σ env hG hs hr hy
 obtain ⟨env',σ',η',e',π',w1,w2,w3,w4,w5,w6,w7,w8,w9,w10,w11⟩:=wpX_sim hG hs hr (stg0 hs) (Nat.le_refl _) hy h
 refine ⟨Lno,env',σ',I,η',e',π',.no,.no _ _,?_,.of_stage hb w8 w9 w10,w2,w3,w7⟩
 simp only [runDraw,chkP_sim hG hs hr hy hc,if_true,w1]
theorem PDraw.stage {s:DStage} (hb:b≤π.next) (hc:chkP C.G l S e π s.chk=true) (h:wpX C.G l π.next s.xs e π fun e1 π1=>wpDE C b l fin st (afterX l s.xs S) s.e e1 π1 Q):PDraw C b l fin (s::st) S e π Q:=by
 intro F I η σ env hG hs hr hy
 obtain ⟨env1,σ1,η1,e1,π1,w1,w2,w3,w4,w5,w6,w7,w8,w9,w10,w11⟩:=wpX_sim hG hs hr (stg0 hs) (Nat.le_refl _) hy h
 have f1:Fol F b I η σ I η1 σ1:=.of_stage hb w8 w9 w10
 have hy1:Sync l env1 σ1 (afterX l s.xs S):=w6.congr w4.next w4.keep
 unfold wpDE at w7
 split at w7
 ·exact w7.elim
 ·rename_i o ho
  split at w7
  ·exact w7.elim
  ·rename_i hw
   obtain ⟨L,env',σ',I',η',e',π',h1,h2,h3,h4,h5⟩:=w7 F I η1 σ1 (put env1 o.dst undef) hG w2 (rdL_putP w3 _ rd_undef) (hy1.put _ _)
   refine ⟨L,env',σ',I',η',e',π',h1,fun n E hE=>⟨Nat.le_trans f1.next (h2 n E hE).1,(h2 n E hE).2⟩,?_,f1.trans h4,h5⟩
   simp only [runDraw,chkP_sim hG hs hr hy hc,if_true,w1,ho,wantedP_sim w3 hw]
   exact h3
  ·rename_i hw
   split at w7
   ·rename_i q hq
    obtain ⟨L,v,σ2,env',σ',I',η',e',π',h1,h2,h3,h3',h4,h5⟩:=w7 F I η1 σ1 env1 hG w2 w3 hy1
    refine ⟨L,env',σ',I',η',e',π',h1,fun n E hE=>⟨Nat.le_trans f1.next (h2 n E hE).1,(h2 n E hE).2⟩,?_,f1.trans h4,h5⟩
    simp only [runDraw,chkP_sim hG hs hr hy hc,if_true,w1,ho,wantedP_sim w3 hw,hq,h3]
    exact h3'
   ·exact w7.elim
theorem PDE.any {q:EOp} {d:Option Nat} (hb:b≤π.next) (h:PE C q e π fun r π'=>PDraw C b l fin st [] (putP e d r) π' Q):PDE C b l fin st S q d e π Q:=by
 intro F I η σ env hG hs hr hy
 obtain ⟨L,v,σ1,I1,η1,r,π1,h1,h2,h3,h4,h5,h6,h7,h8,h9⟩:=h F I η σ env hG hs hr
 obtain ⟨M,env',σ',I',η',e',π',k1,k2,k3,k4,k5⟩:=h9 F I1 η1 σ1 (put env d v) (hG.le h4.im) h7 (rdL_putP (hr.mono h4.im h5) _ h8) (.no _ _ _)
 exact ⟨Lcat σ1.next L M,v,σ1,env',σ',I',η',e',π',h1.cat k1 _,h2.cat k2 h4.next k4.next,runE_mono (KL_left h2) h3,runDraw_mono (KL_right k2) k3,Fol.trans ⟨h4.next,h4.fr,h4.im,fun j hj=>h6 j (by omega)⟩ k4,k5⟩
theorem PDE.pure {f:FuncId} {args:List Opd} {d:Option Nat} {r:PV} (hf:PFun C f (evsP C.G e args) r) (hp:pureL (evsP C.G e args)=true) (h:PDraw C b l fin st (S.filter (freeJ l d)) (putP e d r) π Q):PDE C b l fin st S (.call f args) d e π Q:=by
 intro F I η σ env hG hs hr hy
 obtain ⟨v,σ1,I1,h1,⟨h2,h3,h4⟩,h5,h6⟩:=hf.use hp hG hs (evsP_sim (hG.any η) hr args)
 obtain ⟨M,env',σ',I',η',e',π',k1,k2,k3,k4,k5⟩:=h F I1 η σ1.bump (put env d v) (hG.le h3) h5.bump (rdL_putP (hr.mono h3 (Eta.le_refl _)) _ h6) ((hy.congr (σ':=σ1.bump) (Nat.le_succ_of_le (Nat.le_of_lt h2)) fun k hk=>(h4 k hk).1).put d v)
 have hb:=LB.one ⟨f,evs env args,σ,v,σ1.bump,false⟩ (b:=σ1.bump.next) (Nat.lt_succ_of_lt h2)
 exact ⟨Lcat σ1.bump.next (Lone ⟨f,evs env args,σ,v,σ1.bump,false⟩) M,v,σ1.bump,env',σ',I',η',e',π',(LOK.one h1.bump).cat k1 _,hb.cat k2 (Nat.le_succ_of_le (Nat.le_of_lt h2)) k4.next,
  runE_mono (KL_left hb) (KL_one ⟨f,evs env args,σ,v,σ1.bump,false⟩ rfl),runDraw_mono (KL_right k2) k3,Fol.trans (σ1:=σ1.bump) ⟨Nat.le_succ_of_le (Nat.le_of_lt h2),fun i hi=>h4 i (hs.fn i hi),h3,fun _ _=>rfl⟩ k4,k5⟩
end
end Go.Proofs.YtnpoloachkcadaaGreatDoor.Ai
namespace Go.Proofs.YtnpoloachkcadaaGreatDoor.Ai
open Go
set_option linter.unusedSimpArgs false
set_option linter.unusedVariables false
def wpOps (C:Ctx) (b:Nat):List IOper→List PV→PW→(List PV→PW→Prop)→Prop
 | [],e,π,Q=>Q e π
 | o::l,e,π,Q=>
  match wantedP e o.guard with
  | none=>False
  | some false=>wpOps C b l (putP e o.dst undefP) π Q
  | some true=>
   match o.op with
   | .p q=>match pevP C.G e q with | some v=>wpOps C b l (putP e o.dst v) π Q | none=>False
   | .r q=>match pevR C.G e π q with | some v=>wpOps C b l (putP e o.dst v) π Q | none=>False
   | .n q=>match pevN C.G e q,Nat.ble b π.next with | some (x,f),true=>wpOps C b l (putP e o.dst (f π.next)) (π.push x) Q | _,_=>False
   | .e (.call f args)=>Gh C b e π fun e π=>b≤π.next∧PToE C b e f (evsP C.G e args) π fun r π'=>POps C b l (putP e o.dst r) π' Q
   | .e (.callv f args)=>Gh C b e π fun e π=>b≤π.next∧PVal C b e (f.pv C.G e) (evsP C.G e args) π fun r π'=>POps C b l (putP e o.dst r) π' Q
   | .e q=>match pevE C.G e π q,Nat.ble b π.next with | some (r,π'),true=>wpOps C b l (putP e o.dst r) π' Q | _,_=>False
   | _=>False
section
variable {C:Ctx} {b:Nat}
theorem POps.wp:∀ {l:List IOper} {e:List PV} {π:PW} {Q:List PV→PW→Prop},wpOps C b l e π Q→POps C b l e π Q
 | [],e,π,Q,h=>.nil h
 | o::l,e,π,Q,h=>by
  simp only [wpOps] at h
  split at h
  ·exact h.elim
  ·rename_i hw;exact .skip hw (POps.wp h)
  ·rename_i hw
   split at h
   ·rename_i q hq
    split at h
    ·rename_i v hv;exact .p hq hw hv (POps.wp h)
    ·exact h.elim
   ·rename_i q hq
    split at h
    ·rename_i v hv;exact .r hq hw hv (POps.wp h)
    ·exact h.elim
   ·rename_i q hq
    split at h
    ·rename_i x f hv hb;exact .n hq hw hv (by simpa using hb) (POps.wp h)
    ·exact h.elim
   ·rename_i f args hq
    exact .callE hq hw (h.mono fun e' π' h'=>h'.2)
   ·rename_i f args hq
    exact .callvE hq hw (h.mono fun e' π' h'=>h'.2)
   ·rename_i q hnc hnv hq
    split at h
    ·rename_i r π' hv hb;exact .ee hq hw (by simpa using hb) (.det hv (POps.wp h))
    ·exact h.elim
   ·exact h.elim
end
def FD (F:Nat→Prop) (D:List Nat):Nat→Prop:=fun i=>F i∨i∈D
def Ends (b:Nat) (F:Nat→Prop) (I:Img) (η:Eta) (σ:AW) (env:Fr) (x:IExit) (env':Fr) (σ':AW) (Q:IExit→List PV→PW→Prop):Prop:=
 ∃ I' η' t π D,Fol F b I η σ I' η' σ'∧env'.dfs=D++env.dfs∧D.Nodup∧(∀ d∈D,¬ F d∧σ'.heap.get d=some (.deferred false))∧SRel (FD F D) I' η' π σ'∧RdL I' η' t env'.tmps∧Q x t π
def PRun (C:Ctx) (b:Nat) (ic:ICode) (t:List PV) (π:PW) (Q:IExit→List PV→PW→Prop):Prop:=
 ∀ F I η σ env,GRd I noE C.G→SRel F I η π σ→RdL I η t env.tmps→∃ L n x env' σ',LOK C L∧LB L σ.next σ'.next∧evC (KL L) n none ic env σ=some (x,env',σ')∧Ends b F I η σ env x env' σ' Q
section
variable {C:Ctx} {b:Nat} {t:List PV} {π:PW} {Q:IExit→List PV→PW→Prop}
theorem SRel.frame {F F':Nat→Prop} {I:Img} {η:Eta} {σ:AW} (h:SRel F I η π σ) (hF:∀ i,F' i→F i):SRel F' I η π σ:=
 ⟨h.hn,fun i hi=>h.fn i (hF i hi),fun j o a hj ha hf=>h.fo j o a hj ha (hF a hf),h.img,h.fresh,h.obj,h.inj,h.sep,
  fun j cs ty esz ex ret al a b hj ha hb i hi=>by obtain ⟨h1,h2,h3,h4⟩:=h.al j cs ty esz ex ret al a b hj ha hb i hi;exact ⟨h1,h2,fun hf=>h3 (hF i hf),h4⟩⟩
theorem SRel.fd0 {F:Nat→Prop} {I:Img} {η:Eta} {σ:AW} (h:SRel F I η π σ):SRel (FD F []) I η π σ:=h.frame fun i hi=>by simpa [FD] using hi
theorem PRun.mono {ic:ICode} {Q':IExit→List PV→PW→Prop} (h:PRun C b ic t π Q) (k:∀ x t π,Q x t π→Q' x t π):PRun C b ic t π Q':=by
 intro F I η σ env hG hs hr
 obtain ⟨L,n,x,env',σ',h1,h2,h3,I',η',t',π',D,h4,h5,h6,h7,h8,h9,h10⟩:=h F I η σ env hG hs hr
 exact ⟨L,n,x,env',σ',h1,h2,h3,I',η',t',π',D,h4,h5,h6,h7,h8,h9,k _ _ _ h10⟩
theorem PRun.gh {ic:ICode} (h:Gh C b t π fun t π=>PRun C b ic t π Q):PRun C b ic t π Q:=by
 intro F I η σ env hG hs hr
 obtain ⟨I1,η1,e1,π1,f1,s1,r1,a1⟩:=h F I η σ env.tmps hG hs hr
 obtain ⟨L,n,x,env',σ',h1,h2,h3,I',η',t',π',D,h4,h5⟩:=a1 F I1 η1 σ env (hG.le f1.im) s1 r1
 exact ⟨L,n,x,env',σ',h1,h2,h3,I',η',t',π',D,f1.trans h4,h5⟩
theorem PRun.after {ic:ICode} (h:PRun C b ic t π fun x t π=>Gh C b t π (Q x)):PRun C b ic t π Q:=by
 intro F I η σ env hG hs hr
 obtain ⟨L,n,x,env',σ',h1,h2,h3,I',η',t',π',D,h4,h5,h6,h7,h8,h9,h10⟩:=h F I η σ env hG hs hr
 obtain ⟨I1,η1,e1,π1,f1,s1,r1,a1⟩:=h10 _ I' η' σ' env'.tmps (hG.le h4.im) h8 h9
 exact ⟨L,n,x,env',σ',h1,h2,h3,I1,η1,e1,π1,D,h4.trans ⟨f1.next,fun i hi=>f1.fr i (.inl hi),f1.im,f1.et⟩,h5,h6,h7,s1,r1,a1⟩
theorem PRun.skip (h:Q .normal t π):PRun C b .skip t π Q:=fun F I η σ env hG hs hr=>⟨Lno,0,.normal,env,σ,.no,.no _ _,rfl,I,η,t,π,[],.refl,rfl,.nil,by simp,hs.fd0,hr,h⟩
theorem PRun.exit {id:Nat} (h:Q (.exit id) t π):PRun C b (.exit id) t π Q:=fun F I η σ env hG hs hr=>⟨Lno,0,.exit id,env,σ,.no,.no _ _,rfl,I,η,t,π,[],.refl,rfl,.nil,by simp,hs.fd0,hr,h⟩
theorem PRun.ret (h:Q .ret t π):PRun C b .ret t π Q:=fun F I η σ env hG hs hr=>⟨Lno,0,.ret,env,σ,.no,.no _ _,rfl,I,η,t,π,[],.refl,rfl,.nil,by simp,hs.fd0,hr,h⟩
theorem PRun.ops {l:List IOper} (h:POps C b l t π (Q .normal)):PRun C b (.ops l) t π Q:=by
 intro F I η σ env hG hs hr
 obtain ⟨L,env',σ',I',η',e',π',h1,h2,h3,h4,h5,h6,h7⟩:=h F I η σ env.tmps hG hs hr
 exact ⟨L,0,.normal,{env with tmps:=env' },σ',h1,h2,by simp only [evC,h3,Option.map_some],I',η',e',π',[],h4,rfl,.nil,by simp,h5.fd0,h6,h7⟩
theorem PRun.draw {l:List IOper} {st:List DStage} {fin:DStage} (h:PDraw C b l fin st [] t π (Q .normal)):PRun C b (.draw l st fin) t π Q:=by
 intro F I η σ env hG hs hr
 obtain ⟨L,env',σ',I',η',e',π',h1,h2,h3,h4,h5,h6,h7⟩:=h F I η σ env.tmps hG hs hr (.no _ _ _)
 exact ⟨L,0,.normal,{env with tmps:=env' },σ',h1,h2,by simp only [evC,h3,Option.map_some],I',η',e',π',[],h4,rfl,.nil,by simp,h5.fd0,h6,h7⟩
theorem Ends.then {F:Nat→Prop} {I:Img} {η:Eta} {σ σ1 σ':AW} {env env1 env':Fr} {x:IExit} {I1:Img} {η1:Eta} {D1:List Nat}
  (f1:Fol F b I η σ I1 η1 σ1) (d1:env1.dfs=D1++env.dfs) (n1:D1.Nodup) (g1:∀ d∈D1,¬ F d∧σ1.heap.get d=some (.deferred false)) (h:Ends b (FD F D1) I1 η1 σ1 env1 x env' σ' Q):Ends b F I η σ env x env' σ' Q:=by
 obtain ⟨I',η',t',π',D,h4,h5,h6,h7,h8,h9,h10⟩:=h
 refine ⟨I',η',t',π',D++D1,f1.trans ⟨h4.next,fun i hi=>h4.fr i (.inl hi),h4.im,h4.et⟩,by rw [h5,d1,List.append_assoc],?_,?_,h8.frame fun i hi=>?_,h9,h10⟩
 ·rw [List.nodup_append]
  exact ⟨h6,n1,fun a ha c hc e=>by subst e;exact (h7 a ha).1 (.inr hc)⟩
 ·intro d hd
  rw [List.mem_append] at hd
  rcases hd with hd | hd
  ·exact ⟨fun hf=>(h7 d hd).1 (.inl hf),(h7 d hd).2⟩
  ·exact ⟨(g1 d hd).1,by rw [(h4.fr d (.inr hd)).1];exact (g1 d hd).2⟩
 ·simp only [FD,List.mem_append] at hi ⊢
  rcases hi with hi | hi | hi
  ·exact .inl (.inl hi)
  ·exact .inr hi
  ·exact .inl (.inr hi)
theorem PRun.seq {a c:ICode} (h:PRun C b a t π fun x t π=>match x with | .normal=>PRun C b c t π Q | x=>Q x t π):PRun C b (.seq a c) t π Q:=by
 intro F I η σ env hG hs hr
 obtain ⟨L,n,x,env1,σ1,h1,h2,h3,I1,η1,t1,π1,D1,h4,h5,h6,h7,h8,h9,h10⟩:=h F I η σ env hG hs hr
 have done:x ≠ .normal→Q x t1 π1→∃ L n x env' σ',LOK C L∧LB L σ.next σ'.next∧evC (KL L) n none (.seq a c) env σ=some (x,env',σ')∧Ends b F I η σ env x env' σ' Q:=by
  intro hx hq
  refine ⟨L,n,x,env1,σ1,h1,h2,?_,I1,η1,t1,π1,D1,h4,h5,h6,h7,h8,h9,hq⟩
  simp only [evC,h3]
  cases x <;> first | rfl | exact absurd rfl hx
 cases x with
 | normal=>
  obtain ⟨M,m,x,env',σ',k1,k2,k3,k4⟩:=h10 (FD F D1) I1 η1 σ1 env1 (hG.le h4.im) h8 h9
  have hn:σ1.next≤σ'.next:=by obtain ⟨_,_,_,_,_,k5,_⟩:=k4;exact k5.next
  refine ⟨Lcat σ1.next L M,max n m,x,env',σ',h1.cat k1 _,h2.cat k2 h4.next hn,?_,k4.then h4 h5 h6 h7⟩
  simp only [evC,evC_mono (KL_left h2) (Nat.le_max_left n m) h3]
  exact evC_mono (KL_right k2) (Nat.le_max_right n m) k3
 | exit i=>exact done (by simp) h10
 | ret=>exact done (by simp) h10
 | panic ch=>exact done (by simp) h10
theorem PRun.condT {c:Opd} {a a':ICode} (hc:c.pv C.G t = .lit (.bool true)) (h:PRun C b a t π Q):PRun C b (.cond c a a') t π Q:=by
 intro F I η σ env hG hs hr
 obtain ⟨L,n,x,env1,σ1,h1,h2,h3,h4⟩:=h F I η σ env hG hs hr
 have:=rd_opd (hG.any η) hr c
 rw [hc] at this
 exact ⟨L,n,x,env1,σ1,h1,h2,by simp only [evC,(rd_lit this).1];exact h3,h4⟩
theorem PRun.condF {c:Opd} {a a':ICode} (hc:c.pv C.G t = .lit (.bool false)) (h:PRun C b a' t π Q):PRun C b (.cond c a a') t π Q:=by
 intro F I η σ env hG hs hr
 obtain ⟨L,n,x,env1,σ1,h1,h2,h3,h4⟩:=h F I η σ env hG hs hr
 have:=rd_opd (hG.any η) hr c
 rw [hc] at this
 exact ⟨L,n,x,env1,σ1,h1,h2,by simp only [evC,(rd_lit this).1];exact h3,h4⟩
theorem PRun.block {id:Nat} {a:ICode} (h:PRun C b a t π fun x t π=>match x with | .exit i=>if i=id then Q .normal t π else Q (.exit i) t π | x=>Q x t π):PRun C b (.block id a) t π Q:=by
 intro F I η σ env hG hs hr
 obtain ⟨L,n,x,env1,σ1,h1,h2,h3,I1,η1,t1,π1,D1,h4,h5,h6,h7,h8,h9,h10⟩:=h F I η σ env hG hs hr
 cases x with
 | exit i=>
  refine ⟨L,n,_,env1,σ1,h1,h2,by simp only [evC,h3];rfl,I1,η1,t1,π1,D1,h4,h5,h6,h7,h8,h9,?_⟩
  dsimp only at h10
  split
  ·rename_i hi;rw [if_pos hi] at h10;exact h10
  ·rename_i hi;rw [if_neg hi] at h10;exact h10
 | normal=>exact ⟨L,n,_,env1,σ1,h1,h2,by simp only [evC,h3],I1,η1,t1,π1,D1,h4,h5,h6,h7,h8,h9,h10⟩
 | ret=>exact ⟨L,n,_,env1,σ1,h1,h2,by simp only [evC,h3],I1,η1,t1,π1,D1,h4,h5,h6,h7,h8,h9,h10⟩
 | panic ch=>exact ⟨L,n,_,env1,σ1,h1,h2,by simp only [evC,h3],I1,η1,t1,π1,D1,h4,h5,h6,h7,h8,h9,h10⟩
theorem PRun.loop {a:ICode} (Inv:Nat→List PV→PW→Prop) (h:∀ n t π,Inv n t π→PRun C b a t π fun x t' π'=>match x with | .normal=>∃ m,m < n∧Inv m t' π' | x=>Q x t' π') :
  ∀ n t π,Inv n t π→PRun C b (.loop a) t π Q:=by
 intro n
 induction n using Nat.strongRecOn with
 | ind n ih=>
  intro t π hi F I η σ env hG hs hr
  obtain ⟨L,k,x,env1,σ1,h1,h2,h3,I1,η1,t1,π1,D1,h4,h5,h6,h7,h8,h9,h10⟩:=h n t π hi F I η σ env hG hs hr
  have done:x ≠ .normal→Q x t1 π1→∃ L n x env' σ',LOK C L∧LB L σ.next σ'.next∧evC (KL L) n none (.loop a) env σ=some (x,env',σ')∧Ends b F I η σ env x env' σ' Q:=by
   intro hx hq
   refine ⟨L,k + 1,x,env1,σ1,h1,h2,?_,I1,η1,t1,π1,D1,h4,h5,h6,h7,h8,h9,hq⟩
   simp only [evC,loopN,evC_mono (Ks.le_refl _) (Nat.le_succ k) h3]
   cases x <;> first | rfl | exact absurd rfl hx
  cases x with
  | normal=>
   obtain ⟨m,hm,hi'⟩:=h10
   obtain ⟨M,k2,x,env',σ',g1,g2,g3,g4⟩:=ih m hm t1 π1 hi' (FD F D1) I1 η1 σ1 env1 (hG.le h4.im) h8 h9
   have hn:σ1.next≤σ'.next:=by obtain ⟨_,_,_,_,_,k5,_⟩:=g4;exact k5.next
   refine ⟨Lcat σ1.next L M,max k k2 + 1,x,env',σ',h1.cat g1 _,h2.cat g2 h4.next hn,?_,g4.then h4 h5 h6 h7⟩
   simp only [evC] at g3
   simp only [evC,loopN]
   rw [evC_mono (KL_left h2) (Nat.le_succ_of_le (Nat.le_max_left k k2)) h3]
   exact loopN_mono (fun e σ r hf=>evC_mono (KL_right g2) (Nat.le_succ_of_le (Nat.le_max_right k k2)) hf) (Nat.le_max_right k k2) g3
  | exit i=>exact done (by simp) h10
  | ret=>exact done (by simp) h10
  | panic ch=>exact done (by simp) h10
end
def wp (C:Ctx) (b:Nat):ICode→List PV→PW→(IExit→List PV→PW→Prop)→Prop
 | .skip,t,π,Q=>Q .normal t π
 | .ops l,t,π,Q=>wpOps C b l t π (Q .normal)
 | .draw l st fin,t,π,Q=>PDraw C b l fin st [] t π (Q .normal)
 | .seq a c,t,π,Q=>wp C b a t π fun x t π=>match x with | .normal=>PRun C b c t π Q | x=>Q x t π
 | .cond c a a',t,π,Q=>match c.pv C.G t with | .lit (.bool x)=>if x=true then wp C b a t π Q else wp C b a' t π Q | _=>False
 | .block id a,t,π,Q=>wp C b a t π fun x t π=>match x with | .exit i=>if i=id then Q .normal t π else Q (.exit i) t π | x=>Q x t π
 | .loop a,t,π,Q=>PRun C b (.loop a) t π Q
 | .rangeF f ps as bo,t,π,Q=>PRun C b (.rangeF f ps as bo) t π Q
 | .exit id,t,π,Q=>Q (.exit id) t π
 | .ret,t,π,Q=>Q .ret t π
 | .bad,_,_,_=>False
theorem PRun.wp {C:Ctx} {b:Nat}:∀ {ic:ICode} {t:List PV} {π:PW} {Q:IExit→List PV→PW→Prop},Ai.wp C b ic t π Q→PRun C b ic t π Q
 | .skip,t,π,Q,h=>.skip h
 | .ops l,t,π,Q,h=>.ops (POps.wp h)
 | .draw l st fin,t,π,Q,h=>.draw h
 | .seq a c,t,π,Q,h=>.seq (PRun.wp h)
 | .cond c a a',t,π,Q,h=>by
  simp only [Ai.wp] at h
  split at h
  ·rename_i x hc
   split at h
   ·rename_i hx;subst hx;exact .condT hc (PRun.wp h)
   ·rename_i hx;rw [Bool.not_eq_true] at hx;subst hx;exact .condF hc (PRun.wp h)
  ·exact h.elim
 | .block id a,t,π,Q,h=>.block (PRun.wp h)
 | .loop a,t,π,Q,h=>h
 | .rangeF f ps as bo,t,π,Q,h=>h
 | .exit id,t,π,Q,h=>.exit h
 | .ret,t,π,Q,h=>.ret h
 | .bad,t,π,Q,h=>h.elim
def resP (t:List PV) (π:PW):IRes→Option PV
 | .tmp n=>some (getP t n)
 | .cell n none=>pevR (fun _=>none) t π (.ld (.t n))
 | .cell n (some k)=>pevR (fun _=>none) t π (.ldn k (.t n))
def resPs (t:List PV) (π:PW):List IRes→Option (List PV)
 | []=>some []
 | r::l=>match resP t π r,resPs t π l with | some v,some vs=>some (v::vs) | _,_=>none
def tupP:List PV→PV
 | [v]=>v
 | l=>.tup l
section
variable {C:Ctx}
theorem resP_sim {F:Nat→Prop} {I:Img} {η:Eta} {π:PW} {σ:AW} {t:List PV} {env:List Value} (hs:SRel F I η π σ) (hr:RdL I η t env) {r:IRes} {p:PV} (h:resP t π r=some p):∃ v,resV env σ r=some v∧Rd I η p v:=by
 have hG:GRd I η (fun _=>none):=fun g cs hg=>by simp at hg
 cases r with
 | tmp n=>simp only [resP,Option.some.injEq] at h;subst h;exact ⟨_,rfl,rd_getP hr n⟩
 | cell n k=>
  cases k with
  | none=>
   obtain ⟨v,hv,hrv⟩:=pevR_sim (q:=.ld (.t n)) hG hr hs h
   refine ⟨v,?_,hrv⟩
   simp only [evR,Opd.ev] at hv
   simp only [resV]
   exact hv
  | some k=>
   obtain ⟨v,hv,hrv⟩:=pevR_sim (q:=.ldn k (.t n)) hG hr hs h
   refine ⟨v,?_,hrv⟩
   simp only [evR,Opd.ev] at hv
   simp only [resV]
   exact hv
theorem resPs_sim {F:Nat→Prop} {I:Img} {η:Eta} {π:PW} {σ:AW} {t:List PV} {env:List Value} (hs:SRel F I η π σ) (hr:RdL I η t env):∀ {l:List IRes} {ps:List PV},resPs t π l=some ps→∃ vs,resVs env σ l=some vs∧RdL I η ps vs
 | [],ps,h=>by simp [resPs] at h;subst h;exact ⟨[],rfl,by simp [RdL]⟩
 | r::l,ps,h=>by
  simp only [resPs] at h
  split at h
  ·rename_i p qs h1 h2
   simp at h;subst h
   obtain ⟨v,hv,g1⟩:=resP_sim hs hr h1
   obtain ⟨vs,hvs,g2⟩:=resPs_sim hs hr h2
   exact ⟨v::vs,by simp only [resVs,hv,hvs],by simp only [RdL];exact ⟨g1,g2⟩⟩
  ·simp at h
theorem tupP_sim {I:Img} {η:Eta} {ps:List PV} {vs:List Value} (h:RdL I η ps vs):Rd I η (tupP ps) (tupleOf vs):=by
 match ps,vs,h with
 | [],[],h=>simp [tupP,tupleOf,Rd,RdL]
 | [p],[v],h=>simp only [RdL] at h;exact h.1
 | p::q::ps,v::w::vs,h=>simp only [tupP,tupleOf,Rd];exact ⟨_,rfl,h⟩
 | [],_::_,h=>simp [RdL] at h
 | _::_,[],h=>simp [RdL] at h
 | [_],_::_::_,h=>simp [RdL] at h
 | _::_::_,[_],h=>simp [RdL] at h
theorem runDfs_some {F:Nat→Prop} {I:Img} {η:Eta} {π:PW}:∀ {D:List Nat} {σ:AW},D.Nodup→(∀ d∈D,σ.heap.get d=some (.deferred false))→SRel (FD F D) I η π σ→∃ σ',runDfs D σ=some σ'∧σ'.next=σ.next∧(∀ i,i∉D→σ'.heap.get i=σ.heap.get i)∧SRel F I η π σ'
 | [],σ,_,_,hs=>⟨σ,rfl,rfl,fun _ _=>rfl,hs.frame fun i hi=>.inl hi⟩
 | d::D,σ,hn,hd,hs=>by
  rw [List.nodup_cons] at hn
  have h0:=hd d (by simp)
  have hget:∀ k,(σ.heap.set d (.deferred true)).get k=if k=d then some (.deferred true) else σ.heap.get k:=fun k=>Tr.get_set _ _ _ _ (Nat.lt_succ_self _)
  have hs1:SRel (FD F D) I η π {σ with heap:=σ.heap.set d (.deferred true) }:=by
   have hF:∀ i,FD F D i→FD F (d::D) i:=fun i hi=>by rcases hi with hi | hi;exact .inl hi;exact .inr (List.mem_cons_of_mem _ hi)
   have hod:∀ j o a,look π.heap j=some o→η j=some a→a ≠ d:=fun j o a hj ha e=>by subst e;exact hs.fo j o a hj ha (.inr (by simp))
   constructor
   ·intro k c hk
    dsimp only at hk ⊢
    rw [hget] at hk
    split at hk
    ·rename_i h;subst h;exact hs.hn _ _ h0
    ·exact hs.hn k c hk
   ·exact fun i hi=>hs.fn i (hF i hi)
   ·exact fun j o a hj ha hf=>hs.fo j o a hj ha (hF a hf)
   ·intro k us hk
    obtain ⟨hkn,c,hc,hr⟩:=hs.img k us hk
    refine ⟨hkn,c,?_,hr⟩
    dsimp only
    rw [hget,if_neg (fun h=>by subst h;rw [h0] at hc;simp at hc)];exact hc
   ·exact hs.fresh
   ·intro j o hj
    obtain ⟨a,bk,ha,hl,hb,ho⟩:=hs.obj j o hj
    exact ⟨a,bk,ha,hl,by dsimp only;rw [hget,if_neg (hod j o a hj ha)];exact hb,ho⟩
   ·exact hs.inj
   ·exact hs.sep
   ·intro j cs ty esz ex ret al a bk hj ha hb i hi
    dsimp only at hb
    rw [hget,if_neg (hod j _ a hj ha)] at hb
    obtain ⟨h1,h2,h3,h4⟩:=hs.al j cs ty esz ex ret al a bk hj ha hb i hi
    exact ⟨h1,h2,fun hf=>by dsimp only;rw [hget,if_neg (fun e=>by subst e;rw [h0] at h3;exact absurd (h3 (hF _ hf)) (by simp))];exact h3 (hF i hf),h4⟩
  obtain ⟨σ',g1,g2,g3,g4⟩:=runDfs_some hn.2 (fun k hk=>by
   dsimp only
   rw [hget,if_neg (fun h=>by subst h;exact hn.1 hk)];exact hd k (List.mem_cons_of_mem _ hk)) hs1
  refine ⟨σ',by simp only [runDfs,h0];exact g1,g2,fun i hi=>?_,g4⟩
  simp only [List.mem_cons,not_or] at hi
  rw [g3 i hi.2]
  dsimp only
  rw [hget,if_neg hi.1]
theorem rdL_replicate {I:Img} {η:Eta} (v:Value):∀ n,RdL I η (List.replicate n .junk) (List.replicate n v)
 | 0=>by simp [RdL]
 | n + 1=>by simp only [List.replicate_succ,RdL];exact ⟨rd_junk _,rdL_replicate v n⟩
def startP (ifn:IFunc) (args:List PV):List PV:=args++List.replicate (ifn.ntmps - args.length) .junk
theorem PTo.of_body (hm:C.P.follows .mixedOrders=true) {tab:Tr IFunc} (hC:TabOK C.P C.ng C.ts tab) {f:FuncId} {ifn:IFunc} (hf:tab.get f=some ifn) {args:List PV} {π:PW} {A:PV→PW→Prop}
  (h:PRun C π.next ifn.body (startP ifn args) π fun x t π'=>(x = .normal∨x = .ret)∧∃ rs,resPs t π' ifn.results=some rs∧A (tupP rs) π'):PTo C f args π A:=by
 intro F I η σ vargs hG hs hr
 have hlen:=hr.length
 obtain ⟨L,n,x,env',σ1,h1,h2,h3,I',η',t',π',D,h4,h5,h6,h7,h8,h9,hx,rs,h10,h11⟩:=h F I η σ {tmps:=vargs++List.replicate (ifn.ntmps - vargs.length) undef,dfs:=[] } hG hs
  (by unfold startP;rw [hlen];exact hr.append (rdL_replicate _ _))
 obtain ⟨σ',d1,d2,d3,d4⟩:=runDfs_some h6 (fun d hd=>(h7 d hd).2) h8
 obtain ⟨vs,hvs,hrs⟩:=resPs_sim d4 h9 h10
 have hrun:=CRun.of_evC (rnd:=none) hm (KL_sound h1) h3
 refine ⟨tupleOf vs,σ',I',η',tupP rs,π',CTo.of_body hC hf hrun hx (by rw [h5];simpa using d1) hvs,⟨by have:=h4.next;omega,fun i hi=>⟨?_,(h4.fr i hi).2⟩,h4.im,fun j hj=>by omega⟩,?_,h4.et,d4,tupP_sim hrs,h11⟩
 ·rw [d3 i (fun hd=>(h7 i hd).1 hi)];exact (h4.fr i hi).1
 ·intro j a ha;rw [h4.et j (hs.fresh j a ha)];exact ha
theorem PFun.of_body (hm:C.P.follows .mixedOrders=true) {tab:Tr IFunc} (hC:TabOK C.P C.ng C.ts tab) {f:FuncId} {ifn:IFunc} (hf:tab.get f=some ifn) {args:List PV} {r:PV} (hp:pureP r=true)
  (h:PRun C 0 ifn.body (startP ifn args) .none fun x t π'=>(x = .normal∨x = .ret)∧∃ rs,resPs t π' ifn.results=some rs∧r=tupP rs):PFun C f args r:=by
 intro F I σ vargs hG hs hr
 obtain ⟨v,σ',I',η',r',π',h1,h2,h3,h4,h5,h6,h7⟩:=PTo.of_body hm hC hf (A:=fun r' _=>r=r') h F I noE σ vargs hG hs hr
 subst h7
 exact ⟨v,σ',I',h1,⟨h2.next,h2.fr,h2.im,fun _ _=>rfl⟩,h5.none F h5.fn,h6.toPure hp⟩
end
end Go.Proofs.YtnpoloachkcadaaGreatDoor.Ai
namespace Go.Proofs.YtnpoloachkcadaaGreatDoor.Ai
open Go
set_option linter.unusedSimpArgs false
set_option linter.unusedVariables false
mutual
def frzP (i:Nat) (cs:List PV):PV→PV
 | .ptr j off=>if j=i then .ref (cs.drop off) else .ptr j off
 | .loc j off n c=>if j=i then (if n≤c then .sl (cs.drop off) n else .junk) else .loc j off n c
 | .fn f a b=>.fn f (frzL i cs a) (frzL i cs b)
 | .iface t p=>.iface t (frzP i cs p)
 | .agg l=>.agg (frzL i cs l)
 | .tup l=>.tup (frzL i cs l)
 | p=>p
def frzL (i:Nat) (cs:List PV):List PV→List PV
 | []=>[]
 | p::l=>frzP i cs p::frzL i cs l
end
def frzE (i:Nat) (cs:List PV):List (PV × PV × Nat)→List (PV × PV × Nat)
 | []=>[]
 | (p,q,c)::l=>(frzP i cs p,frzP i cs q,c)::frzE i cs l
def frzO (i:Nat) (cs:List PV):PObj→PObj
 | .cells l ty esz ex ret al=>.cells (frzL i cs l) ty esz ex ret al
 | .map es c=>.map (frzE i cs es) c
 | .deferred t=>.deferred t
 | .loop st pd t ps a c=>.loop st pd (frzL i cs t) ps a c
def frzH (i:Nat) (cs:List PV):List (Nat × PObj)→List (Nat × PObj)
 | []=>[]
 | (j,o)::h=>if j=i then frzH i cs h else (j,frzO i cs o)::frzH i cs h
def noAlP (i:Nat):List (Nat × PObj)→Bool
 | []=>true
 | (j,.cells _ _ _ _ _ al)::h=>(j == i || !al.contains i) && noAlP i h
 | _::h=>noAlP i h
section
variable {F:Nat→Prop} {I:Img} {η:Eta} {i a:Nat} {cs:List PV} {vs:List Value}
def Img.set (I:Img) (a:Nat) (vs:List Value) (ex:Prop:=False):Img:=⟨fun k=>if k=a then some vs else I k,fun k=>if k=a then ex else I.x k⟩
theorem Img.le_set {ex:Prop} (h:I a=none):I.le (I.set a vs ex):=by
 refine ⟨fun k us hk=>?_,fun k us hk hx=>?_⟩
 ·simp only [Img.set]
  split
  ·rename_i e;subst e;rw [h] at hk;simp at hk
  ·exact hk
 ·simp only [Img.set]
  split
  ·rename_i e;subst e;rw [h] at hk;simp at hk
  ·exact hx
mutual
theorem frzP_sim (h0:I a=none) (ha:η i=some a) (hc:RdL I noE cs vs):∀ {p:PV} {v:Value},Rd I η p v→Rd (I.set a vs) η (frzP i cs p) v
 | .ptr j off,v,h=>by
  simp only [frzP]
  split
  ·rename_i e;subst e
   simp only [Rd] at h
   obtain ⟨c,hc',rfl⟩:=h
   rw [ha] at hc';cases hc'
   simp only [Rd]
   exact ⟨a,off,vs,vs.drop off,[],rfl,by simp [Img.set],by simp,(hc.drop off).mono (Img.le_set h0) (Eta.le_refl _)⟩
  ·exact h.mono (Img.le_set h0) (Eta.le_refl _)
 | .loc j off n c,v,h=>by
  simp only [frzP]
  split
  ·rename_i e;subst e
   simp only [Rd] at h
   obtain ⟨d,hc',rfl⟩:=h
   rw [ha] at hc';cases hc'
   split
   ·rename_i hn
    simp only [Rd]
    exact ⟨a,off,c,vs,vs.drop off,[],rfl,hn,by simp [Img.set],by simp,(hc.drop off).mono (Img.le_set h0) (Eta.le_refl _)⟩
   ·simp [Rd]
  ·exact h.mono (Img.le_set h0) (Eta.le_refl _)
 | .fn f x y,v,h=>by
  simp only [frzP,Rd] at h ⊢
  obtain ⟨u,w,h1,h2,h3⟩:=h
  exact ⟨u,w,h1,frzL_sim h0 ha hc h2,frzL_sim h0 ha hc h3⟩
 | .iface t p,v,h=>by
  simp only [frzP,Rd] at h ⊢
  obtain ⟨u,h1,h2⟩:=h
  exact ⟨u,h1,frzP_sim h0 ha hc h2⟩
 | .agg l,v,h=>by
  simp only [frzP,Rd] at h ⊢
  obtain ⟨u,h1,h2⟩:=h
  exact ⟨u,h1,frzL_sim h0 ha hc h2⟩
 | .tup l,v,h=>by
  simp only [frzP,Rd] at h ⊢
  obtain ⟨u,h1,h2⟩:=h
  exact ⟨u,h1,frzL_sim h0 ha hc h2⟩
 | .junk,v,h=>h.mono (Img.le_set h0) (Eta.le_refl _)
 | .lit _,v,h=>h.mono (Img.le_set h0) (Eta.le_refl _)
 | .sl _ _,v,h=>h.mono (Img.le_set h0) (Eta.le_refl _)
 | .sz _ _,v,h=>h.mono (Img.le_set h0) (Eta.le_refl _)
 | .sp _ _ _,v,h=>h.mono (Img.le_set h0) (Eta.le_refl _)
 | .ref _,v,h=>h.mono (Img.le_set h0) (Eta.le_refl _)
 | .map _,v,h=>h.mono (Img.le_set h0) (Eta.le_refl _)
 | .yld _,v,h=>h.mono (Img.le_set h0) (Eta.le_refl _)
theorem frzL_sim (h0:I a=none) (ha:η i=some a) (hc:RdL I noE cs vs):∀ {ps:List PV} {us:List Value},RdL I η ps us→RdL (I.set a vs) η (frzL i cs ps) us
 | [],[],_=>by simp [frzL,RdL]
 | p::ps,v::us,h=>by
  simp only [frzL,RdL] at h ⊢
  exact ⟨frzP_sim h0 ha hc h.1,frzL_sim h0 ha hc h.2⟩
 | [],_::_,h=>by simp [RdL] at h
 | _::_,[],h=>by simp [RdL] at h
end
theorem frzE_sim (h0:I a=none) (ha:η i=some a) (hc:RdL I noE cs vs):∀ {es:List (PV × PV × Nat)} {fs:List (Value × Value × Nat)},EntRd I η es fs→EntRd (I.set a vs) η (frzE i cs es) fs
 | [],[],_=>trivial
 | (p,q,c)::es,(v,w,d)::fs,h=>by
  simp only [EntRd,frzE] at h ⊢
  exact ⟨frzP_sim h0 ha hc h.1,frzP_sim h0 ha hc h.2.1,h.2.2.1,frzE_sim h0 ha hc h.2.2.2⟩
 | [],_::_,h=>by simp [EntRd] at h
 | _::_,[],h=>by simp [EntRd] at h
theorem frzO_sim (h0:I a=none) (ha:η i=some a) (hc:RdL I noE cs vs) {o:PObj} {bk:Blk} (h:ORd I η o bk):ORd (I.set a vs) η (frzO i cs o) bk:=by
 cases o <;> cases bk <;> simp only [ORd,frzO] at h ⊢
 ·exact ⟨frzL_sim h0 ha hc h.1,h.2⟩
 ·exact ⟨frzE_sim h0 ha hc h.1,h.2⟩
 ·exact h
 ·exact ⟨h.1,h.2.1,frzL_sim h0 ha hc h.2.2.1,h.2.2.2⟩
theorem look_frzH (i:Nat) (cs:List PV):∀ (h:List (Nat × PObj)) (j:Nat) (o:PObj),look (frzH i cs h) j=some o→j ≠ i∧∃ o',look h j=some o'∧o=frzO i cs o'
 | [],j,o,hl=>by simp [frzH,look] at hl
 | (k,x)::h,j,o,hl=>by
  simp only [frzH] at hl
  split at hl
  ·rename_i hk
   obtain ⟨h1,o',h2,h3⟩:=look_frzH i cs h j o hl
   refine ⟨h1,o',?_,h3⟩
   simp only [look]
   rw [if_neg (fun e=>h1 (e.trans hk))];exact h2
  ·rename_i hk
   simp only [look] at hl ⊢
   split at hl
   ·rename_i hj
    simp at hl;subst hl
    exact ⟨fun e=>hk (hj.symm.trans e),x,by rw [if_pos hj],rfl⟩
   ·rename_i hj
    rw [if_neg hj]
    exact look_frzH i cs h j o hl
theorem noAlP_ok:∀ {h:List (Nat × PObj)},noAlP i h=true→∀ {j:Nat} {l:List PV} {ty esz:Nat} {ex ret:Bool} {al:List Nat},j ≠ i→look h j=some (.cells l ty esz ex ret al)→i∉al
 | [],_,j,l,ty,esz,ex,ret,al,hj,hl=>by simp [look] at hl
 | (k,.cells l' _ _ _ _ al')::h,hn,j,l,ty,esz,ex,ret,al,hj,hl=>by
  simp only [noAlP,Bool.and_eq_true,Bool.or_eq_true,beq_iff_eq,Bool.not_eq_true'] at hn
  simp only [look] at hl
  split at hl
  ·rename_i hjk
   simp only [Option.some.injEq,PObj.cells.injEq] at hl
   rcases hn.1 with h1 | h1
   ·exact absurd (hjk.trans h1) hj
   ·rw [← hl.2.2.2.2.2];simpa using h1
  ·exact noAlP_ok hn.2 hj hl
 | (k,.map _ _)::h,hn,j,l,ty,esz,ex,ret,al,hj,hl=>by
  simp only [noAlP] at hn
  simp only [look] at hl
  split at hl
  ·simp at hl
  ·exact noAlP_ok hn hj hl
 | (k,.deferred _)::h,hn,j,l,ty,esz,ex,ret,al,hj,hl=>by
  simp only [noAlP] at hn
  simp only [look] at hl
  split at hl
  ·simp at hl
  ·exact noAlP_ok hn hj hl
 | (k,.loop _ _ _ _ _ _)::h,hn,j,l,ty,esz,ex,ret,al,hj,hl=>by
  simp only [noAlP] at hn
  simp only [look] at hl
  split at hl
  ·simp at hl
  ·exact noAlP_ok hn hj hl
end
section
variable {C:Ctx} {b:Nat} {e:List PV} {π:PW} {A:List PV→PW→Prop}
theorem Gh.freeze (i:Nat) {cs:List PV} {ty esz:Nat} {ex:Bool} {al:List Nat} (hl:look π.heap i=some (.cells cs ty esz ex false al)) (hp:pureL cs=true) (hn:noAlP i π.heap=true)
  (h:A (frzL i cs e) {π with heap:=frzH i cs π.heap }):Gh C b e π A:=by
 intro F I η σ env hG hs hr
 obtain ⟨a,bk,ha,han,hb,ho⟩:=hs.obj i _ hl
 cases bk <;> simp only [ORd] at ho
 rename_i bk
 have h0:=hs.sep i _ a hl ha
 have hc:RdL I noE cs bk.cs:=ho.1.toPure hp
 have hF:=hs.fo i _ a hl ha
 refine ⟨I.set a bk.cs,η,_,_,⟨Nat.le_refl _,fun k hk=>⟨rfl,?_⟩,Img.le_set h0,fun _ _=>rfl⟩,?_,frzL_sim h0 ha hc hr,h⟩
 ·simp only [Img.set];rw [if_neg (fun e=>by subst e;exact hF hk)]
 ·constructor
  ·exact hs.hn
  ·exact hs.fn
  ·intro j o c hj hc'
   obtain ⟨_,o',h1,_⟩:=look_frzH i cs _ j o hj
   exact hs.fo j o' c h1 hc'
  ·intro k us hk
   simp only [Img.set] at hk
   split at hk
   ·rename_i e;subst e
    simp at hk;subst hk
    exact ⟨han,bk,hb,rfl,ho.2.2.2.2.1,fun hx=>by simp [Img.set] at hx⟩
   ·rename_i e
    obtain ⟨q1,b',q2,q3,q4,q5⟩:=hs.img k us hk
    exact ⟨q1,b',q2,q3,q4,fun hx=>q5 (by simpa [Img.set,e] using hx)⟩
  ·exact hs.fresh
  ·intro j o hj
   obtain ⟨_,o',h1,rfl⟩:=look_frzH i cs _ j o hj
   obtain ⟨c,bc,g1,g2,g3,g4⟩:=hs.obj j o' h1
   exact ⟨c,bc,g1,g2,g3,frzO_sim h0 ha hc g4⟩
  ·intro j k oj ok c hj hk hcj hck
   obtain ⟨_,o',h1,_⟩:=look_frzH i cs _ j oj hj
   obtain ⟨_,o'',h2,_⟩:=look_frzH i cs _ k ok hk
   exact hs.inj j k _ _ c h1 h2 hcj hck
  ·intro j o c hj hc'
   obtain ⟨hji,o',h1,_⟩:=look_frzH i cs _ j o hj
   simp only [Img.set]
   rw [if_neg (fun e=>by subst e;exact hji (hs.inj j i _ _ _ h1 hl hc' ha))]
   exact hs.sep j o' c h1 hc'
  ·intro j cs2 ty2 esz2 ex2 ret2 al2 c b2 hj hc' hb2 k hk
   obtain ⟨hji,o',h1,ho'⟩:=look_frzH i cs _ j _ hj
   cases o' <;> simp only [frzO,PObj.cells.injEq,reduceCtorEq] at ho'
   rename_i cs3 ty3 esz3 ex3 ret3 al3
   obtain ⟨g1,g2,g3,g4⟩:=hs.al j _ _ _ _ _ _ _ _ h1 hc' hb2 k hk
   refine ⟨g1,?_,g3,fun m o hm hcm=>?_⟩
   ·simp only [Img.set]
    rw [if_neg (fun e=>by subst e;exact noAlP_ok hn hji h1 (g4 i _ hl ha))];exact g2
   ·obtain ⟨_,o',h2,_⟩:=look_frzH i cs _ m o hm
    rw [ho'.2.2.2.2.2];exact g4 m o' h2 hcm
end
def lkN:List (Nat × Nat)→Nat→Option Nat
 | [],_=>none
 | (i,j)::l,k=>if k=i then some j else lkN l k
mutual
def renP (ρ:List (Nat × Nat)):PV→PV
 | .ptr j off=>match lkN ρ j with | some k=>.ptr k off | none=>.junk
 | .loc j off n c=>match lkN ρ j with | some k=>.loc k off n c | none=>.junk
 | .map j=>match lkN ρ j with | some k=>.map k | none=>.junk
 | .yld j=>match lkN ρ j with | some k=>.yld k | none=>.junk
 | .fn f a b=>.fn f (renL ρ a) (renL ρ b)
 | .iface t p=>.iface t (renP ρ p)
 | .agg l=>.agg (renL ρ l)
 | .tup l=>.tup (renL ρ l)
 | p=>p
def renL (ρ:List (Nat × Nat)):List PV→List PV
 | []=>[]
 | p::l=>renP ρ p::renL ρ l
end
def renE (ρ:List (Nat × Nat)):List (PV × PV × Nat)→List (PV × PV × Nat)
 | []=>[]
 | (p,q,c)::l=>(renP ρ p,renP ρ q,c)::renE ρ l
def renA (ρ:List (Nat × Nat)):List Nat→List Nat
 | []=>[]
 | i::l=>match lkN ρ i with | some k=>k::renA ρ l | none=>renA ρ l
def renO (ρ:List (Nat × Nat)):PObj→PObj
 | .cells l ty esz ex ret al=>.cells (renL ρ l) ty esz ex ret (renA ρ al)
 | .map es c=>.map (renE ρ es) c
 | .deferred t=>.deferred t
 | .loop st pd t ps a c=>.loop st pd (renL ρ t) ps a c
def renH (ρ:List (Nat × Nat)):List (Nat × PObj)→List (Nat × PObj)
 | []=>[]
 | (j,o)::h=>match lkN ρ j with | some k=>(k,renO ρ o)::renH ρ h | none=>renH ρ h
def invN:List (Nat × Nat)→Nat→Option Nat
 | [],_=>none
 | (i,j)::l,k=>if k=j then some i else invN l k
def newsN:List (Nat × Nat)→List Nat
 | []=>[]
 | (_,j)::l=>j::newsN l
def noDup:List Nat→Bool
 | []=>true
 | i::l=>!l.contains i && noDup l
def stayN (ρ:List (Nat × Nat)):Nat→Bool
 | 0=>true
 | b + 1=>lkN ρ b == some b && stayN ρ b
section
variable {F:Nat→Prop} {I:Img} {η:Eta} {ρ:List (Nat × Nat)}
def Eta.ren (η:Eta) (ρ:List (Nat × Nat)):Eta:=fun k=>(invN ρ k).bind η
theorem lkN_mem:∀ {ρ:List (Nat × Nat)} {i j:Nat},lkN ρ i=some j→j∈newsN ρ
 | [],i,j,h=>by simp [lkN] at h
 | (a,c)::ρ,i,j,h=>by
  simp only [lkN] at h
  split at h
  ·simp at h;subst h;simp [newsN]
  ·simp [newsN,lkN_mem h]
theorem inv_lk:∀ {ρ:List (Nat × Nat)},noDup (newsN ρ)=true→∀ {i j:Nat},lkN ρ i=some j→invN ρ j=some i
 | [],_,i,j,h=>by simp [lkN] at h
 | (a,c)::ρ,hd,i,j,h=>by
  simp only [newsN,noDup,Bool.and_eq_true,Bool.not_eq_true'] at hd
  simp only [lkN] at h
  simp only [invN]
  split at h
  ·rename_i e;subst e;simp at h;subst h;simp
  ·rename_i e
   have:=lkN_mem h
   rw [if_neg (fun e'=>by subst e';simp [this] at hd)]
   exact inv_lk hd.2 h
theorem inv_mem:∀ {ρ:List (Nat × Nat)} {i j:Nat},invN ρ j=some i→j∈newsN ρ
 | [],i,j,h=>by simp [invN] at h
 | (a,c)::ρ,i,j,h=>by
  simp only [invN] at h
  split at h
  ·rename_i e;subst e;simp [newsN]
  ·simp [newsN,inv_mem h]
theorem ren_at (hd:noDup (newsN ρ)=true) {i j a:Nat} (hl:lkN ρ i=some j) (ha:η i=some a):(η.ren ρ) j=some a:=by
 simp [Eta.ren,inv_lk hd hl,ha]
mutual
theorem renP_sim (hd:noDup (newsN ρ)=true):∀ {p:PV} {v:Value},Rd I η p v→Rd I (η.ren ρ) (renP ρ p) v
 | .ptr j off,v,h=>by
  simp only [renP]
  split
  ·rename_i k hk
   simp only [Rd] at h ⊢
   obtain ⟨c,hc,rfl⟩:=h
   exact ⟨c,ren_at hd hk hc,rfl⟩
  ·simp [Rd]
 | .loc j off n c,v,h=>by
  simp only [renP]
  split
  ·rename_i k hk
   simp only [Rd] at h ⊢
   obtain ⟨d,hc,rfl⟩:=h
   exact ⟨d,ren_at hd hk hc,rfl⟩
  ·simp [Rd]
 | .map j,v,h=>by
  simp only [renP]
  split
  ·rename_i k hk
   simp only [Rd] at h ⊢
   obtain ⟨d,hc,rfl⟩:=h
   exact ⟨d,ren_at hd hk hc,rfl⟩
  ·simp [Rd]
 | .yld j,v,h=>by
  simp only [renP]
  split
  ·rename_i k hk
   simp only [Rd] at h ⊢
   obtain ⟨d,hc,rfl⟩:=h
   exact ⟨d,ren_at hd hk hc,rfl⟩
  ·simp [Rd]
 | .fn f x y,v,h=>by
  simp only [renP,Rd] at h ⊢
  obtain ⟨u,w,h1,h2,h3⟩:=h
  exact ⟨u,w,h1,renL_sim hd h2,renL_sim hd h3⟩
 | .iface t p,v,h=>by
  simp only [renP,Rd] at h ⊢
  obtain ⟨u,h1,h2⟩:=h
  exact ⟨u,h1,renP_sim hd h2⟩
 | .agg l,v,h=>by
  simp only [renP,Rd] at h ⊢
  obtain ⟨u,h1,h2⟩:=h
  exact ⟨u,h1,renL_sim hd h2⟩
 | .tup l,v,h=>by
  simp only [renP,Rd] at h ⊢
  obtain ⟨u,h1,h2⟩:=h
  exact ⟨u,h1,renL_sim hd h2⟩
 | .junk,v,h=>by simp [renP,Rd]
 | .lit _,v,h=>by simpa [renP,Rd] using h
 | .sl _ _,v,h=>by simpa [renP,Rd] using h
 | .sz _ _,v,h=>by simpa [renP,Rd] using h
 | .sp _ _ _,v,h=>by simpa [renP,Rd] using h
 | .ref _,v,h=>by simpa [renP,Rd] using h
theorem renL_sim (hd:noDup (newsN ρ)=true):∀ {ps:List PV} {us:List Value},RdL I η ps us→RdL I (η.ren ρ) (renL ρ ps) us
 | [],[],_=>by simp [renL,RdL]
 | p::ps,v::us,h=>by
  simp only [renL,RdL] at h ⊢
  exact ⟨renP_sim hd h.1,renL_sim hd h.2⟩
 | [],_::_,h=>by simp [RdL] at h
 | _::_,[],h=>by simp [RdL] at h
end
theorem renE_sim (hd:noDup (newsN ρ)=true):∀ {es:List (PV × PV × Nat)} {fs:List (Value × Value × Nat)},EntRd I η es fs→EntRd I (η.ren ρ) (renE ρ es) fs
 | [],[],_=>trivial
 | (p,q,c)::es,(v,w,d)::fs,h=>by
  simp only [EntRd,renE] at h ⊢
  exact ⟨renP_sim hd h.1,renP_sim hd h.2.1,h.2.2.1,renE_sim hd h.2.2.2⟩
 | [],_::_,h=>by simp [EntRd] at h
 | _::_,[],h=>by simp [EntRd] at h
theorem renO_sim (hd:noDup (newsN ρ)=true) {o:PObj} {bk:Blk} (h:ORd I η o bk):ORd I (η.ren ρ) (renO ρ o) bk:=by
 cases o <;> cases bk <;> simp only [ORd,renO] at h ⊢
 ·exact ⟨renL_sim hd h.1,h.2⟩
 ·exact ⟨renE_sim hd h.1,h.2⟩
 ·exact h
 ·exact ⟨h.1,h.2.1,renL_sim hd h.2.2.1,h.2.2.2⟩
theorem mem_renA:∀ {al:List Nat} {i k:Nat},i∈al→lkN ρ i=some k→k∈renA ρ al
 | [],i,k,h,_=>by simp at h
 | x::al,i,k,h,hk=>by
  simp only [List.mem_cons] at h
  simp only [renA]
  rcases h with rfl | h
  ·rw [hk];simp
  ·have:=mem_renA h hk
   split
   ·simp [this]
   ·exact this
theorem look_renH (hd:noDup (newsN ρ)=true):∀ (h:List (Nat × PObj)) (k:Nat) (o:PObj),look (renH ρ h) k=some o→∃ i o',lkN ρ i=some k∧look h i=some o'∧o=renO ρ o'
 | [],k,o,hl=>by simp [renH,look] at hl
 | (j,x)::h,k,o,hl=>by
  simp only [renH] at hl
  split at hl
  ·rename_i c hc
   simp only [look] at hl
   split at hl
   ·rename_i e;subst e
    simp at hl;subst hl
    exact ⟨j,x,hc,by simp [look],rfl⟩
   ·rename_i e
    obtain ⟨i,o',h1,h2,h3⟩:=look_renH hd h k o hl
    refine ⟨i,o',h1,?_,h3⟩
    simp only [look]
    rw [if_neg (fun e'=>by subst e';rw [hc] at h1;simp at h1;exact e h1.symm)];exact h2
  ·rename_i hc
   obtain ⟨i,o',h1,h2,h3⟩:=look_renH hd h k o hl
   refine ⟨i,o',h1,?_,h3⟩
   simp only [look]
   rw [if_neg (fun e'=>by subst e';rw [hc] at h1;simp at h1)];exact h2
theorem stayN_ok:∀ {b:Nat},stayN ρ b=true→∀ j,j < b→lkN ρ j=some j
 | 0,_,j,h=>by omega
 | b + 1,hs,j,h=>by
  simp only [stayN,Bool.and_eq_true,beq_iff_eq] at hs
  by_cases e:j=b
  ·rw [e];exact hs.1
  ·exact stayN_ok hs.2 j (by omega)
end
section
variable {C:Ctx} {b:Nat} {e:List PV} {π:PW} {A:List PV→PW→Prop}
def allLt (m:Nat):List Nat→Bool
 | []=>true
 | i::l=>Nat.blt i m && allLt m l
theorem allLt_ok:∀ {m:Nat} {l:List Nat},allLt m l=true→∀ i∈l,i < m
 | m,[],_,i,h=>by simp at h
 | m,j::l,hs,i,h=>by
  simp only [allLt,Bool.and_eq_true,Nat.blt_eq] at hs
  simp only [List.mem_cons] at h
  rcases h with rfl | h
  ·exact hs.1
  ·exact allLt_ok hs.2 i h
theorem Gh.ren (ρ:List (Nat × Nat)) (m:Nat) (hd:(noDup (newsN ρ) && allLt m (newsN ρ) && stayN ρ b)=true) (h:A (renL ρ e) {next:=m,heap:=renH ρ π.heap }):Gh C b e π A:=by
 intro F I η σ env hG hs hr
 simp only [Bool.and_eq_true] at hd
 obtain ⟨⟨hd,hm⟩,hb⟩:=hd
 have hat:∀ {i j a:Nat},lkN ρ i=some j→(η.ren ρ) j=some a→η i=some a:=by
  intro i j a hl ha
  simpa [Eta.ren,inv_lk hd hl] using ha
 refine ⟨I,η.ren ρ,_,_,⟨Nat.le_refl _,fun k hk=>⟨rfl,rfl⟩,Img.le_refl _,fun j hj=>?_⟩,?_,renL_sim hd hr,h⟩
 ·simp only [Eta.ren,inv_lk hd (stayN_ok hb j hj),Option.bind_some]
 ·constructor
  ·exact hs.hn
  ·exact hs.fn
  ·intro j o c hj hc
   obtain ⟨i,o',h1,h2,_⟩:=look_renH hd _ j o hj
   exact hs.fo i o' c h2 (hat h1 hc)
  ·exact hs.img
  ·intro j a ha
   simp only [Eta.ren,Option.bind_eq_some_iff] at ha
   obtain ⟨i,hi,_⟩:=ha
   exact allLt_ok hm j (inv_mem hi)
  ·intro j o hj
   obtain ⟨i,o',h1,h2,rfl⟩:=look_renH hd _ j o hj
   obtain ⟨c,bc,g1,g2,g3,g4⟩:=hs.obj i o' h2
   exact ⟨c,bc,ren_at hd h1 g1,g2,g3,renO_sim hd g4⟩
  ·intro j k oj ok c hj hk hcj hck
   obtain ⟨i,o',h1,h2,_⟩:=look_renH hd _ j oj hj
   obtain ⟨i',o'',h3,h4,_⟩:=look_renH hd _ k ok hk
   have:=hs.inj i i' _ _ c h2 h4 (hat h1 hcj) (hat h3 hck)
   subst this
   rw [h1] at h3;simpa using h3
  ·intro j o c hj hc
   obtain ⟨i,o',h1,h2,_⟩:=look_renH hd _ j o hj
   exact hs.sep i o' c h2 (hat h1 hc)
  ·intro j cs ty esz ex ret al c bc hj hc hbc k hk
   obtain ⟨i,o',h1,h2,ho⟩:=look_renH hd _ j _ hj
   cases o' <;> simp only [renO,PObj.cells.injEq,reduceCtorEq] at ho
   obtain ⟨g1,g2,g3,g4⟩:=hs.al i _ _ _ _ _ _ _ _ h2 (hat h1 hc) hbc k hk
   refine ⟨g1,g2,g3,fun m o hm hcm=>?_⟩
   obtain ⟨i',o'',h3,h4,_⟩:=look_renH hd _ m o hm
   rw [ho.2.2.2.2.2]
   exact mem_renA (g4 i' o'' h4 (hat h3 hcm)) h3
def maskP:List Bool→List PV→List PV
 | _,[]=>[]
 | [],e=>e
 | k::ks,p::e=>(if k=true then p else .junk)::maskP ks e
theorem maskP_sim {I:Img} {η:Eta}:∀ {ks:List Bool} {e:List PV} {env:List Value},RdL I η e env→RdL I η (maskP ks e) env
 | [],[],[],_=>by simp [maskP,RdL]
 | _::_,[],[],_=>by simp [maskP,RdL]
 | [],p::e,v::env,h=>h
 | k::ks,p::e,v::env,h=>by
  simp only [RdL,maskP] at h ⊢
  refine ⟨?_,maskP_sim h.2⟩
  split
  ·exact h.1
  ·simp [Rd]
 | _,[],_::_,h=>by simp [RdL] at h
 | _,_::_,[],h=>by simp [RdL] at h
theorem Gh.mask (ks:List Bool) (h:A (maskP ks e) π):Gh C b e π A:=
 fun F I η σ env hG hs hr=>⟨I,η,_,π,.refl,hs,maskP_sim hr,h⟩
end
end Go.Proofs.YtnpoloachkcadaaGreatDoor.Ai
namespace Go.Proofs.YtnpoloachkcadaaGreatDoor.Ai
open Go
set_option linter.unusedSimpArgs false
set_option linter.unusedVariables false
section
variable {C:Ctx} {b:Nat} {l:List IOper} {e:List PV} {π:PW} {Q:List PV→PW→Prop} {d:Option Nat} {G:PG} {m:Nat}
def onO (o:Option PV) (C:Ctx) (b:Nat) (l:List IOper) (d:Option Nat) (e:List PV) (π:PW) (Q:List PV→PW→Prop):Prop:=
 match o with
 | some v=>wpOps C b l (putP e d v) π Q
 | none=>False
def onN (o:Option (PObj × (Nat→PV))) (k:Bool) (C:Ctx) (b:Nat) (l:List IOper) (d:Option Nat) (e:List PV) (π:PW) (Q:List PV→PW→Prop):Prop:=
 match o,k with
 | some (x,f),true=>wpOps C b l (putP e d (f π.next)) (π.push x) Q
 | _,_=>False
def onE (o:Option (PV × PW)) (k:Bool) (C:Ctx) (b:Nat) (l:List IOper) (d:Option Nat) (e:List PV) (Q:List PV→PW→Prop):Prop:=
 match o,k with
 | some (r,π'),true=>wpOps C b l (putP e d r) π' Q
 | _,_=>False
def onG (o:Option Bool) (C:Ctx) (b:Nat) (d:Option Nat) (op:IOp) (l:List IOper) (e:List PV) (π:PW) (Q:List PV→PW→Prop):Prop:=
 match o with
 | none=>False
 | some false=>wpOps C b l (putP e d undefP) π Q
 | some true=>wpOps C b (⟨d,op,none⟩::l) e π Q
theorem onO_s {v:PV}:onO (some v) C b l d e π Q=wpOps C b l (putP e d v) π Q:=propext Iff.rfl
theorem onN_s {x:PObj} {f:Nat→PV}:onN (some (x,f)) true C b l d e π Q=wpOps C b l (putP e d (f π.next)) (π.push x) Q:=propext Iff.rfl
theorem onE_s {r:PV} {π':PW}:onE (some (r,π')) true C b l d e Q=wpOps C b l (putP e d r) π' Q:=propext Iff.rfl
theorem onG_t {op:IOp}:onG (some true) C b d op l e π Q=wpOps C b (⟨d,op,none⟩::l) e π Q:=propext Iff.rfl
theorem onG_f {op:IOp}:onG (some false) C b d op l e π Q=wpOps C b l (putP e d undefP) π Q:=propext Iff.rfl
theorem wo_nil:wpOps C b [] e π Q=Q e π:=propext Iff.rfl
theorem wo_p {q:POp}:wpOps C b (⟨d,.p q,none⟩::l) e π Q=onO (pevP C.G e q) C b l d e π Q:=propext Iff.rfl
theorem wo_r {q:ROp}:wpOps C b (⟨d,.r q,none⟩::l) e π Q=onO (pevR C.G e π q) C b l d e π Q:=propext Iff.rfl
theorem wo_n {q:NOp}:wpOps C b (⟨d,.n q,none⟩::l) e π Q=onN (pevN C.G e q) (Nat.ble b π.next) C b l d e π Q:=propext Iff.rfl
theorem wo_call {f:FuncId} {args:List Opd}:wpOps C b (⟨d,.e (.call f args),none⟩::l) e π Q=Gh C b e π fun e π=>b≤π.next∧PToE C b e f (evsP C.G e args) π fun r π'=>POps C b l (putP e d r) π' Q:=propext Iff.rfl
theorem wo_callv {f:Opd} {args:List Opd}:wpOps C b (⟨d,.e (.callv f args),none⟩::l) e π Q=Gh C b e π fun e π=>b≤π.next∧PVal C b e (f.pv C.G e) (evsP C.G e args) π fun r π'=>POps C b l (putP e d r) π' Q:=propext Iff.rfl
theorem pval_fn {A:PV→PW→Prop} {g:FuncId} {x y args:List PV}:PVal C b e (.fn g x y) args π A=PToE C b e g (x++(args++y)) π A:=propext Iff.rfl
theorem pval_yld {A:PV→PW→Prop} {j:Nat} {args:List PV}:PVal C b e (.yld j) args π A=PYE C b e j args π A:=propext Iff.rfl
theorem wo_mapUpd {kt:EqT} {m k v:Opd}:wpOps C b (⟨d,.e (.mapUpd kt m k v),none⟩::l) e π Q=onE (pevE C.G e π (.mapUpd kt m k v)) (Nat.ble b π.next) C b l d e Q:=propext Iff.rfl
theorem wo_mapEnt {kt:EqT} {z:Value} {m k:Opd}:wpOps C b (⟨d,.e (.mapEnt kt z m k),none⟩::l) e π Q=onE (pevE C.G e π (.mapEnt kt z m k)) (Nat.ble b π.next) C b l d e Q:=propext Iff.rfl
theorem wo_entSt {m s x:Opd}:wpOps C b (⟨d,.e (.entSt m s x),none⟩::l) e π Q=onE (pevE C.G e π (.entSt m s x)) (Nat.ble b π.next) C b l d e Q:=propext Iff.rfl
theorem wo_copy {esz:Nat} {s x:Opd}:wpOps C b (⟨d,.e (.copy esz s x),none⟩::l) e π Q=onE (pevE C.G e π (.copy esz s x)) (Nat.ble b π.next) C b l d e Q:=propext Iff.rfl
theorem wo_s2b {t:TypeId} {x:Opd}:wpOps C b (⟨d,.e (.s2b t x),none⟩::l) e π Q=onE (pevE C.G e π (.s2b t x)) (Nat.ble b π.next) C b l d e Q:=propext Iff.rfl
theorem wo_sdata {x:Opd}:wpOps C b (⟨d,.e (.sdata x),none⟩::l) e π Q=onE (pevE C.G e π (.sdata x)) (Nat.ble b π.next) C b l d e Q:=propext Iff.rfl
theorem wo_ustr {t:TypeId} {x n:Opd}:wpOps C b (⟨d,.e (.ustr t x n),none⟩::l) e π Q=onE (pevE C.G e π (.ustr t x n)) (Nat.ble b π.next) C b l d e Q:=propext Iff.rfl
theorem wo_st {n:Nat} {a x:Opd}:wpOps C b (⟨d,.e (.st n a x),none⟩::l) e π Q=onE (pevE C.G e π (.st n a x)) (Nat.ble b π.next) C b l d e Q:=propext Iff.rfl
theorem wo_append {t esz by_:Nat} {z:List Value} {s x:Opd}:wpOps C b (⟨d,.e (.append t esz by_ z s x),none⟩::l) e π Q=onE (pevE C.G e π (.append t esz by_ z s x)) (Nat.ble b π.next) C b l d e Q:=propext Iff.rfl
theorem wo_appendZ {t esz by_:Nat} {z:List Value} {s x:Opd}:wpOps C b (⟨d,.e (.appendZ t esz by_ z s x),none⟩::l) e π Q=onE (pevE C.G e π (.appendZ t esz by_ z s x)) (Nat.ble b π.next) C b l d e Q:=propext Iff.rfl
theorem wo_g {j:Nat} {op:IOp} {w:Bool}:wpOps C b (⟨d,op,some (j,w)⟩::l) e π Q=onG (wantedP e (some (j,w))) C b d op l e π Q:=propext Iff.rfl
theorem wanted_g {j:Nat} {w:Bool}:wantedP e (some (j,w))=wantB w (getP e j):=rfl
theorem renP_u {ρ:List (Nat × Nat)}:renP ρ undefP=undefP:=rfl
theorem frzP_u {i:Nat} {cs:List PV}:frzP i cs undefP=undefP:=rfl
theorem pureP_u:pureP undefP=true:=rfl
theorem b_tt:(true == true)=true:=rfl
theorem b_ff:(false == false)=true:=rfl
theorem b_tf:(true == false)=false:=rfl
theorem b_ft:(false == true)=false:=rfl
def wpX1 (G:PG) (l:List IOper) (m:Nat) (o:IOper) (xs:List Nat) (e:List PV) (π:PW) (Q:List PV→PW→Prop):Prop:=
 match wantedP e o.guard with
 | none=>False
 | some false=>wpX G l m xs (putP e o.dst undefP) π Q
 | some true=>
  match o.op with
  | .p q=>match pevP G e q with | some v=>wpX G l m xs (putP e o.dst v) π Q | none=>False
  | .r q=>match rdX G e π m o.dst q with | some v=>wpX G l m xs (putP e o.dst v) π Q | none=>False
  | .n q=>match pevN G e q with | some (x,f)=>wpX G l m xs (putP e o.dst (f π.next)) (π.push x) Q | none=>False
  | _=>False
def onX (o:Option PV) (G:PG) (l:List IOper) (m:Nat) (xs:List Nat) (d:Option Nat) (e:List PV) (π:PW) (Q:List PV→PW→Prop):Prop:=
 match o with
 | some v=>wpX G l m xs (putP e d v) π Q
 | none=>False
def onXN (o:Option (PObj × (Nat→PV))) (G:PG) (l:List IOper) (m:Nat) (xs:List Nat) (d:Option Nat) (e:List PV) (π:PW) (Q:List PV→PW→Prop):Prop:=
 match o with
 | some (x,f)=>wpX G l m xs (putP e d (f π.next)) (π.push x) Q
 | none=>False
def onXG (o:Option Bool) (G:PG) (l:List IOper) (m:Nat) (d:Option Nat) (op:IOp) (xs:List Nat) (e:List PV) (π:PW) (Q:List PV→PW→Prop):Prop:=
 match o with
 | none=>False
 | some false=>wpX G l m xs (putP e d undefP) π Q
 | some true=>wpX1 G l m ⟨d,op,none⟩ xs e π Q
def onXI (o:Option IOper) (G:PG) (l:List IOper) (m:Nat) (xs:List Nat) (e:List PV) (π:PW) (Q:List PV→PW→Prop):Prop:=
 match o with
 | none=>False
 | some o=>wpX1 G l m o xs e π Q
theorem onX_s {v:PV} {xs:List Nat}:onX (some v) G l m xs d e π Q=wpX G l m xs (putP e d v) π Q:=propext Iff.rfl
theorem onXN_s {x:PObj} {f:Nat→PV} {xs:List Nat}:onXN (some (x,f)) G l m xs d e π Q=wpX G l m xs (putP e d (f π.next)) (π.push x) Q:=propext Iff.rfl
theorem onXG_t {op:IOp} {xs:List Nat}:onXG (some true) G l m d op xs e π Q=wpX1 G l m ⟨d,op,none⟩ xs e π Q:=propext Iff.rfl
theorem onXG_f {op:IOp} {xs:List Nat}:onXG (some false) G l m d op xs e π Q=wpX G l m xs (putP e d undefP) π Q:=propext Iff.rfl
theorem onXI_s {o:IOper} {xs:List Nat}:onXI (some o) G l m xs e π Q=wpX1 G l m o xs e π Q:=propext Iff.rfl
theorem wx_nil:wpX G l m [] e π Q=Q e π:=propext Iff.rfl
theorem wx_cons {i:Nat} {xs:List Nat}:wpX G l m (i::xs) e π Q=onXI (nthO l i) G l m xs e π Q:=propext Iff.rfl
theorem wx_p {q:POp} {xs:List Nat}:wpX1 G l m ⟨d,.p q,none⟩ xs e π Q=onX (pevP G e q) G l m xs d e π Q:=propext Iff.rfl
theorem wx_r {q:ROp} {xs:List Nat}:wpX1 G l m ⟨d,.r q,none⟩ xs e π Q=onX (rdX G e π m d q) G l m xs d e π Q:=propext Iff.rfl
theorem wx_n {q:NOp} {xs:List Nat}:wpX1 G l m ⟨d,.n q,none⟩ xs e π Q=onXN (pevN G e q) G l m xs d e π Q:=propext Iff.rfl
theorem wx_g {j:Nat} {op:IOp} {w:Bool} {xs:List Nat}:wpX1 G l m ⟨d,op,some (j,w)⟩ xs e π Q=onXG (wantedP e (some (j,w))) G l m d op xs e π Q:=propext Iff.rfl
theorem rdX_e {q:ROp}:rdX G e π m d q=(match baseP m π (q.base.pv G e) && ltD d e.length with | true=>pevR G e π q | false=>none):=rfl
theorem and_tt:(true && true)=true:=rfl
theorem ltD_s {n k:Nat}:ltD (some n) k=ltN n k:=rfl
variable {fin:DStage} {st:List DStage} {S:List Nat} {k:Nat}
def wpD1 (C:Ctx) (b:Nat) (l:List IOper) (fin:DStage) (st:List DStage) (S:List Nat) (o:IOper) (e:List PV) (π:PW) (Q:List PV→PW→Prop):Prop:=
 match wantedP e o.guard with
 | none=>False
 | some false=>PDraw C b l fin st (S.filter (freeJ l o.dst)) (putP e o.dst undefP) π Q
 | some true=>
  match o.op with
  | .e q=>PDE C b l fin st S q o.dst e π Q
  | _=>False
def onD (o:Option IOper) (C:Ctx) (b:Nat) (l:List IOper) (fin:DStage) (st:List DStage) (S:List Nat) (e:List PV) (π:PW) (Q:List PV→PW→Prop):Prop:=
 match o with
 | none=>False
 | some o=>wpD1 C b l fin st S o e π Q
def onDG (o:Option Bool) (C:Ctx) (b:Nat) (l:List IOper) (fin:DStage) (st:List DStage) (S:List Nat) (d:Option Nat) (op:IOp) (e:List PV) (π:PW) (Q:List PV→PW→Prop):Prop:=
 match o with
 | none=>False
 | some false=>PDraw C b l fin st (S.filter (freeJ l d)) (putP e d undefP) π Q
 | some true=>wpD1 C b l fin st S ⟨d,op,none⟩ e π Q
theorem onD_s {o:IOper}:onD (some o) C b l fin st S e π Q=wpD1 C b l fin st S o e π Q:=propext Iff.rfl
theorem onDG_t {op:IOp}:onDG (some true) C b l fin st S d op e π Q=wpD1 C b l fin st S ⟨d,op,none⟩ e π Q:=propext Iff.rfl
theorem onDG_f {op:IOp}:onDG (some false) C b l fin st S d op e π Q=PDraw C b l fin st (S.filter (freeJ l d)) (putP e d undefP) π Q:=propext Iff.rfl
theorem wd_cons:wpDE C b l fin st S k e π Q=onD (nthO l k) C b l fin st S e π Q:=propext Iff.rfl
theorem wd_e {q:EOp}:wpD1 C b l fin st S ⟨d,.e q,none⟩ e π Q=PDE C b l fin st S q d e π Q:=propext Iff.rfl
theorem wd_g {j:Nat} {op:IOp} {w:Bool}:wpD1 C b l fin st S ⟨d,op,some (j,w)⟩ e π Q=onDG (wantedP e (some (j,w))) C b l fin st S d op e π Q:=propext Iff.rfl
end
section
variable {G:PG} {e:List PV}
theorem pv_t {n:Nat}:Opd.pv G e (.t n)=getP e n:=rfl
theorem pv_int {k:IntKind} {n:Int}:Opd.pv G e (.c (.int k n)) = .lit (.int k n):=rfl
theorem pv_bool {n:Bool}:Opd.pv G e (.c (.bool n)) = .lit (.bool n):=rfl
theorem pv_str {n:ByteArray}:Opd.pv G e (.c (.string n)) = .lit (.string n):=rfl
theorem pv_nilS {n c:Nat}:Opd.pv G e (.c (.slice none n c)) = .lit (.slice none n c):=rfl
theorem pv_nilP:Opd.pv G e (.c (.pointer none)) = .lit (.pointer none):=rfl
theorem pv_nilI:Opd.pv G e (.c .nilIface) = .lit .nilIface:=rfl
theorem pv_nilF:Opd.pv G e (.c .nilFunc) = .lit .nilFunc:=rfl
theorem pv_nilM:Opd.pv G e (.c (.map none)) = .lit (.map none):=rfl
theorem ov_nil:ofVs []=[]:=rfl
theorem ov_cons {v:Value} {l:List Value}:ofVs (v::l)=ofV v::ofVs l:=rfl
theorem ov_int {k:IntKind} {n:Int}:ofV (.int k n) = .lit (.int k n):=rfl
theorem ov_bool {n:Bool}:ofV (.bool n) = .lit (.bool n):=rfl
theorem ov_str {n:ByteArray}:ofV (.string n) = .lit (.string n):=rfl
theorem ov_nilS {n c:Nat}:ofV (.slice none n c) = .lit (.slice none n c):=rfl
theorem ov_nilP:ofV (.pointer none) = .lit (.pointer none):=rfl
theorem ov_nilI:ofV .nilIface = .lit .nilIface:=rfl
theorem ov_nilF:ofV .nilFunc = .lit .nilFunc:=rfl
theorem ov_nilM:ofV (.map none) = .lit (.map none):=rfl
theorem ov_agg {l:List Value}:ofV (.agg ⟨l⟩) = .agg (ofVs l):=rfl
theorem put_some {d:Nat} {v:PV}:putP e (some d) v=setP e d v:=rfl
theorem put_none {v:PV}:putP e none v=e:=rfl
end
noncomputable def ltB (x y:Int):Bool:=@decide (x < y) (Classical.propDecidable _)
noncomputable def leB (x y:Int):Bool:=@decide (x≤y) (Classical.propDecidable _)
noncomputable def eqB (x y:Int):Bool:=@decide (x=y) (Classical.propDecidable _)
noncomputable def neB (x y:Int):Bool:=@decide (x ≠ y) (Classical.propDecidable _)
theorem ltB_iff {x y:Int}:(ltB x y=true)=(x < y):=by simp [ltB]
theorem leB_iff {x y:Int}:(leB x y=true)=(x≤y):=by simp [leB]
theorem eqB_iff {x y:Int}:(eqB x y=true)=(x=y):=by simp [eqB]
theorem neB_iff {x y:Int}:(neB x y=true)=(x ≠ y):=by simp [neB]
theorem ltB_t {x y:Int} (h:x < y):ltB x y=true:=by simp [ltB,h]
theorem ltB_f {x y:Int} (h:¬ x < y):ltB x y=false:=by simp [ltB,h]
theorem leB_t {x y:Int} (h:x≤y):leB x y=true:=by simp [leB,h]
theorem leB_f {x y:Int} (h:¬ x≤y):leB x y=false:=by simp [leB,h]
theorem eqB_t {x y:Int} (h:x=y):eqB x y=true:=by simp [eqB,h]
theorem eqB_f {x y:Int} (h:¬ x=y):eqB x y=false:=by simp [eqB,h]
theorem neB_t {x y:Int} (h:¬ x=y):neB x y=true:=by simp [neB,h]
theorem neB_f {x y:Int} (h:x=y):neB x y=false:=by simp [neB,h]
section
variable {G:PG} {e:List PV}
theorem bi_add {k:IntKind} {x y:Int}:bin .add (.int k x) (.int k y)=some (.int k (IntKind.wrap k (x + y))):=by simp [bin,isShift,binInt,ltB,leB,eqB,neB]
theorem bi_sub {k:IntKind} {x y:Int}:bin .sub (.int k x) (.int k y)=some (.int k (IntKind.wrap k (x - y))):=by simp [bin,isShift,binInt,ltB,leB,eqB,neB]
theorem bi_mul {k:IntKind} {x y:Int}:bin .mul (.int k x) (.int k y)=some (.int k (IntKind.wrap k (x * y))):=by simp [bin,isShift,binInt,ltB,leB,eqB,neB]
theorem bi_eql {k:IntKind} {x y:Int}:bin .eql (.int k x) (.int k y)=some (.bool (eqB x y)):=by by_cases h:x=y <;> simp [bin,isShift,binInt,eqB,neB,h]
theorem bi_neq {k:IntKind} {x y:Int}:bin .neq (.int k x) (.int k y)=some (.bool (neB x y)):=by by_cases h:x=y <;> simp [bin,isShift,binInt,eqB,neB,h]
theorem bi_lss {k:IntKind} {x y:Int}:bin .lss (.int k x) (.int k y)=some (.bool (ltB x y)):=by simp [bin,isShift,binInt,ltB,leB,eqB,neB]
theorem bi_leq {k:IntKind} {x y:Int}:bin .leq (.int k x) (.int k y)=some (.bool (leB x y)):=by simp [bin,isShift,binInt,ltB,leB,eqB,neB]
theorem bi_gtr {k:IntKind} {x y:Int}:bin .gtr (.int k x) (.int k y)=some (.bool (ltB y x)):=by simp [bin,isShift,binInt,ltB,leB,eqB,neB]
theorem bi_geq {k:IntKind} {x y:Int}:bin .geq (.int k x) (.int k y)=some (.bool (leB y x)):=by simp [bin,isShift,binInt,ltB,leB,eqB,neB]
theorem bi_rem {k:IntKind} {x y:Int} (h:y ≠ 0):bin .rem (.int k x) (.int k y)=some (.int k (x.tmod y)):=by simp [bin,isShift,binInt,h]
theorem bi_quo {k:IntKind} {x y:Int} (h:y ≠ 0):bin .quo (.int k x) (.int k y)=some (.int k (k.wrap (x.tdiv y))):=by simp [bin,isShift,binInt,h]
end
def Wk (p q:PV):Prop:=∀ I η v,Rd I η p v→Rd I η q v
def WkL (p q:List PV):Prop:=∀ I η v,RdL I η p v→RdL I η q v
theorem Wk.refl (p:PV):Wk p p:=fun _ _ _ h=>h
theorem Wk.trans {p q r:PV} (h:Wk p q) (k:Wk q r):Wk p r:=fun I η v hr=>k I η v (h I η v hr)
theorem Wk.junk (p:PV):Wk p .junk:=fun _ _ _ _=>rd_junk _
theorem WkL.nil:WkL [] []:=fun _ _ _ h=>h
theorem WkL.refl (p:List PV):WkL p p:=fun _ _ _ h=>h
theorem WkL.cons {p q:PV} {ps qs:List PV} (h:Wk p q) (k:WkL ps qs):WkL (p::ps) (q::qs):=by
 intro I η v hr
 cases v with
 | nil=>simp [RdL] at hr
 | cons v vs=>simp only [RdL] at hr ⊢;exact ⟨h I η v hr.1,k I η vs hr.2⟩
theorem WkL.append {ps qs ps' qs':List PV} (h:WkL ps qs) (k:WkL ps' qs'):WkL (ps++ps') (qs++qs'):=by
 intro I η v hr
 have hl:=hr.length
 have h1:=hr.take ps.length
 have h2:=hr.drop ps.length
 rw [List.take_left] at h1
 rw [List.drop_left] at h2
 have:=(h I η _ h1).append (k I η _ h2)
 rwa [List.take_append_drop] at this
theorem Wk.agg {ps qs:List PV} (h:WkL ps qs):Wk (.agg ps) (.agg qs):=by
 intro I η v hr
 simp only [Rd] at hr ⊢
 obtain ⟨x,rfl,hx⟩:=hr
 exact ⟨x,rfl,h I η x hx⟩
theorem Wk.tup {ps qs:List PV} (h:WkL ps qs):Wk (.tup ps) (.tup qs):=by
 intro I η v hr
 simp only [Rd] at hr ⊢
 obtain ⟨x,rfl,hx⟩:=hr
 exact ⟨x,rfl,h I η x hx⟩
theorem Wk.iface {t:TypeId} {p q:PV} (h:Wk p q):Wk (.iface t p) (.iface t q):=by
 intro I η v hr
 simp only [Rd] at hr ⊢
 obtain ⟨x,rfl,hx⟩:=hr
 exact ⟨x,rfl,h I η x hx⟩
theorem Wk.sl_sz {cs:List PV} {n:Nat}:Wk (.sl cs n) (.sz cs n):=by
 intro I η v hr
 simp only [Rd] at hr ⊢
 exact .inr hr
theorem Wk.nil_sz {cs:List PV}:Wk (.lit (.slice none 0 0)) (.sz cs 0):=by
 intro I η v hr
 obtain ⟨rfl,_⟩:=rd_lit hr
 simp [Rd]
theorem Wk.sl {cs ds ext:List PV} {n:Nat} (h:WkL cs (ds++ext)):Wk (.sl cs n) (.sl ds n):=by
 intro I η v hr
 simp only [Rd] at hr ⊢
 obtain ⟨i,off,cap,vs,ws,rest,h1,h2,h3,h4,h5⟩:=hr
 have h6:=h I noE ws h5
 have h7:=h6.take ds.length
 rw [List.take_left] at h7
 exact ⟨i,off,cap,vs,ws.take ds.length,ws.drop ds.length++rest,h1,h2,h3,by rw [← List.append_assoc,List.take_append_drop];exact h4,h7⟩
theorem Wk.sz {cs ds ext:List PV} {n:Nat} (h:WkL cs (ds++ext)):Wk (.sz cs n) (.sz ds n):=by
 intro I η v hr
 simp only [Rd] at hr
 rcases hr with ⟨h0,hv⟩ | hr
 ·simp only [Rd];exact .inl ⟨h0,hv⟩
 ·exact Wk.sl_sz I η v (Wk.sl h I η v (by simp only [Rd];exact hr))
section
variable {C:Ctx} {b:Nat} {e e':List PV} {π:PW} {A:List PV→PW→Prop}
def isStep:ICode→Bool
 | .loop _ | .rangeF _ _ _ _=>false
 | _=>true
theorem PRun.wpn {ic:ICode} {t:List PV} {Q:IExit→List PV→PW→Prop} (_:isStep ic=true) (h:Ai.wp C b ic t π Q):PRun C b ic t π Q:=.wp h
theorem PRun.loopG {a:ICode} {Q:IExit→List PV→PW→Prop} (Inv:Nat→List PV→PW→Prop) (h:∀ n t π,Inv n t π→PRun C b a t π fun x t' π'=>match x with | .normal=>Gh C b t' π' fun t' π'=>∃ m,m < n∧Inv m t' π' | x=>Q x t' π')
  (n:Nat) (t:List PV) (π:PW) (hi:Inv n t π):PRun C b (.loop a) t π Q:=by
 refine PRun.loop Inv (fun n t π hi=>?_) n t π hi
 refine PRun.after ((h n t π hi).mono fun x t π hx=>?_)
 cases x with
 | normal=>exact hx
 | exit i=>exact .refl hx
 | ret=>exact .refl hx
 | panic c=>exact .refl hx
theorem PRun.cut {ic:ICode} {t:List PV} {π:PW} {Q:IExit→List PV→PW→Prop} (R:IExit→List PV→PW→Prop) (h:PRun C b ic t π fun x t π=>Gh C b t π (R x)) (k:∀ x t π,R x t π→Q x t π):PRun C b ic t π Q:=
 PRun.after (h.mono fun x t π hg=>hg.mono fun t π hr=>k x t π hr)
theorem Gh.wk (h:WkL e e') (ha:A e' π):Gh C b e π A:=fun F I η σ env hG hs hr=>⟨I,η,e',π,.refl,hs,h I η env hr,ha⟩
theorem Wk.sp_sz {cs ds ext:List PV} {n m:Nat} (h:WkL cs (ds++ext)):Wk (.sp cs n m) (.sz ds n):=by
 intro I η v hr
 simp only [Rd] at hr ⊢
 obtain ⟨i,off,vs,ws,rest,rfl,h1,h2,h3,_,h4⟩:=hr
 have h5:=h I noE ws h4
 have h6:=h5.take ds.length
 rw [List.take_left] at h6
 exact .inr ⟨i,off,m,vs,ws.take ds.length,ws.drop ds.length++rest,rfl,h1,h2,by rw [h3,← List.append_assoc,List.take_append_drop],h6⟩
theorem Wk.sp {cs ds:List PV} {n m:Nat} (h:WkL cs ds):Wk (.sp cs n m) (.sp ds n m):=by
 intro I η v hr
 simp only [Rd] at hr ⊢
 obtain ⟨i,off,vs,ws,rest,rfl,h1,h2,h3,hx,h4⟩:=hr
 exact ⟨i,off,vs,ws,rest,rfl,h1,h2,h3,hx,h I noE ws h4⟩
theorem PFun.wk {f:FuncId} {args:List PV} {r r':PV} (h:PFun C f args r) (hw:Wk r r'):PFun C f args r':=by
 intro F I σ vargs hG hs hr
 obtain ⟨v,σ',I',h1,h2,h3,h4⟩:=h F I σ vargs hG hs hr
 exact ⟨v,σ',I',h1,h2,h3,hw _ _ _ h4⟩
theorem PFun.args {f:FuncId} {args args':List PV} {r:PV} (h:PFun C f args r) (hw:WkL args' args):PFun C f args' r:=
 fun F I σ vargs hG hs hr=>h F I σ vargs hG hs (hw _ _ _ hr)
end
end Go.Proofs.YtnpoloachkcadaaGreatDoor.Ai
namespace Go.Proofs.YtnpoloachkcadaaGreatDoor.Ai
open Go
theorem wrap64 {x:Int} (h : -9223372036854775808≤x) (h':x < 9223372036854775808):IntKind.i64.wrap x=x:=by
 simp [IntKind.wrap,IntKind.bits,IntKind.signed]
 omega
end Go.Proofs.YtnpoloachkcadaaGreatDoor.Ai
namespace Go.Proofs.YtnpoloachkcadaaGreatDoor.Ai
open Go
theorem overP_eq:∀ (cs vs:List PV),vs.length≤cs.length→overP cs vs=some (vs++cs.drop vs.length)
 | cs,[],_=>by cases cs <;> simp [overP]
 | [],v::vs,h=>by simp at h
 | c::cs,v::vs,h=>by simp [overP,overP_eq cs vs (by simpa using h)]
theorem spliceP_eq:∀ (cs:List PV) (off:Nat) (vs:List PV),off + vs.length≤cs.length→spliceP cs off vs=some (cs.take off++(vs++cs.drop (off + vs.length)))
 | cs,0,vs,h=>by rw [Nat.zero_add] at h;cases cs <;> simp [spliceP,overP_eq _ _ h]
 | [],n + 1,vs,h=>by simp at h
 | c::cs,n + 1,vs,h=>by
  have h':n + vs.length≤cs.length:=by simp at h;omega
  have e:n + 1 + vs.length=(n + vs.length) + 1:=by omega
  simp [spliceP,spliceP_eq cs n vs h',e]
theorem allPlain_append (a b:List PV):allPlain (a++b)=(allPlain a && allPlain b):=by
 induction a with
 | nil=>simp [allPlain]
 | cons p a ih=>simp [allPlain,ih,Bool.and_assoc]
theorem flat_one (p:PV):∀ n,(List.replicate n [p]).flatten=List.replicate n p
 | 0=>rfl
 | n + 1=>by simp [List.replicate_succ,flat_one p n]
theorem pureL_append (a b:List PV):pureL (a++b)=(pureL a && pureL b):=by
 induction a with
 | nil=>simp [pureL]
 | cons p a ih=>simp [pureL,ih,Bool.and_assoc]
end Go.Proofs.YtnpoloachkcadaaGreatDoor.Ai
namespace Go.Proofs.YtnpoloachkcadaaGreatDoor.Ai
open Go
theorem PFun.body {C:Ctx} (hm:C.P.follows .mixedOrders=true) {tab:Tr IFunc} (hC:TabOK C.P C.ng C.ts tab) {f:FuncId} {ifn:IFunc} (hf:tab.get f=some ifn) {args:List PV} {r:PV} (hp:pureP r=true)
  (h:PRun C 0 ifn.body (startP ifn args) .none fun x t π'=>(x = .normal∨x = .ret)∧Gh C 0 t π' fun t π'=>∃ rs,resPs t π' ifn.results=some rs∧Wk (tupP rs) r):PFun C f args r:=by
 intro F I σ vargs hG hs hr
 have h2:PRun C 0 ifn.body (startP ifn args) .none fun x t π'=>(x = .normal∨x = .ret)∧∃ rs,resPs t π' ifn.results=some rs∧Wk (tupP rs) r:=
  PRun.after (h.mono fun x t π hx=>hx.2.mono fun t π ha=>⟨hx.1,ha⟩)
 obtain ⟨v,σ',I',η',r',π',h1,h2,h3,h4,h5,h6,h7⟩:=PTo.of_body hm hC hf (A:=fun r' _=>Wk r' r) h2 F I noE σ vargs hG hs hr
 exact ⟨v,σ',I',h1,⟨h2.next,h2.fr,h2.im,fun _ _=>rfl⟩,h5.none F h5.fn,(h7 _ _ _ h6).toPure hp⟩
end Go.Proofs.YtnpoloachkcadaaGreatDoor.Ai
namespace Go.Proofs.YtnpoloachkcadaaGreatDoor.Ai
theorem nc0:((0:Nat):Int)=0:=rfl
theorem nc1:((1:Nat):Int)=1:=rfl
theorem nc2:((2:Nat):Int)=2:=rfl
theorem tn0:(0:Int).toNat=0:=rfl
theorem tn1:(1:Int).toNat=1:=rfl
theorem tn2:(2:Int).toNat=2:=rfl
end Go.Proofs.YtnpoloachkcadaaGreatDoor.Ai
namespace Go.Proofs.YtnpoloachkcadaaGreatDoor.Ai
theorem ble0 {n:Nat}:Nat.ble 0 n=true:=rfl
theorem ble_self {n:Nat}:Nat.ble n n=true:=by simp
theorem ble_succ {n:Nat}:Nat.ble n (n + 1)=true:=by simp
end Go.Proofs.YtnpoloachkcadaaGreatDoor.Ai
namespace Go.Proofs.YtnpoloachkcadaaGreatDoor.Ai
mutual
theorem renP_pure (ρ:List (Nat × Nat)):∀ (p:PV),pureP p=true→renP ρ p=p
 | .junk,_=>rfl
 | .lit _,_=>rfl
 | .sl _ _,_=>rfl
 | .sz _ _,_=>rfl
 | .sp _ _ _,_=>rfl
 | .ref _,_=>rfl
 | .loc _ _ _ _,h=>by simp [pureP] at h
 | .ptr _ _,h=>by simp [pureP] at h
 | .map _,h=>by simp [pureP] at h
 | .yld _,h=>by simp [pureP] at h
 | .fn f a b,h=>by simp only [pureP,Bool.and_eq_true] at h;simp only [renP,renL_pure ρ a h.1,renL_pure ρ b h.2]
 | .iface t p,h=>by simp only [pureP] at h;simp only [renP,renP_pure ρ p h]
 | .agg l,h=>by simp only [pureP] at h;simp only [renP,renL_pure ρ l h]
 | .tup l,h=>by simp only [pureP] at h;simp only [renP,renL_pure ρ l h]
theorem renL_pure (ρ:List (Nat × Nat)):∀ (l:List PV),pureL l=true→renL ρ l=l
 | [],_=>rfl
 | p::l,h=>by simp only [pureL,Bool.and_eq_true] at h;simp only [renL,renP_pure ρ p h.1,renL_pure ρ l h.2]
end
mutual
theorem frzP_pure (i:Nat) (cs:List PV):∀ (p:PV),pureP p=true→frzP i cs p=p
 | .junk,_=>rfl
 | .lit _,_=>rfl
 | .sl _ _,_=>rfl
 | .sz _ _,_=>rfl
 | .sp _ _ _,_=>rfl
 | .ref _,_=>rfl
 | .loc _ _ _ _,h=>by simp [pureP] at h
 | .ptr _ _,h=>by simp [pureP] at h
 | .map _,h=>by simp [pureP] at h
 | .yld _,h=>by simp [pureP] at h
 | .fn f a b,h=>by simp only [pureP,Bool.and_eq_true] at h;simp only [frzP,frzL_pure i cs a h.1,frzL_pure i cs b h.2]
 | .iface t p,h=>by simp only [pureP] at h;simp only [frzP,frzP_pure i cs p h]
 | .agg l,h=>by simp only [pureP] at h;simp only [frzP,frzL_pure i cs l h]
 | .tup l,h=>by simp only [pureP] at h;simp only [frzP,frzL_pure i cs l h]
theorem frzL_pure (i:Nat) (cs:List PV):∀ (l:List PV),pureL l=true→frzL i cs l=l
 | [],_=>rfl
 | p::l,h=>by simp only [pureL,Bool.and_eq_true] at h;simp only [frzL,frzP_pure i cs p h.1,frzL_pure i cs l h.2]
end
theorem Gh.mr {C:Ctx} {b:Nat} {e:List PV} {π:PW} {A:List PV→PW→Prop} (ks:List Bool) (ρ:List (Nat × Nat)) (m:Nat) (hd:(noDup (newsN ρ) && allLt m (newsN ρ) && stayN ρ b)=true)
  (h:A (renL ρ (maskP ks e)) {next:=m,heap:=renH ρ π.heap }):Gh C b e π A:=
 (Gh.mask (A:=fun e' π'=>e'=maskP ks e∧π'=π) ks ⟨rfl,rfl⟩).trans fun e' π' he=>by
  obtain ⟨rfl,rfl⟩:=he
  exact .ren ρ m hd h
end Go.Proofs.YtnpoloachkcadaaGreatDoor.Ai
namespace Go.Proofs.YtnpoloachkcadaaGreatDoor.Ai
open Go
set_option linter.unusedSimpArgs false
set_option linter.unusedVariables false
def PTop (C:Ctx) (tab:Tr IFunc) (f:FuncId) (args:List PV) (r:PV):Prop:=
 ∃ ifn,tab.get f=some ifn∧PRun C 0 ifn.body (startP ifn args) .none fun x t π'=>(x = .normal∨x = .ret)∧Gh C 0 t π' fun t π'=>∃ rs,resPs t π' ifn.results=some rs∧Wk (tupP rs) r
theorem PTop.body {C:Ctx} {tab:Tr IFunc} {f:FuncId} {ifn:IFunc} (hf:tab.get f=some ifn) {args:List PV} {r:PV}
  (h:PRun C 0 ifn.body (startP ifn args) .none fun x t π'=>(x = .normal∨x = .ret)∧Gh C 0 t π' fun t π'=>∃ rs,resPs t π' ifn.results=some rs∧Wk (tupP rs) r):PTop C tab f args r:=⟨ifn,hf,h⟩
theorem PTop.calls {C:Ctx} (hm:C.P.follows .mixedOrders=true) {tab:Tr IFunc} (hC:TabOK C.P C.ng C.ts tab) {f:FuncId} {args:List PV} {u:Value} (h:PTop C tab f args (.lit u))
  {F:Nat→Prop} {I:Img} {σ:AW} {vargs:List Value} {μ:Nat→Loc} {w:World} (hG:GRd I noE C.G) (hs:SRel F I noE .none σ) (hr:RdL I noE args vargs) (hrep:Rep C.P C.ng C.ts C.N0 μ σ w) (ha:ltL σ.next vargs=true) :
  Calls C.P f ⟨concL μ vargs⟩ w fun e w'=>e = .returned u∧∃ μ' σ',Goes μ σ w μ' σ' w':=by
 obtain ⟨ifn,hf,h⟩:=h
 have h2:PRun C 0 ifn.body (startP ifn args) .none fun x t π'=>(x = .normal∨x = .ret)∧∃ rs,resPs t π' ifn.results=some rs∧Wk (tupP rs) (.lit u):=
  PRun.after (h.mono fun x t π hx=>hx.2.mono fun t π ha=>⟨hx.1,ha⟩)
 have hlen:=hr.length
 obtain ⟨L,n,x,env',σ1,h1,h3,h4,I',η',t',π',D,g4,h5,h6,h7,h8,h9,hx,rs,h10,h11⟩:=h2 F I noE σ {tmps:=vargs++List.replicate (ifn.ntmps - vargs.length) undef,dfs:=[] } hG hs
  (by unfold startP;rw [hlen];exact hr.append (rdL_replicate _ _))
 obtain ⟨σ',d1,d2,d3,d4⟩:=runDfs_some h6 (fun d hd=>(h7 d hd).2) h8
 obtain ⟨vs,hvs,hrs⟩:=resPs_sim d4 h9 h10
 have hrun:=CRun.of_evC (rnd:=none) hm (KL_sound h1) h4
 have hv:tupleOf vs=u∧lt 0 u=true:=rd_lit (h11 _ _ _ (tupP_sim hrs))
 refine (Calls_of_body hC hf hrun hx (by rw [h5];simpa using d1) hvs hrep ha).mono fun e w' ⟨μ',he,hrep',hgo,_⟩=>⟨?_,μ',σ',hgo⟩
 rw [he,hv.1,conc_zero _ _ hv.2]
structure Vw where
 blk:Nat
 off:Nat
 cs:List Value
def vwB (x:Vw):CB:={cs:=x.cs,ty:=0,esz:=1,ro:=true,exact:=true,retired:=false,frozen:=true,al:=[] }
def vwH:Nat→List Vw→Tr Blk
 | _,[]=>.nil
 | m,x::l=>(vwH (m + 1) l).set m (.cells (vwB x))
def vwAt (m:Nat) (l:List Vw) (i:Nat):Option Vw:=if i < m then none else l[i - m]?
def vwσ (m:Nat) (l:List Vw):AW:={next:=m + l.length,heap:=vwH m l }
def vwμ (m:Nat) (l:List Vw) (i:Nat):Loc:=match vwAt m l i with | some x=>⟨x.blk,x.off,0⟩ | none=>⟨i,0,0⟩
def vwI (m:Nat) (l:List Vw):Img:=⟨fun i=>(vwAt m l i).map (·.cs),fun _=>False⟩
theorem vwAt_cons (m:Nat) (x:Vw) (l:List Vw) (i:Nat):vwAt m (x::l) i=if i=m then some x else vwAt (m + 1) l i:=by
 unfold vwAt
 by_cases h:i=m
 ·subst h;simp
 ·rw [if_neg h]
  by_cases h2:i < m
  ·rw [if_pos h2,if_pos (by omega)]
  ·rw [if_neg h2,if_neg (by omega)]
   obtain ⟨k,hk⟩:∃ k,i - m=k + 1:=⟨i - m - 1,by omega⟩
   rw [hk,show i - (m + 1)=k by omega]
   simp
theorem vwH_get:∀ (l:List Vw) (m i:Nat),(vwH m l).get i=(vwAt m l i).map fun x=>.cells (vwB x)
 | [],m,i=>by simp [vwH,Tr.get,vwAt]
 | x::l,m,i=>by
  simp only [vwH]
  rw [Tr.get_set _ _ _ _ (Nat.lt_succ_self _),vwAt_cons,vwH_get l (m + 1) i]
  split <;> simp
theorem vwAt_lt {m:Nat} {l:List Vw} {i:Nat} {x:Vw} (h:vwAt m l i=some x):m≤i∧i < m + l.length:=by
 unfold vwAt at h
 split at h
 ·simp at h
 ·have:=(List.getElem?_eq_some_iff.1 h).1
  omega
structure VwOK (n:Nat) (μ:Nat→Loc) (W:World) (x:Vw):Prop where
 l:ltL n x.cs=true
 c:∃ C t fr,W.heap[x.blk]? = some (.cells C t fr)∧x.off + x.cs.length≤C.size∧∀ k v,x.cs[k]? = some v→C[x.off + k]? = some (conc μ v)
theorem vw_rep {P:Program} {ng:Nat} {ts:List TypeId} {m:Nat} {l:List Vw} {W:World} (hm:ng≤m) (hl:∀ x∈l,VwOK (m + l.length) (vwμ m l) W x):Rep P ng ts (Bs.of W) (vwμ m l) (vwσ m l) W:=by
 have hg:∀ i b,(vwσ m l).heap.get i=some b→∃ x,vwAt m l i=some x∧b = .cells (vwB x)∧x∈l:=by
  intro i b h
  simp only [vwσ,vwH_get,Option.map_eq_some_iff] at h
  obtain ⟨x,hx,rfl⟩:=h
  refine ⟨x,hx,rfl,?_⟩
  unfold vwAt at hx
  split at hx
  ·simp at hx
  ·exact List.mem_of_getElem? hx
 have hμ:∀ i x,vwAt m l i=some x→vwμ m l i=⟨x.blk,x.off,0⟩:=fun i x h=>by simp [vwμ,h]
 refine ⟨⟨fun g hgl=>?_⟩,by simp only [vwσ];omega,?_,?_,?_,?_,?_,⟨Nat.le_refl _,fun _ _=>rfl⟩⟩
 ·simp only [vwμ,vwAt];rw [if_pos (by omega)]
 ·intro i b h
  obtain ⟨x,hx,rfl,hxl⟩:=hg i b h
  obtain ⟨h1,h2⟩:=vwAt_lt hx
  obtain ⟨h3,C,t,fr,h4,h5,h6⟩:=hl x hxl
  refine ⟨h2,Nat.lt_succ_self _,⟨h3,fun _=>by rw [hμ i x hx],fun _ h=>by simp [vwB] at h,fun h=>by simp [vwB] at h,C,t,fr,by rw [hμ i x hx];exact h4,fun h=>by simp [vwB] at h,by rw [hμ i x hx];exact h5,fun k v hk=>by rw [hμ i x hx];exact h6 k v hk⟩⟩
 ·intro i b h hr
  obtain ⟨x,hx,rfl,hxl⟩:=hg i b h
  simp [isRo,vwB] at hr
 ·intro i b h hr
  obtain ⟨x,hx,rfl,hxl⟩:=hg i b h
  obtain ⟨h3,C,t,fr,h4,h5,h6⟩:=hl x hxl
  rw [hμ i x hx]
  exact (Array.getElem?_eq_some_iff.1 h4).1
 ·intro i j bi bj h _ hr
  obtain ⟨x,hx,rfl,hxl⟩:=hg i bi h
  simp [isRo,vwB] at hr
 ·intro j cj h i hi
  obtain ⟨x,hx,hb,hxl⟩:=hg j _ h
  simp at hb;subst hb
  simp [vwB] at hi
theorem vw_srel {m:Nat} {l:List Vw}:SRel (fun _=>False) (vwI m l) noE .none (vwσ m l):=by
 refine ⟨fun i b h=>?_,fun i h=>h.elim,fun j o a hj=>by simp [PW.none,look] at hj,fun i vs hi=>?_,fun j a ha=>by simp at ha,fun j o hj=>by simp [PW.none,look] at hj,fun j k oj ok a hj=>by simp [PW.none,look] at hj,
  fun j o a hj=>by simp [PW.none,look] at hj,fun j cs ty esz ex ret al a b hj=>by simp [PW.none,look] at hj⟩
 ·simp only [vwσ,vwH_get,Option.map_eq_some_iff] at h
  obtain ⟨x,hx,rfl⟩:=h
  exact (vwAt_lt hx).2
 ·simp only [vwI,Option.map_eq_some_iff] at hi
  obtain ⟨x,hx,rfl⟩:=hi
  exact ⟨(vwAt_lt hx).2,vwB x,by simp only [vwσ,vwH_get,hx,Option.map_some],rfl,rfl,fun h=>False.elim h⟩
theorem vw_below {m:Nat} {l:List Vw} {μ':Nat→Loc} {σ':AW} {w w':World} (h:Goes (vwμ m l) (vwσ m l) w μ' σ' w'):RowKit.Below w.heap.size w w':=
 ⟨h.os,h.tape,h.output,h.size,fun k hk=>h.keep k hk fun i b hb hr=>by
  simp only [vwσ,vwH_get,Option.map_eq_some_iff] at hb
  obtain ⟨x,hx,rfl⟩:=hb
  simp [isRo,vwB] at hr⟩
end Go.Proofs.YtnpoloachkcadaaGreatDoor.Ai
namespace Go.Proofs.YtnpoloachkcadaaGreatDoor.Ai
open Go
set_option linter.unusedSimpArgs false
set_option linter.unusedVariables false
def SlAt (W:World) (k:IntKind) (v:Value) (l:List Int):Prop:=
 (v = .slice none 0 0∧l=[])∨∃ (x:Vw) (o cap:Nat) (rest:List Value),v = .slice (some ⟨x.blk,x.off + o,none⟩) l.length cap∧l.length≤cap∧ltL 0 x.cs=true∧x.cs.drop o=l.map (.int k)++rest∧
  ∃ C t fr,W.heap[x.blk]? = some (.cells C t fr)∧x.off + x.cs.length≤C.size∧∀ j v,x.cs[j]? = some v→C[x.off + j]? = some v
section
variable {H:Type} {enc:TypeId × Value→H} {P:Program} {W:World} {base:Nat} {held:Bool}
theorem cell_at {a:Addr} {i:Nat} {v:Value} (hs:a.spot=none) (h:W.cell? (a.add i)=some v):∃ C t fr,W.heap[a.block]? = some (.cells C t fr)∧C[a.off + i]? = some v:=by
 have e:a.add i=⟨a.block,a.off + i,none⟩:=by
  unfold Addr.add
  split
  ·rename_i h0;subst h0
   obtain ⟨b,o,s⟩:=a
   simp only at hs;subst hs;rfl
  ·rfl
 rw [e] at h
 unfold World.cell? at h
 dsimp only at h
 split at h
 ·rename_i C t fr hb
  exact ⟨C,t,fr,hb,by simpa using h⟩
 ·simp at h
end
def VwS (m:Nat) (W:World) (vs:List Value) (ps:List PV):Prop:=
 ∃ (l:List Vw) (us:List Value),(∀ x∈l,ltL 0 x.cs=true∧∃ C t fr,W.heap[x.blk]? = some (.cells C t fr)∧x.off + x.cs.length≤C.size∧∀ j v,x.cs[j]? = some v→C[x.off + j]? = some v)∧
  concL (vwμ m l) us=vs∧RdL (vwI m l) noE ps us∧ltL (m + l.length) us=true
theorem vwAt_snoc (m:Nat) (l:List Vw) (x:Vw) (i:Nat):vwAt m (l++[x]) i=if i=m + l.length then some x else vwAt m l i:=by
 unfold vwAt
 by_cases h:i < m
 ·rw [if_pos h,if_neg (by omega),if_pos h]
 ·rw [if_neg h,if_neg h]
  by_cases h2:i=m + l.length
  ·rw [if_pos h2];subst h2;simp
  ·rw [if_neg h2]
   by_cases h3:i - m < l.length
   ·rw [List.getElem?_append_left h3]
   ·rw [List.getElem?_append_right (by omega),List.getElem?_eq_none (by simp;omega),List.getElem?_eq_none (by omega)]
theorem concL_app (μ:Nat→Loc):∀ a b:List Value,concL μ (a++b)=concL μ a++concL μ b
 | [],b=>by simp [concL]
 | v::a,b=>by simp [concL,concL_app μ a b]
section
variable {m:Nat} {W:World} {vs:List Value} {ps:List PV}
theorem VwS.nil:VwS m W [] []:=⟨[],[],by simp,rfl,by simp [RdL],rfl⟩
theorem VwS.lit (h:VwS m W vs ps) {u:Value} (hu:lt 0 u=true):VwS m W (vs++[u]) (ps++[.lit u]):=by
 obtain ⟨l,us,h1,h2,h3,h4⟩:=h
 refine ⟨l,us++[u],h1,?_,h3.append (by simp only [RdL];exact ⟨rd_mk hu,trivial⟩),?_⟩
 ·rw [concL_app,h2];simp [concL,conc_zero _ _ hu]
 ·rw [ltL_append];exact ⟨h4,by simp [ltL,lt_mono (Nat.zero_le _) _ hu]⟩
theorem VwS.slice (h:VwS m W vs ps) {k:IntKind} {v:Value} {z:List Int} (hv:SlAt W k v z):VwS m W (vs++[v]) (ps++[.sz (z.map fun n=>.lit (.int k n)) z.length]):=by
 obtain ⟨l,us,h1,h2,h3,h4⟩:=h
 rcases hv with ⟨rfl,rfl⟩ | ⟨x,o,cap,rest,rfl,hcap,hlt,hd,hC⟩
 ·refine ⟨l,us++[.slice none 0 0],h1,?_,h3.append (by simp only [RdL];exact ⟨by simp [Rd],trivial⟩),?_⟩
  ·rw [concL_app,h2];simp [concL,conc]
  ·rw [ltL_append];exact ⟨h4,by simp [ltL,lt]⟩
 ·have hat:∀ i,i < m + l.length→vwμ m (l++[x]) i=vwμ m l i:=fun i hi=>by simp only [vwμ,vwAt_snoc];rw [if_neg (by omega)]
  have hμ:vwμ m (l++[x]) (m + l.length)=⟨x.blk,x.off,0⟩:=by simp [vwμ,vwAt_snoc]
  have hle:(vwI m l).le (vwI m (l++[x])):=by
   refine ⟨fun i cs hi=>?_,fun i cs hi hx=>False.elim hx⟩
   simp only [vwI,Option.map_eq_some_iff] at hi ⊢
   obtain ⟨y,hy,rfl⟩:=hi
   have:=(vwAt_lt hy).2
   exact ⟨y,by rw [vwAt_snoc,if_neg (by omega)];exact hy,rfl⟩
  refine ⟨l++[x],us++[.slice (some ⟨m + l.length,o,none⟩) z.length cap],?_,?_,?_,?_⟩
  ·intro y hy
   simp only [List.mem_append,List.mem_singleton] at hy
   rcases hy with hy | rfl
   ·exact h1 y hy
   ·exact ⟨hlt,hC⟩
  ·rw [concL_app,concL_congr hat us h4,h2]
   simp [concL,conc,cAddr,hμ]
  ·refine (h3.mono hle (Eta.le_refl _)).append ?_
   simp only [RdL]
   refine ⟨?_,trivial⟩
   simp only [Rd]
   refine .inr ⟨m + l.length,o,cap,x.cs,z.map (.int k),rest,rfl,hcap,by simp [vwI,vwAt_snoc],hd,?_⟩
   clear hd hcap
   induction z with
   | nil=>simp [RdL]
   | cons n z ih=>simp only [List.map_cons,RdL];exact ⟨rd_mk (by simp [lt]),ih⟩
  ·rw [ltL_append]
   refine ⟨ltL_mono (by simp) _ h4,?_⟩
   simp [ltL,lt]
theorem VwS.calls {C:Ctx} (hm:C.P.follows .mixedOrders=true) {tab:Tr IFunc} (hC:TabOK C.P C.ng C.ts tab) {f:FuncId} {u:Value} (hN:C.N0=Bs.of W) (hng:C.ng≤m) (hG:∀ I,GRd I noE C.G) (h:VwS m W vs ps) (ht:PTop C tab f ps (.lit u)) :
  Calls C.P f ⟨vs⟩ W fun e w'=>e = .returned u∧RowKit.Below W.heap.size W w':=by
 obtain ⟨l,us,h1,h2,h3,h4⟩:=h
 have hrep:Rep C.P C.ng C.ts C.N0 (vwμ m l) (vwσ m l) W:=by
  rw [hN]
  refine vw_rep hng fun x hx=>?_
  obtain ⟨h5,Cc,t,fr,h6,h7,h8⟩:=h1 x hx
  exact ⟨ltL_mono (Nat.zero_le _) _ h5,Cc,t,fr,h6,h7,fun k v hk=>by rw [conc_zero _ _ (ltL_getElem h5 hk)];exact h8 k v hk⟩
 have hc:=ht.calls hm hC (hG _) (vw_srel (m:=m) (l:=l)) h3 hrep h4
 rw [h2] at hc
 exact hc.mono fun e w' ⟨he,μ',σ',hg⟩=>⟨he,vw_below hg⟩
end
end Go.Proofs.YtnpoloachkcadaaGreatDoor.Ai
