/- A PART OF THE PROOF: a step of the proof that the law's code does what its contracts say, by an interpreter of the program's functions that is proved to be sound. -/
import Derived.Test.YtkldgoapompinaaDoorWrC
import Derived.Test.YtkldgoapompinaaDoorPv4
import Derived.Lib.ItoaLen
namespace Go.Proofs.YtkldgoapompinaaDoor.Ai
open Go
set_option linter.unusedVariables false
set_option linter.unusedSectionVars false
set_option maxRecDepth 10000
set_option maxHeartbeats 4000000
theorem PFun.wkA' {C:Ctx} {f:FuncId} {a a':List PV} {r:PV} (h:PFun C f a r) (k:WkL a' a):PFun C f a' r:=by
 intro F I σ vargs hG hs hr
 exact h F I σ vargs hG hs (k _ _ _ hr)
def slP (l:List Nat):PV:=if l=[] then .lit (.slice none 0 0) else .sl (N16 l) l.length
theorem slP_wk (l:List Nat):Wk (slP l) (.sz (N16 l) l.length):=by
 unfold slP
 split
 ·rename_i h;subst h;exact .nil_sz
 ·exact .sl_sz
theorem slP_pure (l:List Nat):pureP (slP l)=true:=by
 unfold slP
 split
 ·rfl
 ·simp only [pureP]
def Wd (H:List (Nat × PObj)) (nx i:Nat) (l:List Nat):Prop:=l ≠ []→i < nx∧look H i=some (.cells (N16 l) 54 1 false false [])
theorem Wd.push {H:List (Nat × PObj)} {nx i:Nat} {l:List Nat} (h:Wd H nx i l) (o:PObj):Wd ((nx,o)::H) (nx + 1) i l:=fun hl=>⟨Nat.lt_succ_of_lt (h hl).1,look_push (h hl).2 (h hl).1⟩
theorem Wd.set {H:List (Nat × PObj)} {nx i c:Nat} {l:List Nat} (h:Wd H nx i l) (hc:i ≠ c) (o:PObj):Wd (setO H c o) nx i l:=fun hl=>⟨(h hl).1,look_set_ne (h hl).2 hc⟩
def ldH:List (Nat × List Nat)→List (Nat × PObj)
 | []=>[]
 | (i,l)::xs=>if l=[] then ldH xs else (i,.cells (N16 l) 54 1 false false [])::ldH xs
theorem look_ldH:∀ {xs:List (Nat × List Nat)} {j:Nat} {o:PObj},look (ldH xs) j=some o→∃ l,(j,l)∈xs∧l ≠ []∧o = .cells (N16 l) 54 1 false false []
 | [],j,o,h=>by simp [ldH,look] at h
 | (i,l)::xs,j,o,h=>by
  unfold ldH at h
  split at h
  ·obtain ⟨m,h1,h2⟩:=look_ldH h
   exact ⟨m,by simp [h1],h2⟩
  ·rename_i hl
   simp only [look] at h
   split at h
   ·rename_i e;subst e
    exact ⟨l,by simp,hl,(Option.some.inj h).symm⟩
   ·obtain ⟨m,h1,h2⟩:=look_ldH h
    exact ⟨m,by simp [h1],h2⟩
def Apart (xs:List (Nat × List Nat)):Prop:=xs.Pairwise fun x y=>x.2 ≠ []→y.2 ≠ []→x.1 ≠ y.1
theorem ldH_look:∀ {xs:List (Nat × List Nat)},Apart xs→∀ x∈xs,x.2 ≠ []→look (ldH xs) x.1=some (.cells (N16 x.2) 54 1 false false [])
 | [],_,x,hx,_=>by simp at hx
 | (i,l)::xs,hA,x,hx,h0=>by
  obtain ⟨h1,h2⟩:=List.pairwise_cons.1 hA
  unfold ldH
  rcases List.mem_cons.1 hx with rfl | hx
  ·rw [if_neg h0];simp only [look,if_true]
  ·split
   ·exact ldH_look h2 x hx h0
   ·rename_i hl
    simp only [look]
    rw [if_neg (fun e=>h1 x hx hl h0 e.symm)]
    exact ldH_look h2 x hx h0
def frS (i:Nat) (l:List Nat) (e:List PV):List PV:=if l=[] then e else frzL i (N16 l) e
def frSP (i:Nat) (l:List Nat) (p:PV):PV:=if l=[] then p else frzP i (N16 l) p
def lendP:List (Nat × List Nat)→List PV→List PV
 | [],e=>e
 | (i,l)::xs,e=>lendP xs (frS i l e)
theorem Gh.lend {C:Ctx} {b:Nat}:∀ (xs:List (Nat × List Nat)) (e:List PV) (π:PW),Apart xs→(∀ x∈xs,x.2 ≠ []→look π.heap x.1=some (.cells (N16 x.2) 54 1 false false []))→Gh C b e π fun e' _=>e'=lendP xs e
 | [],e,π,_,_=>.refl rfl
 | (i,l)::xs,e,π,hA,hx=>by
  obtain ⟨h1,h2⟩:=List.pairwise_cons.1 hA
  unfold lendP frS
  by_cases hl:l=[]
  ·rw [if_pos hl]
   exact Gh.lend xs e π h2 fun x hm=>hx x (by simp [hm])
  ·rw [if_neg hl]
   have h0:=hx (i,l) (by simp) hl
   refine (Gh.fzTop (A:=fun e' π'=>e'=frzL i (N16 l) e∧π'=⟨π.next,ldH xs⟩) (H:=ldH xs) i h0 (pure_N16 l) (fun j o hj=>?_) ⟨rfl,rfl⟩).trans ?_
   ·obtain ⟨m,g1,g2,rfl⟩:=look_ldH hj
    refine ⟨hx (j,m) (by simp [g1]) g2,fun e=>h1 (j,m) g1 hl g2 e.symm,fun _ _ _ _ _ al h=>?_⟩
    simp only [PObj.cells.injEq] at h
    rw [← h.2.2.2.2.2];simp
   ·rintro _ _ ⟨rfl,rfl⟩
    exact Gh.lend xs _ _ h2 (ldH_look h2)
theorem frS_nil (i:Nat) (l:List Nat):frS i l []=[]:=by unfold frS;split <;> rfl
theorem frS_cons (i:Nat) (l:List Nat) (p:PV) (e:List PV):frS i l (p::e)=frSP i l p::frS i l e:=by unfold frS frSP;split <;> rfl
theorem frSP_agg (i:Nat) (l:List Nat) (e:List PV):frSP i l (.agg e) = .agg (frS i l e):=by unfold frS frSP;split <;> rfl
theorem frSP_sz (i:Nat) (l:List Nat) (cs:List PV) (n:Nat):frSP i l (.sz cs n) = .sz cs n:=by unfold frSP;split <;> rfl
theorem frSP_slP (i:Nat) (l m:List Nat):frSP i l (slP m)=slP m:=by
 unfold frSP slP
 split
 ·rfl
 ·split <;> rfl
theorem frSP_slot (i:Nat) (l:List Nat):frSP i l (slotP (i,l.length))=slP l:=by
 unfold frSP slP
 by_cases h:l=[]
 ·subst h;rfl
 ·rw [if_neg h,if_neg h,slot_ne h]
  simp only [frzP,if_true,Nat.le_refl,List.drop_zero]
theorem frSP_ne {i j:Nat} (h:j ≠ i) (l:List Nat) (n:Nat):frSP i l (slotP (j,n))=slotP (j,n):=by
 unfold frSP
 split
 ·rfl
 ·unfold slotP
  split
  ·rfl
  ·simp only [frzP];rw [if_neg h]
theorem PFun.lend {C:Ctx} {b:Nat} {e:List PV} {f:FuncId} {args args0 args1:List PV} {u:Value} {π:PW} (h:PFun C f args0 (.lit u)) (xs:List (Nat × List Nat)) (hA:Apart xs)
  (hx:∀ x∈xs,x.2 ≠ []→look π.heap x.1=some (.cells (N16 x.2) 54 1 false false [])) (h1:lendP xs args=args1) (hw:WkL args1 args0) (hp:pureL args1=true) {A:PV→PW→Prop} (hA':A (.lit u) π) (hb:b≤π.next:=by exact Nat.zero_le _):PToE C b e f args π A:=
 (h.wkA' hw).lent hp ((Gh.lend xs args π hA hx).mono fun _ _ h=>h.trans h1) hA' hb
theorem nm_slot {b:Nat} {p:Nat × Nat} (h:p.2 ≠ 0→p.1 < b):nmP b (slotP p)=true:=by
 unfold slotP
 split
 ·rfl
 ·rename_i hp
  simp only [nmP];rw [Nat.blt_eq];exact h hp
structure BookI (H:List (Nat × PObj)) (nx bk j:Nat) (ps:List (Nat × Nat)):Prop where
 hbk:bk < nx∧∃ ex,look H bk=some (.cells [.lit (.slice none 0 0),.lit (.slice none 0 0),.lit (.slice none 0 0),.lit (.slice none 0 0),slotP (j,ps.length),.lit (.slice none 0 0),.lit (.slice none 0 0),.lit (.slice none 0 0),.lit (.slice none 0 0),.lit (.slice none 0 0),.lit (.slice none 0 0),.lit (.slice none 0 0),.lit (.slice none 0 0)] 44 13 ex false [])
 arr:ps ≠ []→bk < j∧j < nx∧∃ al,look H j=some (.cells (ps.map slotP) 23 1 false false al)
 lst:∀ (i:Nat) (p:Nat × Nat),ps[i]? = some p→p.2 ≠ 0→bk < p.1∧p.1 < nx∧p.2 < 2 ^ 36∧∃ cs,cs.length=p.2∧look H p.1=some (.cells cs 54 1 false false [])
 dis:Distinct j ps
def Rest (nx bk j:Nat) (H H':List (Nat × PObj)):Prop:=∀ id o,id < nx→id ≠ bk→id ≠ j→look H id=some o→look H' id=some o
theorem BookI.push {H:List (Nat × PObj)} {nx bk j:Nat} {ps:List (Nat × Nat)} (h:BookI H nx bk j ps) (o:PObj):BookI ((nx,o)::H) (nx + 1) bk j ps:=
 ⟨⟨Nat.lt_succ_of_lt h.hbk.1,h.hbk.2.imp fun ex e=>look_push e h.hbk.1⟩,fun h0=>by
  obtain ⟨h1,h2,al,h3⟩:=h.arr h0
  exact ⟨h1,Nat.lt_succ_of_lt h2,al,look_push h3 h2⟩,fun i p hp h0=>by
  obtain ⟨h1,h2,h2',cs,h3,h4⟩:=h.lst i p hp h0
  exact ⟨h1,Nat.lt_succ_of_lt h2,h2',cs,h3,look_push h4 h2⟩,h.dis⟩
theorem BookI.keep {H H':List (Nat × PObj)} {nx nx' bk j:Nat} {ps:List (Nat × Nat)} (h:BookI H nx bk j ps) (hn:nx≤nx') (hk:∀ id o,id < nx→look H id=some o→look H' id=some o):BookI H' nx' bk j ps:=
 ⟨⟨Nat.lt_of_lt_of_le h.hbk.1 hn,h.hbk.2.imp fun ex e=>hk _ _ h.hbk.1 e⟩,fun h0=>by
  obtain ⟨h1,h2,al,h3⟩:=h.arr h0
  exact ⟨h1,Nat.lt_of_lt_of_le h2 hn,al,hk _ _ h2 h3⟩,fun i p hp h0=>by
  obtain ⟨h1,h2,h2',cs,h3,h4⟩:=h.lst i p hp h0
  exact ⟨h1,Nat.lt_of_lt_of_le h2 hn,h2',cs,h3,hk _ _ h2 h4⟩,h.dis⟩
theorem BookI.snoc {H H':List (Nat × PObj)} {nx nx' bk j j':Nat} {ps:List (Nat × Nat)} {p:Nat × Nat} {l:List PV} (h:BookI H nx bk j ps)
  (hp:p.2 ≠ 0→bk < p.1∧p.1 < nx∧p.2 < 2 ^ 36∧l.length=p.2∧look H p.1=some (.cells l 54 1 false false [])∧∀ q∈ps,q.2 ≠ 0→q.1 ≠ p.1)
  (hn:nx≤nx') (hj:nx≤j') (hj':j' < nx') (hb:∃ ex,look H' bk=some (.cells [.lit (.slice none 0 0),.lit (.slice none 0 0),.lit (.slice none 0 0),.lit (.slice none 0 0),slotP (j',(ps++[p]).length),.lit (.slice none 0 0),.lit (.slice none 0 0),.lit (.slice none 0 0),.lit (.slice none 0 0),.lit (.slice none 0 0),.lit (.slice none 0 0),.lit (.slice none 0 0),.lit (.slice none 0 0)] 44 13 ex false []))
  (ha:∃ al,look H' j'=some (.cells ((ps++[p]).map slotP) 23 1 false false al)) (hr:∀ id o,id < nx→id ≠ bk→(ps ≠ []→id ≠ j)→look H id=some o→look H' id=some o):BookI H' nx' bk j' (ps++[p]):=by
 have hbk:=h.hbk.1
 have hne:∀ (i:Nat) (q:Nat × Nat),(ps++[p])[i]? = some q→(i < ps.length∧ps[i]? = some q)∨(i=ps.length∧q=p):=fun i q hq=>by
  by_cases hi:i < ps.length
  ·rw [List.getElem?_append_left hi] at hq;exact .inl ⟨hi,hq⟩
  ·rw [List.getElem?_append_right (by omega)] at hq
   have:i - ps.length=0:=by
    cases hd:i - ps.length with
    | zero=>rfl
    | succ n=>rw [hd] at hq;simp at hq
   rw [this] at hq
   simp only [List.getElem?_cons_zero,Option.some.injEq] at hq
   exact .inr ⟨by omega,hq.symm⟩
 have hlt:∀ (i:Nat) (q:Nat × Nat),(ps++[p])[i]? = some q→q.2 ≠ 0→q.1 < nx:=fun i q hq h0=>by
  rcases hne i q hq with ⟨_,hq⟩ | ⟨_,rfl⟩
  ·exact (h.lst i q hq h0).2.1
  ·exact (hp h0).2.1
 refine ⟨⟨by omega,hb⟩,fun _=>⟨by omega,hj',ha⟩,fun i q hq h0=>?_,fun i i' q q' hq hq' h0 h0' e=>?_,fun i q hq h0=>?_⟩
 ·rcases hne i q hq with ⟨_,hq⟩ | ⟨_,rfl⟩
  ·obtain ⟨g1,g2,g2',cs,g3,g4⟩:=h.lst i q hq h0
   exact ⟨g1,by omega,g2',cs,g3,hr _ _ g2 (by omega) (fun hps e=>by
    have:=h.dis.2 i q hq h0;exact this e) g4⟩
  ·obtain ⟨g1,g2,g2',g3,g4,g5⟩:=hp h0
   refine ⟨g1,by omega,g2',l,g3,hr _ _ g2 (by omega) (fun hps e=>?_) g4⟩
   obtain ⟨_,_,al,h3⟩:=h.arr hps
   rw [e] at g4;rw [g4] at h3;cases h3
 ·rcases hne i q hq with ⟨hi,hq1⟩ | ⟨hi,rfl⟩ <;> rcases hne i' q' hq' with ⟨hi',hq1'⟩ | ⟨hi',rfl⟩
  ·exact h.dis.1 i i' q q' hq1 hq1' h0 h0' e
  ·exact absurd e ((hp h0').2.2.2.2.2 q (List.mem_iff_getElem?.2 ⟨i,hq1⟩) h0)
  ·exact absurd e.symm ((hp h0).2.2.2.2.2 q' (List.mem_iff_getElem?.2 ⟨i',hq1'⟩) h0')
  ·omega
 ·have:=hlt i q hq h0;omega
end Go.Proofs.YtkldgoapompinaaDoor.Ai
namespace Go.Proofs.YtkldgoapompinaaDoor.Ai
open Go
set_option linter.unusedVariables false
set_option linter.unusedSectionVars false
set_option maxRecDepth 10000
set_option maxHeartbeats 4000000
theorem look_shH_old {nx id:Nat} {H:List (Nat × PObj)} (h:id < nx):∀ l:List (Nat × PObj),look (shH nx H l) id=look H id
 | []=>rfl
 | (j,o)::l=>by simp only [shH,look];rw [if_neg (by omega)];exact look_shH_old h l
theorem look_shH_new {nx i:Nat} {H:List (Nat × PObj)} {o:PObj}:∀ {l:List (Nat × PObj)},look l i=some o→look (shH nx H l) (i + nx)=some (shO nx o)
 | [],h=>by simp [look] at h
 | (j,x)::l,h=>by
  simp only [shH,look] at h ⊢
  by_cases e:i=j
  ·subst e
   rw [if_pos rfl] at h ⊢
   rw [Option.some.inj h]
  ·rw [if_neg e] at h
   rw [if_neg (by omega)];exact look_shH_new h
theorem shL_N16 (k:Nat):∀ l:List Nat,shL k (N16 l)=N16 l
 | []=>rfl
 | n::l=>by
  have:=shL_N16 k l
  simp only [N16,List.map_cons,shL,shP] at this ⊢
  rw [this]
theorem sh_slot (k i n:Nat):shP k (slotP (i,n))=slotP (i + k,n):=by
 unfold slotP
 by_cases h:n=0
 ·rw [if_pos h,if_pos h];rfl
 ·rw [if_neg h,if_neg h];rfl
theorem look_app_none {l l':List (Nat × PObj)} {i:Nat} (h:look l i=none):look (l++l') i=look l' i:=by
 induction l with
 | nil=>rfl
 | cons x l ih=>
  obtain ⟨j,o⟩:=x
  simp only [List.cons_append,look] at h ⊢
  split at h
  ·simp at h
  ·rename_i e
   rw [if_neg e];exact ih h
theorem objs_off {i j:Nat} (h:i ≠ j) (l:List Nat):look (objs j l) i=none:=by
 unfold objs
 split
 ·rfl
 ·simp only [look];rw [if_neg h]
theorem objs_at {i:Nat} {l:List Nat} (h:l ≠ []) (l':List (Nat × PObj)):look (objs i l++l') i=some (.cells (N16 l) 54 1 false false []):=by
 rw [objs_ne h];simp only [List.cons_append,look,if_true]
section
variable {C:Ctx} (hm:C.P.follows .mixedOrders=true) (hC:TabOK C.P C.ng C.ts Tryd.tab)
include hm hC
theorem read_to {b:Nat} {e:List PV} (s:ByteArray) (hs:s.size < 2 ^ 50) {nx:Nat} {H:List (Nat × PObj)} {A:PV→PW→Prop}
  (h:∀ H',(∀ id o,id < nx→look H id=some o→look H' id=some o)→Wd H' (4 + nx) (2 + nx) (readM s).1.1→Wd H' (4 + nx) (3 + nx) (readM s).1.2→
   A (.tup [.agg [slotP (2 + nx,(readM s).1.1.length),slotP (3 + nx,(readM s).1.2.length)],.lit (.int .i64 ((readM s).2.1:Nat)),.lit (.int .i64 ((readM s).2.2:Nat))]) ⟨4 + nx,H'⟩) (hb:b≤nx:=by exact Nat.zero_le _):PToE C b e 50 [.lit (.string s)] ⟨nx,H⟩ A:=by
 have hg:=read_gen hm hC s hs
 generalize (readM s).1.1=st at h hg
 generalize (readM s).1.2=lp at h hg
 refine PGen.to hg rfl ?_ hb
 have h1:=h (shH nx H (gheap st lp).heap) (fun id o hi ho=>by rw [look_shH_old hi];exact ho) (fun hne=>⟨by omega,?_⟩) (fun hne=>⟨by omega,?_⟩)
 ·simp only [shP,shL,sh_slot];exact h1
 ·have:look (gheap st lp).heap 2=some (.cells (N16 st) 54 1 false false []):=by
   unfold gheap
   dsimp only
   rw [look_app_none (objs_off (by omega) lp)]
   exact objs_at hne _
  rw [look_shH_new this]
  simp only [shO,shL_N16,shA]
 ·have:look (gheap st lp).heap 3=some (.cells (N16 lp) 54 1 false false []):=objs_at hne _
  rw [look_shH_new this]
  simp only [shO,shL_N16,shA]
theorem letters_b (b nx bk j:Nat) (ps:List (Nat × Nat)) (p:Nat × Nat) (H:List (Nat × PObj)) (hb:b≤nx) (h:BookI H nx bk j ps) (hl:ps.length < 2 ^ 30)
  {l:List PV} (hp:p.2 ≠ 0→bk < p.1∧p.1 < nx∧p.2 < 2 ^ 36∧l.length=p.2∧look H p.1=some (.cells l 54 1 false false [])∧∀ q∈ps,q.2 ≠ 0→q.1 ≠ p.1) :
  PToB C b 37 [.ptr bk 0,slotP p] ⟨nx,H⟩ fun r π'=>r=tupP []∧∃ H',π'=⟨nx + 1 + 1,H'⟩∧BookI H' (nx + 1 + 1) bk (nx + 1) (ps++[p])∧∀ id o,id < nx→id ≠ bk→(ps ≠ []→id ≠ j)→look H id=some o→look H' id=some o:=by
 obtain ⟨hb1,ex,hbk⟩:=h.hbk
 have hb0:Nat.ble b nx=true:=Nat.ble_eq_true_of_le hb
 have hb1':Nat.ble b (nx + 1)=true:=Nat.ble_eq_true_of_le (by omega)
 have hb2:Nat.ble b (nx + 1 + 1)=true:=Nat.ble_eq_true_of_le (by omega)
 have e1:¬ bk=nx + 1:=by omega
 have e2:¬ bk=nx:=by omega
 have nb:∀ x:Int,neB x x=false:=fun x=>by simp [neB]
 refine PToB.of_body hm hC (show Tryd.tab.get 37=some Tryd.c37 from rfl) ?_
 have key:∀ v,slotP p=v→(v = .lit (.slice none 0 0)∨v = .loc p.1 0 p.2 p.2)→PRun C b Tryd.c37.body (startP Tryd.c37 [.ptr bk 0,v]) ⟨nx,H⟩ fun x t π'=>(x = .normal∨x = .ret)∧Gh C b t π' fun t π'=>∃ rs,resPs t π' Tryd.c37.results=some rs∧tupP rs=tupP []∧∃ H',π'=⟨nx + 1 + 1,H'⟩∧BookI H' (nx + 1 + 1) bk (nx + 1) (ps++[p])∧∀ id o,id < nx→id ≠ bk→(ps ≠ []→id ≠ j)→look H id=some o→look H' id=some o:=by
  intro v hs hv
  simp only [Tryd.c37,startP,List.length_cons,List.length_nil,Nat.reduceAdd,Nat.reduceSub,List.replicate,List.cons_append,List.nil_append]
  by_cases hps:ps=[]
  ·subst hps
   rw [show slotP (j,([]:List (Nat × Nat)).length) = .lit (.slice none 0 0) from rfl] at hbk
   have e3:slotP (nx + 1,(([]:List (Nat × Nat))++[p]).length) = .loc (nx + 1) 0 1 1:=slotP_loc (by simp)
   have fin:∀ ex',∀ al',look ((nx + 1,PObj.cells [v] 23 1 false false al')::(nx,PObj.cells [v] 23 1 true false [])::setO H bk (.cells [.lit (.slice none 0 0),.lit (.slice none 0 0),.lit (.slice none 0 0),.lit (.slice none 0 0),.loc (nx + 1) 0 1 1,.lit (.slice none 0 0),.lit (.slice none 0 0),.lit (.slice none 0 0),.lit (.slice none 0 0),.lit (.slice none 0 0),.lit (.slice none 0 0),.lit (.slice none 0 0),.lit (.slice none 0 0)] 44 13 ex' false [])) bk=some (.cells [.lit (.slice none 0 0),.lit (.slice none 0 0),.lit (.slice none 0 0),.lit (.slice none 0 0),.loc (nx + 1) 0 1 1,.lit (.slice none 0 0),.lit (.slice none 0 0),.lit (.slice none 0 0),.lit (.slice none 0 0),.lit (.slice none 0 0),.lit (.slice none 0 0),.lit (.slice none 0 0),.lit (.slice none 0 0)] 44 13 ex' false []):=fun ex' al'=>by simp only [look];rw [if_neg e1,if_neg e2,look_setO,if_pos rfl,hbk];rfl
   rcases hv with rfl | rfl
   all_goals
    repeat (refine PRun.wpn rfl ?_;simp only [wp,wo_nil,wo_p,wo_r,wo_n,wo_st,wo_append,beq_self_eq_true,onO_s,onN_s,onE_s,pv_t,ov_nil,ov_cons,ov_nilS,put_some,put_none,pevP,pevR,pevN,pevE,getP,setP,lenP,srcP,appendP,fillP,spliceP,overP,plainP,isCell,look,PW.cs?,PW.push,nthP,cut0,cutS,List.drop_zero,Option.map_some,Option.bind_some,true_or,Nat.mul_one,true_and,Bool.and_true,↓reduceIte,reduceCtorEq,ltL,lt,Nat.reduceAdd,Nat.reduceMul,Nat.reduceLeDiff,Nat.reduceLT,Bool.false_eq_true,Nat.zero_add,allPlain,PW.wr,setO,killO,Bool.or_self,Bool.or_false,Bool.not_true,resPs,tupP,List.nil_append,gt_iff_lt,hbk,e1,e2,hb0,hb1',hb2,killO,bne_self_eq_false])
    exact .refl ⟨_,rfl,rfl,_,rfl,h.snoc (l:=l) hp (by omega) (by omega) (by omega) ⟨ex,by rw [e3];exact fin _ _⟩ ⟨_,by simp only [look,if_true,List.nil_append,List.map_cons,List.map_nil,hs];rfl⟩ (fun id o h1 h2 _ h4=>look_push (look_push (look_set_ne h4 h2) h1) (by omega)),fun id o h1 h2 _ h4=>look_push (look_push (look_set_ne h4 h2) h1) (by omega)⟩
  ·obtain ⟨hbj,hjn,al,hj⟩:=h.arr hps
   have hK:ps.length ≠ 0:=fun e=>hps (List.length_eq_zero_iff.1 e)
   rw [slotP_loc hK] at hbk
   have r1:¬ ps.length + 1≤ps.length:=by omega
   have r2:¬ 140737488355328 < (2 * (ps.length + 1) + 768) * 24:=by omega
   have r4:(ps.map slotP).length=ps.length:=List.length_map _
   have r3:=cutB r4
   have r5:¬ j=nx:=by omega
   have hbk2:=fun o=>look_set_ne (c:=j) (o:=o) hbk (by omega)
   have e3:slotP (nx + 1,(ps++[p]).length) = .loc (nx + 1) 0 (ps.length + 1) (ps.length + 1):=by rw [slotP_loc (by simp),List.length_append];rfl
   rcases hv with rfl | rfl
   all_goals
    repeat (refine PRun.wpn rfl ?_;simp only [wp,wo_nil,wo_p,wo_r,wo_n,wo_st,wo_append,beq_self_eq_true,onO_s,onN_s,onE_s,pv_t,ov_nil,ov_cons,ov_nilS,put_some,put_none,pevP,pevR,pevN,pevE,getP,setP,lenP,srcP,appendP,fillP,spliceP,overP,plainP,isCell,look,PW.cs?,PW.push,nthP,cut0,cutS,List.drop_zero,Option.map_some,Option.bind_some,true_or,Nat.mul_one,true_and,Bool.and_true,↓reduceIte,reduceCtorEq,ltL,lt,Bool.false_eq_true,Nat.zero_add,allPlain,PW.wr,setO,killO,Bool.or_self,Bool.not_true,resPs,tupP,gt_iff_lt,hbk,hbk2,e1,e2,hb0,hb1',hb2,killO,hj,r1,r2,r3,r4,r5,bne_self_eq_false])
    exact .refl ⟨_,rfl,rfl,_,rfl,h.snoc (l:=l) hp (by omega) (by omega) (by omega) ⟨ex,by rw [e3];simp only [look];rw [if_neg e1,if_neg e2,look_setO,if_pos rfl,hbk2];rfl⟩ ⟨_,by simp only [look,if_true,List.map_append,List.map_cons,List.map_nil,hs];rfl⟩ (fun id o h1 h2 h3 h4=>look_push (look_push (look_set_ne (look_set_ne h4 (h3 hps)) h2) h1) (by omega)),fun id o h1 h2 h3 h4=>look_push (look_push (look_set_ne (look_set_ne h4 (h3 hps)) h2) h1) (by omega)⟩
 refine key _ rfl ?_
 unfold slotP
 split
 ·exact .inl rfl
 ·exact .inr rfl
end
end Go.Proofs.YtkldgoapompinaaDoor.Ai
namespace Go.Proofs.YtkldgoapompinaaDoor.Ai
open Go
set_option linter.unusedVariables false
set_option linter.unusedSectionVars false
set_option maxRecDepth 10000
set_option maxHeartbeats 4000000
theorem BookI.off {H:List (Nat × PObj)} {nx bk j:Nat} {ps:List (Nat × Nat)} (h:BookI H nx bk j ps) {i:Nat} {l:List PV} (hi:look H i=some (.cells l 54 1 false false [])):i ≠ bk∧(ps ≠ []→i ≠ j):=by
 refine ⟨fun e=>?_,fun hp e=>?_⟩
 ·obtain ⟨_,ex,hb⟩:=h.hbk
  rw [← e,hi] at hb;cases hb
 ·obtain ⟨_,_,al,hj⟩:=h.arr hp
  rw [← e,hi] at hj;cases hj
theorem nm_ptr (b j o:Nat):nmP b (.ptr j o)=Nat.blt j b:=by simp only [nmP]
theorem nm_agg (b:Nat) (l:List PV):nmP b (.agg l)=nmL b l:=by simp only [nmP]
theorem nm_tup (b:Nat) (l:List PV):nmP b (.tup l)=nmL b l:=by simp only [nmP]
theorem nm_junk (b:Nat):nmP b .junk=true:=by simp only [nmP]
section
variable {C:Ctx} (hm:C.P.follows .mixedOrders=true) (hC:TabOK C.P C.ng C.ts Tryd.tab)
include hm hC
theorem word_b (b nx bk j:Nat) (ps:List (Nat × Nat)) (p1 p2:Nat × Nat) (H:List (Nat × PObj)) (hb:b≤nx) (h:BookI H nx bk j ps) (hl:ps.length + 1 < 2 ^ 30)
  {l1 l2:List PV} (hp1:p1.2 ≠ 0→bk < p1.1∧p1.1 < nx∧p1.2 < 2 ^ 36∧l1.length=p1.2∧look H p1.1=some (.cells l1 54 1 false false [])∧∀ q∈ps,q.2 ≠ 0→q.1 ≠ p1.1)
  (hp2:p2.2 ≠ 0→bk < p2.1∧p2.1 < nx∧p2.2 < 2 ^ 36∧l2.length=p2.2∧look H p2.1=some (.cells l2 54 1 false false [])∧∀ q∈ps,q.2 ≠ 0→q.1 ≠ p2.1) (h12:p1.1 ≠ p2.1) :
  PToB C b 36 [.ptr bk 0,.agg [slotP p1,slotP p2]] ⟨nx,H⟩ fun r π'=>r=tupP []∧∃ H',π'=⟨nx + 1 + 1 + 1 + 1 + 1,H'⟩∧BookI H' (nx + 1 + 1 + 1 + 1 + 1) bk (nx + 1 + 1 + 1 + 1) (ps++[p1]++[p2])∧∀ id o,id < nx→id ≠ bk→(ps ≠ []→id ≠ j)→look H id=some o→look H' id=some o:=by
 have hbk:=h.hbk.1
 have hb0:Nat.ble b nx=true:=Nat.ble_eq_true_of_le hb
 have hb1:Nat.ble b (nx + 1)=true:=Nat.ble_eq_true_of_le (by omega)
 have n1:Nat.blt bk (nx + 1)=true:=by rw [Nat.blt_eq];omega
 have n2:Nat.blt nx (nx + 1)=true:=by rw [Nat.blt_eq];omega
 have n3:Nat.blt bk (nx + 1 + 1 + 1)=true:=by rw [Nat.blt_eq];omega
 have n4:Nat.blt nx (nx + 1 + 1 + 1)=true:=by rw [Nat.blt_eq];omega
 have s1:nmP (nx + 1) (slotP p1)=true:=nm_slot fun h0=>by have:=(hp1 h0).2.1;omega
 have s2:nmP (nx + 1) (slotP p2)=true:=nm_slot fun h0=>by have:=(hp2 h0).2.1;omega
 have s3:nmP (nx + 1 + 1 + 1) (slotP p1)=true:=nm_slot fun h0=>by have:=(hp1 h0).2.1;omega
 have s4:nmP (nx + 1 + 1 + 1) (slotP p2)=true:=nm_slot fun h0=>by have:=(hp2 h0).2.1;omega
 have key:∀ v1 v2,slotP p1=v1→slotP p2=v2→(v1 = .lit (.slice none 0 0)∨v1 = .loc p1.1 0 p1.2 p1.2)→(v2 = .lit (.slice none 0 0)∨v2 = .loc p2.1 0 p2.2 p2.2)→
   PRun C b Tryd.c36.body (startP Tryd.c36 [.ptr bk 0,.agg [v1,v2]]) ⟨nx,H⟩ fun x t π'=>(x = .normal∨x = .ret)∧Gh C b t π' fun t π'=>∃ rs,resPs t π' Tryd.c36.results=some rs∧tupP rs=tupP []∧∃ H',π'=⟨nx + 1 + 1 + 1 + 1 + 1,H'⟩∧BookI H' (nx + 1 + 1 + 1 + 1 + 1) bk (nx + 1 + 1 + 1 + 1) (ps++[p1]++[p2])∧∀ id o,id < nx→id ≠ bk→(ps ≠ []→id ≠ j)→look H id=some o→look H' id=some o:=by
  intro v1 v2 hs1 hs2 hv1 hv2
  simp only [Tryd.c36,startP,List.length_cons,List.length_nil,Nat.reduceAdd,Nat.reduceSub,List.replicate,List.cons_append,List.nil_append]
  have hL1:=letters_b hm hC (nx + 1) (nx + 1) bk j ps p1 ((nx,.cells [v1,v2] 25 2 true false [])::H) (Nat.le_refl _) (h.push _) (by omega) (l:=l1) fun h0=>by
   obtain ⟨g1,g2,g3,g4,g5,g6⟩:=hp1 h0
   exact ⟨g1,by omega,g3,g4,look_push g5 g2,g6⟩
  have hL2:∀ H2,BookI H2 (nx + 1 + 1 + 1) bk (nx + 1 + 1) (ps++[p1])→(∀ id o,id < nx + 1→id ≠ bk→(ps ≠ []→id ≠ j)→look ((nx,.cells [v1,v2] 25 2 true false [])::H) id=some o→look H2 id=some o)→_:=fun H2 hI hK=>
   letters_b hm hC (nx + 1 + 1 + 1) (nx + 1 + 1 + 1) bk (nx + 1 + 1) (ps++[p1]) p2 H2 (Nat.le_refl _) hI (by rw [List.length_append];exact hl) (l:=l2) fun h0=>by
    obtain ⟨g1,g2,g3,g4,g5,g6⟩:=hp2 h0
    refine ⟨g1,by omega,g3,g4,hK _ _ (by omega) (h.off g5).1 (h.off g5).2 (look_push g5 g2),fun q hq h0'=>?_⟩
    rcases List.mem_append.1 hq with hq | hq
    ·exact g6 q hq h0'
    ·obtain rfl:=List.mem_singleton.1 hq;exact h12
  rw [hs1] at hL1 s1 s3
  rw [hs2] at hL2 s2 s4
  have hnj:ps ≠ []→nx ≠ j:=fun h0=>by have:=(h.arr h0).2.1;omega
  rcases hv1 with rfl | rfl <;> rcases hv2 with rfl | rfl
  all_goals
   repeat (refine PRun.wpn rfl ?_;simp only [wp,wo_nil,wo_p,wo_r,wo_n,wo_call,onO_s,onN_s,pv_t,put_some,pevP,pevR,pevN,getP,setP,evsP,boxP,look,PW.cs?,PW.push,nthP,Option.map_some,Option.bind_some,↓reduceIte,Nat.add_zero,resPs,tupP,hb0])
   refine .refl ⟨show b≤nx + 1 by omega,PToE.mono (PToB.toE hL1 (by simp only [nmL,nm_ptr,nm_agg,nm_junk,n1,n2,s1,s2,Bool.and_self]) (by omega)) ?_⟩
   rintro r _ ⟨rfl,H2,rfl,hI2,hK2⟩
   have hbox:=hK2 nx _ (by omega) (by omega) hnj (by simp only [look,if_true];rfl)
   refine POps.wp ?_
   simp only [wo_nil,setP,tupP]
   repeat (refine PRun.wpn rfl ?_;simp only [wp,wo_p,wo_r,wo_call,onO_s,pv_t,put_some,pevP,pevR,getP,setP,evsP,PW.cs?,nthP,Option.bind_some,true_or,true_and,reduceCtorEq,Nat.zero_add,hbox])
   refine .refl ⟨show b≤nx + 1 + 1 + 1 by omega,PToE.mono (PToB.toE (hL2 H2 hI2 hK2) (by simp only [nmL,nm_ptr,nm_agg,nm_tup,nm_junk,n3,n4,s3,s4,Bool.and_self]) (by omega)) ?_⟩
   rintro r' _ ⟨rfl,H3,rfl,hI3,hK3⟩
   refine POps.wp ?_
   simp only [wo_nil,setP,tupP]
   exact .refl ⟨_,rfl,rfl,_,rfl,hI3,fun id o h1 h2 h3 h4=>hK3 id o (by omega) h2 (fun _=>by omega) (hK2 id o (by omega) h2 h3 (look_push h4 h1))⟩
 refine PToB.of_body hm hC (show Tryd.tab.get 36=some Tryd.c36 from rfl) ?_
 refine key _ _ rfl rfl ?_ ?_
 all_goals
  unfold slotP
  split
  ·exact .inl rfl
  ·exact .inr rfl
theorem book_own_g (bk nx j:Nat) (ps:List (Nat × Nat)) (H:List (Nat × PObj)) (h:BookI H nx bk j ps) (hne:ps ≠ []) (hl:ps.length < 2 ^ 30) :
  PToB C nx 42 [.ptr bk 0] ⟨nx,H⟩ fun r π'=>r = .lit (.bool true):=by
 obtain ⟨hb,ex,hbk⟩:=h.hbk
 obtain ⟨hj1,hj2,al,hj⟩:=h.arr hne
 have hK:ps.length ≠ 0:=fun e=>hne (List.length_eq_zero_iff.1 e)
 rw [slotP_loc hK] at hbk
 dsimp only at hbk
 have m1:Nat.blt bk nx=true:=by rw [Nat.blt_eq];exact hb
 have m2:Nat.blt j nx=true:=by rw [Nat.blt_eq];exact hj2
 have hb:bk + 1≤nx:=hb
 have o62:=own62 hm hC
 have o63:=own63 hm hC
 have o64:=own64 hm hC
 have o65:=own65 hm hC
 have o66:=own_ok hm hC (bk + 1) nx nx j ps H hb (Nat.le_refl _) h.dis hl (fun i p hp=>by
  by_cases h0:p.2=0
  ·omega
  ·exact (h.lst i p hp h0).2.2.1) ⟨⟨hj2,_,_,_,_,_,hj⟩,fun i p hp h0=>by
  obtain ⟨g1,g2,g3,cs,g4,g5⟩:=h.lst i p hp h0
  exact ⟨g1,g2,cs,g4,g5,fun _ _ hf=>hf.elim⟩⟩
 have o67:=own67 hm hC
 have o68:=own68 hm hC
 have o69:=own69 hm hC
 have o70:=own70 hm hC
 have o71:=own71 hm hC
 have o72:=own72 hm hC
 have o73:=own73 hm hC
 have o74:=own74 hm hC
 refine PToB.of_body hm hC (show Tryd.tab.get 42=some Tryd.c42 from rfl) ?_
 simp only [Tryd.c42,startP,List.length_cons,List.length_nil,Nat.reduceAdd,Nat.reduceSub,List.replicate,List.cons_append,List.nil_append]
 repeat (refine PRun.wpn rfl ?_;simp only [wp,wo_nil,wo_p,wo_r,wo_call,onO_s,pv_t,pv_bool,put_some,pevP,pevR,getP,setP,evsP,PW.cs?,nthP,Option.bind_some,Nat.add_zero,resPs,resP,tupP,hbk])
 refine .refl ⟨Nat.le_refl _,PFun.to o62 rfl (POps.wp ?_)⟩
 simp only [wo_p,wo_r,wo_call,wo_g,beq_self_eq_true,onO_s,onG_t,wanted_g,wantB_b,pv_t,put_some,pevP,pevR,getP,setP,evsP,PW.cs?,nthP,Option.bind_some,Nat.zero_add,hbk]
 refine .refl ⟨Nat.le_refl _,PFun.to o63 rfl (POps.wp ?_)⟩
 simp only [wo_p,wo_r,wo_call,wo_g,beq_self_eq_true,onO_s,onG_t,wanted_g,wantB_b,pv_t,put_some,pevP,pevR,getP,setP,evsP,PW.cs?,nthP,Option.bind_some,Nat.zero_add,hbk]
 refine .refl ⟨Nat.le_refl _,PFun.to o64 rfl (POps.wp ?_)⟩
 simp only [wo_p,wo_r,wo_call,wo_g,beq_self_eq_true,onO_s,onG_t,wanted_g,wantB_b,pv_t,put_some,pevP,pevR,getP,setP,evsP,PW.cs?,nthP,Option.bind_some,Nat.zero_add,hbk]
 refine .refl ⟨Nat.le_refl _,PFun.to o65 rfl (POps.wp ?_)⟩
 simp only [wo_p,wo_r,wo_call,wo_g,beq_self_eq_true,onO_s,onG_t,wanted_g,wantB_b,pv_t,put_some,pevP,pevR,getP,setP,evsP,PW.cs?,nthP,Option.bind_some,Nat.zero_add,hbk]
 refine .refl ⟨Nat.le_refl _,PToE.mono (PToB.toE o66 (by simp only [nmL,nmP,Bool.and_self,m1,m2]) (Nat.le_refl _)) ?_⟩
 rintro r ⟨nx',H'⟩ ⟨rfl,hK,hn'⟩
 simp only at hK hn'
 have hbk':=hK bk _ (by omega) hbk
 refine POps.wp ?_
 simp only [wo_p,wo_r,wo_call,wo_g,beq_self_eq_true,onO_s,onG_t,wanted_g,wantB_b,pv_t,put_some,pevP,pevR,getP,setP,evsP,PW.cs?,nthP,Option.bind_some,Nat.zero_add,hbk']
 refine .refl ⟨hn',PFun.to o67 rfl (POps.wp ?_)⟩
 simp only [wo_p,wo_r,wo_call,wo_g,beq_self_eq_true,onO_s,onG_t,wanted_g,wantB_b,pv_t,put_some,pevP,pevR,getP,setP,evsP,PW.cs?,nthP,Option.bind_some,Nat.zero_add,hbk']
 refine .refl ⟨hn',PFun.to o68 rfl (POps.wp ?_)⟩
 simp only [wo_p,wo_r,wo_call,wo_g,beq_self_eq_true,onO_s,onG_t,wanted_g,wantB_b,pv_t,put_some,pevP,pevR,getP,setP,evsP,PW.cs?,nthP,Option.bind_some,Nat.zero_add,hbk']
 refine .refl ⟨hn',PFun.to o69 rfl (POps.wp ?_)⟩
 simp only [wo_p,wo_r,wo_call,wo_g,beq_self_eq_true,onO_s,onG_t,wanted_g,wantB_b,pv_t,put_some,pevP,pevR,getP,setP,evsP,PW.cs?,nthP,Option.bind_some,Nat.zero_add,hbk']
 refine .refl ⟨hn',PFun.to o70 rfl (POps.wp ?_)⟩
 simp only [wo_p,wo_r,wo_call,wo_g,beq_self_eq_true,onO_s,onG_t,wanted_g,wantB_b,pv_t,put_some,pevP,pevR,getP,setP,evsP,PW.cs?,nthP,Option.bind_some,Nat.zero_add,hbk']
 refine .refl ⟨hn',PFun.to o71 rfl (POps.wp ?_)⟩
 simp only [wo_p,wo_r,wo_call,wo_g,beq_self_eq_true,onO_s,onG_t,wanted_g,wantB_b,pv_t,put_some,pevP,pevR,getP,setP,evsP,PW.cs?,nthP,Option.bind_some,Nat.zero_add,hbk']
 refine .refl ⟨hn',PFun.to o72 rfl (POps.wp ?_)⟩
 simp only [wo_p,wo_r,wo_call,wo_g,beq_self_eq_true,onO_s,onG_t,wanted_g,wantB_b,pv_t,put_some,pevP,pevR,getP,setP,evsP,PW.cs?,nthP,Option.bind_some,Nat.zero_add,hbk']
 refine .refl ⟨hn',PFun.to o73 rfl (POps.wp ?_)⟩
 simp only [wo_p,wo_r,wo_call,wo_g,beq_self_eq_true,onO_s,onG_t,wanted_g,wantB_b,pv_t,put_some,pevP,pevR,getP,setP,evsP,PW.cs?,nthP,Option.bind_some,Nat.zero_add,hbk']
 refine .refl ⟨hn',PFun.to o74 rfl (POps.wp ?_)⟩
 simp only [wo_nil,wo_p,onO_s,pv_t,put_some,pevP,getP,setP]
 repeat (refine PRun.wpn rfl ?_;simp only [wp,or_true,true_and,reduceCtorEq])
 skip
 exact .refl ⟨_,rfl,rfl⟩
end
end Go.Proofs.YtkldgoapompinaaDoor.Ai
namespace Go.Proofs.YtkldgoapompinaaDoor.Ai
open Go
set_option linter.unusedVariables false
set_option linter.unusedSectionVars false
set_option maxRecDepth 10000
set_option maxHeartbeats 4000000
section
variable {C:Ctx} (hm:C.P.follows .mixedOrders=true) (hC:TabOK C.P C.ng C.ts Tryd.tab)
include hm hC
theorem sameLg (a b:List Nat) (ha:a.length < 2 ^ 62) (hb:b.length < 2 ^ 62):PFun C 24 [.sz (N16 a) a.length,.sz (N16 b) b.length] (.lit (.bool (decide (a=b)))):=by
 by_cases hl:a.length=b.length
 ·refine PFun.body hm hC (show Tryd.tab.get 24=some Tryd.c24 from rfl) rfl ?_
  simp only [Tryd.c24,startP,List.length_cons,List.length_nil,Nat.reduceAdd,Nat.reduceSub,List.replicate,List.cons_append,List.nil_append]
  repeat (refine PRun.wpn rfl ?_;simp only [wp,wo_nil,wo_p,onO_s,pv_t,pv_int,pv_bool,put_some,bi_neq,pevP,getP,setP,PW.none,Option.map_some,↓reduceIte,reduceCtorEq,Bool.false_eq_true,resPs,resP,tupP,neB_f (show ((a.length:Nat):Int)=((b.length:Nat):Int) by omega)])
  refine PRun.gh (Gh.mask (true::true::false::false::false::true::false::false::false::false::false::false::false::false::false::false::false::false::false::false::false::false::false::false::false::false::[]) ?_)
  simp only [↓reduceIte,Bool.false_eq_true,maskP]
  refine PRun.loopG (fun m t π=>∃ i:Nat,t=(.sz (N16 a) a.length::.sz (N16 b) b.length::.junk::.junk::.junk::.lit (.int .i64 (i:Nat))::.junk::.junk::.junk::.junk::.junk::.junk::.junk::.junk::.junk::.junk::.junk::.junk::.junk::.junk::.junk::.junk::.junk::.junk::.junk::.junk::[])∧i≤a.length∧m=a.length - i∧π=⟨0,[]⟩∧a.take i=b.take i) ?_ a.length _ _ ⟨0,rfl,by omega,rfl,rfl,rfl⟩
  rintro m t π ⟨i,rfl,hi,rfl,rfl,ht⟩
  by_cases hlt:(i:Int) < (a.length:Nat)
  ·have hlb:(i:Int) < (b.length:Nat):=by omega
   obtain ⟨x,hx⟩:∃ n,a[i]? = some n:=⟨a[i]'(by omega),List.getElem?_eq_getElem (by omega)⟩
   obtain ⟨y,hy⟩:∃ n,b[i]? = some n:=⟨b[i]'(by omega),List.getElem?_eq_getElem (by omega)⟩
   have hcx:=N16_at hx
   have hcy:=N16_at hy
   have w2:IntKind.i64.wrap (((i:Nat):Int) + 1)=((i + 1:Nat):Int):=by rw [wrap64 (by omega) (by omega)];omega
   by_cases hxy:x=y
   ·have nxy:=neB_f (show ((x:Nat):Int)=((y:Nat):Int) by omega)
    repeat (refine PRun.wpn rfl ?_;simp only [wp,wo_nil,wo_p,onO_s,pv_t,put_some,bi_lss,pevP,getP,setP,Option.map_some,↓reduceIte,ltB_t hlt])
    refine PDraw.last (Nat.zero_le _) rfl ?_
    try dsimp only
    simp only [onX_s,onXI_s,rdX_e,ltN,ltD_s,wx_nil,wx_cons,wx_p,wx_r,pv_t,put_some,bi_neq,pevP,pevR,getP,setP,nthO,baseP,ROp.base,List.length_cons,List.length_nil,Option.map_some,Nat.mul_one,Int.natCast_nonneg,Int.toNat_natCast,and_self,Bool.and_true,↓reduceIte,Nat.reduceAdd,Nat.zero_add,List.length_cons,List.length_nil,hlt,hlb,hcx,hcy,nxy]
    skip
    repeat (refine PRun.wpn rfl ?_;simp only [wp,wo_nil,wo_p,onO_s,pv_t,pv_int,put_some,bi_add,pevP,getP,setP,Option.map_some,↓reduceIte,Bool.false_eq_true,w2])
    refine Gh.mask (true::true::false::false::false::true::false::false::false::false::false::false::false::false::false::false::false::false::false::false::false::false::false::false::false::false::[]) ?_
    refine ⟨a.length - (i + 1),by omega,i + 1,rfl,by omega,rfl,rfl,?_⟩
    rw [List.take_add_one,List.take_add_one,hx,hy,ht,hxy]
   ·have nxy:=neB_t (show ¬ ((x:Nat):Int)=((y:Nat):Int) by omega)
    have hf:decide (a=b)=false:=decide_eq_false fun e=>by rw [e,hy] at hx;exact hxy (Option.some.inj hx).symm
    rw [hf]
    repeat (refine PRun.wpn rfl ?_;simp only [wp,wo_nil,wo_p,onO_s,pv_t,put_some,bi_lss,pevP,getP,setP,Option.map_some,↓reduceIte,ltB_t hlt])
    refine PDraw.last (Nat.zero_le _) rfl ?_
    try dsimp only
    simp only [onX_s,onXI_s,rdX_e,ltN,ltD_s,wx_nil,wx_cons,wx_p,wx_r,pv_t,put_some,bi_neq,pevP,pevR,getP,setP,nthO,baseP,ROp.base,List.length_cons,List.length_nil,Option.map_some,Nat.mul_one,Int.natCast_nonneg,Int.toNat_natCast,and_self,Bool.and_true,↓reduceIte,Nat.reduceAdd,Nat.zero_add,List.length_cons,List.length_nil,hlt,hlb,hcx,hcy,nxy]
    repeat (refine PRun.wpn rfl ?_;simp only [wp,wo_nil,wo_p,onO_s,pv_t,pv_bool,put_some,pevP,getP,setP,or_true,true_and,↓reduceIte,reduceCtorEq])
    exact .refl ⟨_,rfl,.refl _⟩
  ·obtain rfl:i=a.length:=by omega
   have hf:decide (a=b)=true:=decide_eq_true (by rw [List.take_length,List.take_of_length_le (by omega)] at ht;exact ht)
   rw [hf]
   repeat (refine PRun.wpn rfl ?_;simp only [wp,wo_nil,wo_p,onO_s,pv_t,pv_bool,put_some,bi_lss,pevP,getP,setP,Option.map_some,or_true,true_and,↓reduceIte,reduceCtorEq,Bool.false_eq_true,ltB_f hlt])
   exact .refl ⟨_,rfl,.refl _⟩
 ·have hf:decide (a=b)=false:=decide_eq_false fun e=>hl (by rw [e])
  rw [hf]
  refine PFun.body hm hC (show Tryd.tab.get 24=some Tryd.c24 from rfl) rfl ?_
  simp only [Tryd.c24,startP,List.length_cons,List.length_nil,Nat.reduceAdd,Nat.reduceSub,List.replicate,List.cons_append,List.nil_append]
  repeat (refine PRun.wpn rfl ?_;simp only [wp,wo_nil,wo_p,onO_s,pv_t,pv_bool,put_some,bi_neq,pevP,getP,setP,PW.none,Option.map_some,or_true,true_and,↓reduceIte,reduceCtorEq,resPs,resP,tupP,neB_t (show ¬ ((a.length:Nat):Int)=((b.length:Nat):Int) by omega)])
  exact .refl ⟨_,rfl,.refl _⟩
theorem sameWg (a b c d:List Nat) (ha:a.length < 2 ^ 62) (hb:b.length < 2 ^ 62) (hc:c.length < 2 ^ 62) (hd:d.length < 2 ^ 62):PFun C 20 [.agg [.sz (N16 a) a.length,.sz (N16 b) b.length],.agg [.sz (N16 c) c.length,.sz (N16 d) d.length]] (.lit (.bool (decide (a=c∧b=d)))):=by
 have h1:=sameLg hm hC a c ha hc
 have h2:=sameLg hm hC b d hb hd
 by_cases hac:a=c
 ·rw [show decide (a=c)=true from decide_eq_true hac] at h1
  rw [show decide (a=c∧b=d)=decide (b=d) from by simp [hac]]
  refine PFun.body hm hC (show Tryd.tab.get 20=some Tryd.c20 from rfl) rfl ?_
  simp only [Tryd.c20,startP,List.length_cons,List.length_nil,Nat.reduceAdd,Nat.reduceSub,List.replicate,List.cons_append,List.nil_append]
  repeat (refine PRun.wpn rfl ?_;simp only [wp,wo_nil,wo_p,wo_r,wo_n,wo_call,onO_s,onN_s,ble_self,ble_succ,pv_t,pv_bool,put_some,pevP,pevR,pevN,getP,setP,evsP,boxP,look,PW.cs?,PW.push,PW.none,nthP,Option.map_some,Option.bind_some,Nat.zero_le,true_and,↓reduceIte,reduceCtorEq,Nat.reduceAdd,Nat.add_zero,Nat.zero_add,resPs,resP,tupP])
  refine .refl (PFun.to (h1) rfl (POps.wp ?_))
  simp only [wo_p,wo_r,wo_call,wo_g,beq_self_eq_true,onO_s,onG_t,wanted_g,wantB_b,pv_t,put_some,pevP,pevR,getP,setP,evsP,look,PW.cs?,nthP,Option.bind_some,Nat.zero_le,true_and,↓reduceIte,reduceCtorEq,Nat.zero_add]
  refine .refl (PFun.to (h2) rfl (POps.wp ?_))
  simp only [wo_nil,wo_p,onO_s,pv_t,put_some,pevP,getP,setP]
  repeat (refine PRun.wpn rfl ?_;simp only [wp,or_true,true_and,reduceCtorEq])
  exact .refl ⟨_,rfl,.refl _⟩
 ·rw [show decide (a=c)=false from decide_eq_false hac] at h1
  rw [show decide (a=c∧b=d)=false from by simp [hac]]
  refine PFun.body hm hC (show Tryd.tab.get 20=some Tryd.c20 from rfl) rfl ?_
  simp only [Tryd.c20,startP,List.length_cons,List.length_nil,Nat.reduceAdd,Nat.reduceSub,List.replicate,List.cons_append,List.nil_append]
  repeat (refine PRun.wpn rfl ?_;simp only [wp,wo_nil,wo_p,wo_r,wo_n,wo_call,onO_s,onN_s,ble_self,ble_succ,pv_t,pv_bool,put_some,pevP,pevR,pevN,getP,setP,evsP,boxP,look,PW.cs?,PW.push,PW.none,nthP,Option.map_some,Option.bind_some,Nat.zero_le,true_and,↓reduceIte,reduceCtorEq,Nat.reduceAdd,Nat.add_zero,Nat.zero_add,resPs,resP,tupP])
  refine .refl (PFun.to (h1) rfl (POps.wp ?_))
  simp only [wo_nil,wo_p,wo_g,onO_s,onG_f,wanted_g,wantB_b,b_ft,pv_t,pv_bool,put_some,pevP,getP,setP]
  repeat (refine PRun.wpn rfl ?_;simp only [wp,or_true,true_and,reduceCtorEq])
  exact .refl ⟨_,rfl,.refl _⟩
end
end Go.Proofs.YtkldgoapompinaaDoor.Ai
namespace Go.Proofs.YtkldgoapompinaaDoor.Ai
open Go
set_option linter.unusedVariables false
set_option linter.unusedSectionVars false
set_option maxRecDepth 10000
set_option maxHeartbeats 4000000
def sndN:Nat→ICode→ICode
 | n + 1,.seq _ b=>sndN n b
 | _,c=>c
def tail10:ICode:=sndN 7 Tryd.c10.body
theorem slot_or (p:Nat × Nat):slotP p = .lit (.slice none 0 0)∨slotP p = .loc p.1 0 p.2 p.2:=by
 unfold slotP
 split
 ·exact .inl rfl
 ·exact .inr rfl
theorem lend_word {H:List (Nat × PObj)} {nx i1 i2:Nat} {l1 l2:List Nat} (h1:Wd H nx i1 l1) (h2:Wd H nx i2 l2):∀ x∈[(i1,l1),(i2,l2)],x.2 ≠ []→look H x.1=some (.cells (N16 x.2) 54 1 false false []):=by
 intro x hx h0
 simp only [List.mem_cons,List.not_mem_nil,or_false] at hx
 rcases hx with rfl | rfl
 ·exact (h1 h0).2
 ·exact (h2 h0).2
theorem lend_word2 {H:List (Nat × PObj)} {nx i1 i2 i3 i4:Nat} {l1 l2 l3 l4:List Nat} (h1:Wd H nx i1 l1) (h2:Wd H nx i2 l2) (h3:Wd H nx i3 l3) (h4:Wd H nx i4 l4) :
  ∀ x∈[(i1,l1),(i2,l2),(i3,l3),(i4,l4)],x.2 ≠ []→look H x.1=some (.cells (N16 x.2) 54 1 false false []):=by
 intro x hx h0
 simp only [List.mem_cons,List.not_mem_nil,or_false] at hx
 rcases hx with rfl | rfl | rfl | rfl
 ·exact (h1 h0).2
 ·exact (h2 h0).2
 ·exact (h3 h0).2
 ·exact (h4 h0).2
theorem apart2 {i1 i2:Nat} (h:i1 ≠ i2) (l1 l2:List Nat):Apart [(i1,l1),(i2,l2)]:=by
 refine List.pairwise_cons.2 ⟨fun x hx _ _=>?_,List.pairwise_cons.2 ⟨fun x hx=>by simp at hx,.nil⟩⟩
 obtain rfl:=List.mem_singleton.1 hx;exact h
theorem apart4 {i1 i2 i3 i4:Nat} (h12:i1 ≠ i2) (h13:i1 ≠ i3) (h14:i1 ≠ i4) (h23:i2 ≠ i3) (h24:i2 ≠ i4) (h34:i3 ≠ i4) (l1 l2 l3 l4:List Nat):Apart [(i1,l1),(i2,l2),(i3,l3),(i4,l4)]:=by
 refine List.pairwise_cons.2 ⟨fun x hx _ _=>?_,List.pairwise_cons.2 ⟨fun x hx _ _=>?_,apart2 h34 l3 l4⟩⟩
 ·simp only [List.mem_cons,List.not_mem_nil,or_false] at hx
  rcases hx with rfl | rfl | rfl
  ·exact h12
  ·exact h13
  ·exact h14
 ·simp only [List.mem_cons,List.not_mem_nil,or_false] at hx
  rcases hx with rfl | rfl
  ·exact h23
  ·exact h24
section
variable {C:Ctx} (hm:C.P.follows .mixedOrders=true) (hC:TabOK C.P C.ng C.ts Tryd.tab)
include hm hC
theorem reads_tail {itS:Nat→ByteArray} (hI:∀ i:Nat,i < 2 ^ 40→PFun C 58 [.lit (.int .i64 (i:Nat))] (.lit (.string (itS i)))) (hD:∀ i,digs itS i=Lib.decDigits i)
  (s:ByteArray) (hs:s.size≤4194304) (nx:Nat) (H:List (Nat × PObj)) :
  PRun C 0 tail10 (.lit (.string s)::.junk::.junk::.lit (.bool true)::.junk::.junk::.junk::.junk::.junk::.junk::.junk::.junk::.junk::.lit (.bool true)::.junk::.junk::.junk::.junk::.junk::.junk::.junk::.junk::.junk::.junk::.junk::.junk::.junk::.junk::.junk::.junk::.junk::.junk::.junk::.junk::.junk::.junk::.junk::.junk::.junk::.junk::.junk::.junk::.junk::.junk::.junk::.junk::.junk::.junk::.junk::.junk::.junk::.junk::.junk::.junk::.junk::.junk::.junk::.junk::.junk::.junk::.junk::.junk::.junk::.junk::.junk::.junk::.junk::.junk::.junk::.junk::.junk::.junk::.junk::.junk::.junk::.junk::.junk::.junk::.junk::.junk::.junk::.junk::.junk::.junk::.junk::.junk::.junk::.junk::.junk::.junk::.junk::.junk::.junk::.junk::.junk::.junk::.junk::.junk::.junk::.junk::.junk::.junk::[]) ⟨nx,H⟩ fun x t π'=>(x = .normal∨x = .ret)∧Gh C 0 t π' fun t π'=>∃ rs,resPs t π' [IRes.tmp 2]=some rs∧Wk (tupP rs) (.lit (.bool true)):=by
 have hIs:∀ i:Nat,i < 2 ^ 40→(itS i).size≤20:=fun i hi=>by
  have:(digs itS i).length=(itS i).size:=Array.length_toList
  rw [← this,hD,Lib.decDigits_length]
  exact Lib.nDigits_le20 i (by omega)
 have hIn:∀ i:Nat,i < 2 ^ 40→digs itS i ≠ []:=fun i _=>by rw [hD];exact dec_ne i
 have nb:∀ x:Int,neB x x=false:=fun x=>by simp [neB]
 obtain ⟨he,ho,b1,b2,hsum⟩:=readM_good s
 obtain ⟨r,hr⟩:∃ r,readM s=r:=⟨_,rfl⟩
 rw [hr] at he ho b1 b2 hsum
 obtain ⟨⟨st,lp⟩,e,at'⟩:=r
 simp only at he ho b1 b2 hsum
 have l1:=sumD_len st
 have l2:=sumD_len lp
 show PRun C 0 (.seq _ _) _ _ _
 repeat (refine PRun.wpn rfl ?_;simp only [wp,wo_p,wo_call,onO_s,pv_t,put_some,pevP,getP,setP,evsP,Nat.zero_le,true_and,resPs,resP,tupP])
 refine .refl (read_to hm hC s (by omega) ?_)
 simp only [hr]
 intro H1 hk1 w1 w2
 have hv1:=slot_or (2 + nx,st.length)
 have hv2:=slot_or (3 + nx,lp.length)
 have e1:¬ 4 + nx=4 + nx + 1:=by omega
 have hlend:lendP [(2 + nx,st),(3 + nx,lp)] [.agg [slotP (2 + nx,st.length),slotP (3 + nx,lp.length)]]=[.agg [slP st,slP lp]]:=by
  simp only [lendP,frS_cons,frS_nil,frSP_agg,frSP_slot,frSP_ne (show 3 + nx ≠ 2 + nx by omega),frSP_slP]
 generalize hg1:slotP (2 + nx,st.length)=v1 at hv1 hlend ⊢
 generalize hg2:slotP (3 + nx,lp.length)=v2 at hv2 hlend ⊢
 by_cases hlp:lp=[]
 ·obtain ⟨rfl,rfl⟩:=he hlp
  rcases hv1 with rfl | rfl <;> rcases hv2 with rfl | rfl
  all_goals
   refine POps.wp ?_
   simp only [wo_nil,wo_p,wo_n,wo_st,onO_s,onN_s,onE_s,ble0,pv_t,ov_nil,ov_cons,ov_nilS,put_some,put_none,pevP,pevN,pevE,getP,setP,spliceP,overP,plainP,isCell,look,PW.push,nthP,List.length_cons,List.length_nil,Option.map_some,Bool.and_true,↓reduceIte,ltL,lt,Nat.reduceAdd,Bool.false_eq_true,Nat.zero_add,allPlain,PW.wr,setO,killO,Bool.or_self,Bool.not_true,List.length_cons,List.length_nil]
   repeat (refine PRun.wpn rfl ?_;simp only [wp,wo_nil,wo_p,wo_g,beq_self_eq_true,onO_s,onG_t,wanted_g,wantB_b,pv_t,pv_int,put_some,bi_neq,pevP,getP,setP,Option.map_some,or_true,true_and,↓reduceIte,reduceCtorEq,neB_t (show ¬ ((51:Nat):Int)=0 by omega)])
   exact .refl ⟨_,rfl,.refl _⟩
 ·obtain ⟨rfl,rfl⟩:=ho hlp
  have hsh:=show_ok hm hC hI hIs hIn st lp hlp (by omega) (by omega) b1 b2
  have hlen:(outS itS st++[40]++oL itS true lp++[41]).length≤s.size + 3:=by
   have h1:=outS_sum hD st
   have h2:=oL_sumT hD lp
   simp only [List.length_append,List.length_cons,List.length_nil];omega
  have hrs:=fun h=>read_showL hD st lp hlp b1 b2 (show (outS itS st++[40]++oL itS true lp++[41]).length≤65536 from h)
  obtain ⟨S,hS⟩:∃ S:ByteArray,S=⟨⟨outS itS st++[40]++oL itS true lp++[41]⟩⟩:=⟨_,rfl⟩
  have hSz:S.size=(outS itS st++[40]++oL itS true lp++[41]).length:=by rw [hS];rfl
  rw [← hS] at hsh hrs
  rw [← hSz] at hlen hrs
  clear hSz hS
  have z0:=nb 0
  obtain ⟨_,_,c1,c2,csum⟩:=readM_good S
  obtain ⟨r2,hr2⟩:∃ r,readM S=r:=⟨_,rfl⟩
  rw [hr2] at c1 c2 csum hrs
  obtain ⟨⟨st2,lp2⟩,e2,at2⟩:=r2
  simp only at c1 c2 csum
  have k1:=sumD_len st2
  have k2:=sumD_len lp2
  have hsm:=sameWg hm hC st2 lp2 st lp (by omega) (by omega) (by omega) (by omega)
  have hcase:(e2=0∧decide (st2=st∧lp2=lp)=true)∨(40000:Int) < (s.size:Nat):=by
   by_cases hb:s.size≤40000
   ·have:=hrs (by omega)
    simp only [Prod.mk.injEq] at this
    obtain ⟨⟨rfl,rfl⟩,rfl,rfl⟩:=this
    exact .inl ⟨rfl,by simp⟩
   ·exact .inr (by omega)
  generalize decide (st2=st∧lp2=lp)=bb at hsm hcase
  rcases hv1 with rfl | rfl <;> rcases hv2 with rfl | rfl
  all_goals
   refine POps.wp ?_
   simp only [wo_nil,wo_p,wo_n,wo_st,onO_s,onN_s,onE_s,ble0,pv_t,ov_nil,ov_cons,ov_nilS,put_some,put_none,pevP,pevN,pevE,getP,setP,spliceP,overP,plainP,isCell,look,PW.push,nthP,List.length_cons,List.length_nil,Option.map_some,nc0,Bool.and_true,↓reduceIte,ltL,lt,Nat.reduceAdd,Bool.false_eq_true,Nat.zero_add,allPlain,PW.wr,setO,killO,Bool.or_self,Bool.not_true,List.length_cons,List.length_nil]
   repeat (refine PRun.wpn rfl ?_;simp only [wp,wo_nil,wo_p,wo_r,wo_call,onO_s,pv_t,pv_int,put_some,bi_neq,pevP,pevR,getP,setP,evsP,look,PW.cs?,cut0,cutS,List.drop_zero,Option.map_some,Option.bind_some,Nat.zero_le,true_and,↓reduceIte,Bool.false_eq_true,z0])
   refine .refl (PFun.lend hsh [(2 + nx,st),(3 + nx,lp)] (apart2 (by omega) _ _) (lend_word (w1.push _) (w2.push _)) hlend (.cons (.agg (.cons (slP_wk st) (.cons (slP_wk lp) .nil))) .nil) (by simp only [pureL,pureP,slP_pure,Bool.and_self]) ?_)
   refine POps.wp ?_
   simp only [wo_call,pv_t,put_some,setP,evsP,Nat.zero_le,true_and]
   refine .refl (read_to hm hC S (by omega) ?_)
   simp only [hr2]
   intro H2 hk2 x1 x2
   have y1:Wd H2 (4 + (4 + nx + 1)) (2 + nx) st:=fun h=>⟨by omega,hk2 _ _ (by omega) ((w1.push _) h).2⟩
   have y2:Wd H2 (4 + (4 + nx + 1)) (3 + nx) lp:=fun h=>⟨by omega,hk2 _ _ (by omega) ((w2.push _) h).2⟩
   have hbx:=hk2 (4 + nx) _ (by omega) (by simp only [look,if_true];rfl)
   have hu1:=slot_or (2 + (4 + nx + 1),st2.length)
   have hu2:=slot_or (3 + (4 + nx + 1),lp2.length)
   have f1:¬ 4 + nx=4 + (4 + nx + 1):=by omega
   have hlend2:lendP [(2 + (4 + nx + 1),st2),(3 + (4 + nx + 1),lp2),(2 + nx,st),(3 + nx,lp)] [.agg [slotP (2 + (4 + nx + 1),st2.length),slotP (3 + (4 + nx + 1),lp2.length)],.agg [slotP (2 + nx,st.length),slotP (3 + nx,lp.length)]]=[.agg [slP st2,slP lp2],.agg [slP st,slP lp]]:=by
    simp only [lendP,frS_cons,frS_nil,frSP_agg,frSP_slot,frSP_ne (show 3 + nx ≠ 2 + nx by omega),frSP_ne (show 3 + nx ≠ 2 + (4 + nx + 1) by omega),frSP_ne (show 3 + nx ≠ 3 + (4 + nx + 1) by omega),frSP_ne (show 2 + nx ≠ 2 + (4 + nx + 1) by omega),frSP_ne (show 2 + nx ≠ 3 + (4 + nx + 1) by omega),frSP_ne (show 3 + (4 + nx + 1) ≠ 2 + (4 + nx + 1) by omega),frSP_slP]
   generalize slotP (2 + (4 + nx + 1),st2.length)=u1 at hu1 hlend2 ⊢
   generalize slotP (3 + (4 + nx + 1),lp2.length)=u2 at hu2 hlend2 ⊢
   rw [hg1,hg2] at hlend2
   have hapart:=apart4 (i1:=2 + (4 + nx + 1)) (i2:=3 + (4 + nx + 1)) (i3:=2 + nx) (i4:=3 + nx) (by omega) (by omega) (by omega) (by omega) (by omega) (by omega) st2 lp2 st lp
   rcases hu1 with rfl | rfl <;> rcases hu2 with rfl | rfl
   all_goals
    refine POps.wp ?_
    simp only [wo_nil,wo_p,wo_n,wo_st,onO_s,onN_s,onE_s,ble0,pv_t,ov_nil,ov_cons,ov_nilS,put_some,put_none,pevP,pevN,pevE,getP,setP,spliceP,overP,plainP,isCell,look,PW.push,nthP,List.length_cons,List.length_nil,Option.map_some,Bool.and_true,↓reduceIte,ltL,lt,Nat.reduceAdd,Bool.false_eq_true,Nat.zero_add,allPlain,PW.wr,setO,killO,Bool.or_self,Bool.not_true,List.length_cons,List.length_nil]
    repeat (refine PRun.wpn rfl ?_;simp only [wp,wo_r,wo_call,onO_s,pv_t,put_some,pevR,getP,setP,evsP,look,PW.cs?,cut0,cutS,List.drop_zero,Option.map_some,Option.bind_some,Nat.zero_le,true_and,↓reduceIte,hbx,f1])
    refine .refl (PFun.lend hsm _ hapart (lend_word2 (x1.push _) (x2.push _) (y1.push _) (y2.push _)) hlend2 (.cons (.agg (.cons (slP_wk st2) (.cons (slP_wk lp2) .nil))) (.cons (.agg (.cons (slP_wk st) (.cons (slP_wk lp) .nil))) .nil)) (by simp only [pureL,pureP,slP_pure,Bool.and_self]) ?_)
    refine POps.wp ?_
    rcases hcase with ⟨rfl,rfl⟩ | hbig
    ·simp only [wo_nil,wo_p,onO_s,pv_t,put_some,pevP,getP,setP,nc0]
     repeat (refine PRun.wpn rfl ?_;simp only [wp,wo_nil,wo_p,wo_g,beq_self_eq_true,onO_s,onG_t,onG_f,wanted_g,wantB_b,b_tf,pv_t,pv_int,pv_bool,put_some,bi_eql,pevP,getP,setP,Option.map_some,or_true,true_and,reduceCtorEq,eqB_t (show (0:Int)=0 from rfl)])
     exact .refl ⟨_,rfl,.refl _⟩
    ·cases bb
     ·by_cases he0:((e2:Nat):Int)=0
      ·simp only [wo_nil,wo_p,onO_s,pv_t,put_some,pevP,getP,setP]
       repeat (refine PRun.wpn rfl ?_;simp only [wp,wo_nil,wo_p,wo_g,beq_self_eq_true,onO_s,onG_t,wanted_g,wantB_b,pv_t,pv_int,put_some,bi_eql,bi_gtr,pevP,getP,setP,Option.map_some,or_true,true_and,reduceCtorEq,eqB_t he0,ltB_t hbig])
       exact .refl ⟨_,rfl,.refl _⟩
      ·simp only [wo_nil,wo_p,onO_s,pv_t,put_some,pevP,getP,setP]
       repeat (refine PRun.wpn rfl ?_;simp only [wp,wo_nil,wo_p,wo_g,beq_self_eq_true,onO_s,onG_t,onG_f,wanted_g,wantB_b,b_ft,pv_t,pv_int,pv_bool,put_some,bi_eql,bi_gtr,pevP,getP,setP,Option.map_some,or_true,true_and,reduceCtorEq,eqB_f he0,ltB_t hbig])
       exact .refl ⟨_,rfl,.refl _⟩
     ·by_cases he0:((e2:Nat):Int)=0
      ·simp only [wo_nil,wo_p,onO_s,pv_t,put_some,pevP,getP,setP]
       repeat (refine PRun.wpn rfl ?_;simp only [wp,wo_nil,wo_p,wo_g,beq_self_eq_true,onO_s,onG_t,onG_f,wanted_g,wantB_b,b_tf,pv_t,pv_int,pv_bool,put_some,bi_eql,pevP,getP,setP,Option.map_some,or_true,true_and,reduceCtorEq,eqB_t he0])
       exact .refl ⟨_,rfl,.refl _⟩
      ·simp only [wo_nil,wo_p,onO_s,pv_t,put_some,pevP,getP,setP]
       repeat (refine PRun.wpn rfl ?_;simp only [wp,wo_nil,wo_p,wo_g,beq_self_eq_true,onO_s,onG_t,onG_f,wanted_g,wantB_b,b_ft,pv_t,pv_int,pv_bool,put_some,bi_eql,bi_gtr,pevP,getP,setP,Option.map_some,or_true,true_and,reduceCtorEq,eqB_f he0,ltB_t hbig])
       exact .refl ⟨_,rfl,.refl _⟩
end
end Go.Proofs.YtkldgoapompinaaDoor.Ai
namespace Go.Proofs.YtkldgoapompinaaDoor.Ai
open Go
set_option linter.unusedVariables false
set_option linter.unusedSectionVars false
set_option maxRecDepth 10000
set_option maxHeartbeats 4000000
theorem nm_lit (b:Nat) (u:Value):nmP b (.lit u)=true:=by simp only [nmP]
theorem nm_sz (b:Nat) (cs:List PV) (n:Nat):nmP b (.sz cs n)=true:=by simp only [nmP]
section
variable {C:Ctx} (hm:C.P.follows .mixedOrders=true) (hC:TabOK C.P C.ng C.ts Tryd.tab)
include hm hC
theorem reads_top {itS:Nat→ByteArray} (hw:PFun C 12 [] (.lit (.bool true))) (hI:∀ i:Nat,i < 2 ^ 40→PFun C 58 [.lit (.int .i64 (i:Nat))] (.lit (.string (itS i)))) (hD:∀ i,digs itS i=Lib.decDigits i)
  (s:ByteArray) (hs:s.size < 2 ^ 60):PTop C Tryd.tab 10 [.lit (.string s)] (.lit (.bool true)):=by
 have nb:∀ x:Int,neB x x=false:=fun x=>by simp [neB]
 by_cases hbig:(4194304:Int) < (s.size:Nat)
 ·refine PTop.body (show Tryd.tab.get 10=some Tryd.c10 from rfl) ?_
  simp only [Tryd.c10,startP,List.length_cons,List.length_nil,Nat.reduceAdd,Nat.reduceSub,List.replicate,List.cons_append,List.nil_append]
  repeat (refine PRun.wpn rfl ?_;simp only [wp,wo_nil,wo_p,wo_call,onO_s,pv_bool,put_some,pevP,setP,evsP,PW.none,Nat.zero_le,true_and,resPs,resP,tupP])
  refine .refl (PFun.to (hw) rfl (POps.wp ?_))
  simp only [wo_nil,wo_p,onO_s,pv_t,put_some,pevP,getP,setP]
  repeat (refine PRun.wpn rfl ?_;simp only [wp,wo_nil,wo_p,onO_s,pv_t,pv_int,put_some,bi_gtr,pevP,getP,setP,Option.map_some,or_true,true_and,↓reduceIte,reduceCtorEq,ltB_t hbig])
  exact .refl ⟨_,rfl,.refl _⟩
 have hrR:=readR_ok hm hC s (by omega)
 obtain ⟨he,ho,b1,b2,hsum⟩:=readM_good s
 obtain ⟨r,hr⟩:∃ r,readM s=r:=⟨_,rfl⟩
 rw [hr] at he ho b1 b2 hsum hrR
 obtain ⟨⟨st,lp⟩,e,at'⟩:=r
 simp only at he ho b1 b2 hsum hrR
 have l1:=sumD_len st
 have l2:=sumD_len lp
 have hsm:=sameWg hm hC st lp st lp (by omega) (by omega) (by omega) (by omega)
 rw [show decide (st=st∧lp=lp)=true from by simp] at hsm
 refine PTop.body (show Tryd.tab.get 10=some Tryd.c10 from rfl) ?_
 simp only [Tryd.c10,startP,List.length_cons,List.length_nil,Nat.reduceAdd,Nat.reduceSub,List.replicate,List.cons_append,List.nil_append]
 repeat (refine PRun.wpn rfl ?_;simp only [wp,wo_nil,wo_p,wo_call,onO_s,pv_bool,put_some,pevP,setP,evsP,PW.none,Nat.zero_le,true_and,resPs,resP,tupP])
 refine .refl (PFun.to (hw) rfl (POps.wp ?_))
 simp only [wo_nil,wo_p,onO_s,pv_t,put_some,pevP,getP,setP]
 repeat (refine PRun.wpn rfl ?_;simp only [wp,wo_nil,wo_p,wo_call,onO_s,pv_t,pv_int,put_some,bi_gtr,pevP,getP,setP,evsP,Option.map_some,Nat.zero_le,true_and,↓reduceIte,Bool.false_eq_true,ltB_f hbig])
 refine .refl (PFun.to (hrR) rfl (POps.wp ?_))
 simp only [wo_nil,wo_p,wo_n,wo_st,onO_s,onN_s,onE_s,ble_self,ble_succ,pv_t,ov_nil,ov_cons,ov_nilS,put_some,put_none,pevP,pevN,pevE,getP,setP,spliceP,overP,plainP,look,PW.push,nthP,List.length_cons,List.length_nil,Option.map_some,Bool.and_true,↓reduceIte,ltL,lt,Nat.reduceAdd,Bool.false_eq_true,Nat.zero_add,allPlain,PW.wr,setO,killO,Bool.or_self,Bool.not_true,List.length_cons,List.length_nil]
 repeat (refine PRun.wpn rfl ?_;simp only [wp,wo_nil,wo_p,wo_n,onO_s,onN_s,ble_succ,pv_t,pv_int,ov_nil,ov_cons,ov_nilS,put_some,pevP,pevN,getP,setP,fillP,boxP,PW.push,Option.map_some,Bool.and_true,↓reduceIte,reduceCtorEq,ltL,lt,Nat.reduceAdd])
 refine PRun.gh (Gh.mask (true::false::false::true::true::true::true::true::true::false::false::false::false::false::false::false::false::false::false::false::false::false::false::false::false::false::false::false::false::false::false::false::false::false::false::false::false::false::false::false::false::false::false::false::false::false::false::false::false::false::false::false::false::false::false::false::false::false::false::false::false::false::false::false::false::false::false::false::false::false::false::false::false::false::false::false::false::false::false::false::false::false::false::false::false::false::false::false::false::false::false::false::false::false::false::false::false::false::false::false::false::false::[]) ?_)
 simp only [↓reduceIte,Bool.false_eq_true,maskP]
 refine PRun.loopG (fun m t π=>∃ (i nx j:Nat) (H:List (Nat × PObj)) (ps:List (Nat × Nat)),t=(.lit (.string s)::.junk::.junk::.lit (.bool true)::.ptr 0 0::.lit (.int .i64 (e:Nat))::.lit (.int .i64 (at':Nat))::.ptr 1 0::.lit (.int .i64 (i:Nat))::.junk::.junk::.junk::.junk::.junk::.junk::.junk::.junk::.junk::.junk::.junk::.junk::.junk::.junk::.junk::.junk::.junk::.junk::.junk::.junk::.junk::.junk::.junk::.junk::.junk::.junk::.junk::.junk::.junk::.junk::.junk::.junk::.junk::.junk::.junk::.junk::.junk::.junk::.junk::.junk::.junk::.junk::.junk::.junk::.junk::.junk::.junk::.junk::.junk::.junk::.junk::.junk::.junk::.junk::.junk::.junk::.junk::.junk::.junk::.junk::.junk::.junk::.junk::.junk::.junk::.junk::.junk::.junk::.junk::.junk::.junk::.junk::.junk::.junk::.junk::.junk::.junk::.junk::.junk::.junk::.junk::.junk::.junk::.junk::.junk::.junk::.junk::.junk::.junk::.junk::.junk::.junk::.junk::[])∧i≤2∧m=2 - i∧π=⟨nx,H⟩∧ps.length=2 * i∧2≤nx∧look H 0=some (.cells [.sz (N16 st) st.length,.sz (N16 lp) lp.length] 25 2 true false [])∧BookI H nx 1 j ps) ?_ 2 _ _ ⟨0,2,0,_,[],rfl,by omega,rfl,rfl,rfl,by omega,rfl,⟨by omega,_,rfl⟩,fun h=>absurd rfl h,fun i p hp=>by simp at hp,fun i i' p p' hp=>by simp at hp,fun i p hp=>by simp at hp⟩
 rintro m t π ⟨i,nx,j,H,ps,rfl,hi,rfl,rfl,hps,hnx,hH0,hB⟩
 by_cases hlt:(i:Int) < 2
 ·have w1:IntKind.i64.wrap (((i:Nat):Int) + 1)=((i + 1:Nat):Int):=by rw [wrap64 (by omega) (by omega)];omega
  repeat (refine PRun.wpn rfl ?_;simp only [wp,wo_nil,wo_p,wo_call,onO_s,pv_t,pv_int,put_some,bi_lss,pevP,getP,setP,evsP,Option.map_some,Nat.zero_le,true_and,↓reduceIte,ltB_t hlt])
  refine .refl (read_to hm hC s (by omega) ?_)
  simp only [hr]
  intro H1 hk1 x1 x2
  have hv1:=slot_or (2 + nx,st.length)
  have hv2:=slot_or (3 + nx,lp.length)
  have hH1:=hk1 0 _ (by omega) hH0
  have hB1:BookI H1 (4 + nx) 1 j ps:=hB.keep (by omega) hk1
  have e0:¬ 0=4 + nx:=by omega
  have hlend:lendP [(2 + nx,st),(3 + nx,lp)] [.agg [slotP (2 + nx,st.length),slotP (3 + nx,lp.length)],.agg [.sz (N16 st) st.length,.sz (N16 lp) lp.length]]=[.agg [slP st,slP lp],.agg [.sz (N16 st) st.length,.sz (N16 lp) lp.length]]:=by
   simp only [lendP,frS_cons,frS_nil,frSP_agg,frSP_slot,frSP_ne (show 3 + nx ≠ 2 + nx by omega),frSP_slP,frSP_sz]
  have hold:∀ q∈ps,q.2 ≠ 0→q.1 < nx:=fun q hq h0=>by
   obtain ⟨i,hi⟩:=List.mem_iff_getElem?.1 hq
   exact (hB.lst i q hi h0).2.1
  have hps1:ps.length + 1 < 2 ^ 30:=by omega
  have hword:=fun o=>word_b hm hC (4 + nx + 1) (4 + nx + 1) 1 j ps (2 + nx,st.length) (3 + nx,lp.length) ((4 + nx,o)::H1) (Nat.le_refl _) (hB1.push o) hps1 (l1:=N16 st) (l2:=N16 lp)
   (fun h0=>by
    have hne:st ≠ []:=fun e=>h0 (by rw [e];rfl)
    exact ⟨by show 1 < 2 + nx;omega,by show 2 + nx < 4 + nx + 1;omega,by show st.length < 2 ^ 36;omega,N16_len st,((x1.push o) hne).2,fun q hq h1=>by have:=hold q hq h1;show q.1 ≠ 2 + nx;omega⟩)
   (fun h0=>by
    have hne:lp ≠ []:=fun e=>h0 (by rw [e];rfl)
    exact ⟨by show 1 < 3 + nx;omega,by show 3 + nx < 4 + nx + 1;omega,by show lp.length < 2 ^ 36;omega,N16_len lp,((x2.push o) hne).2,fun q hq h1=>by have:=hold q hq h1;show q.1 ≠ 3 + nx;omega⟩)
   (by show 2 + nx ≠ 3 + nx;omega)
  have s1:nmP (4 + nx + 1) (slotP (2 + nx,st.length))=true:=nm_slot fun _=>by show 2 + nx < 4 + nx + 1;omega
  have s2:nmP (4 + nx + 1) (slotP (3 + nx,lp.length))=true:=nm_slot fun _=>by show 3 + nx < 4 + nx + 1;omega
  have n0:Nat.blt 0 (4 + nx + 1)=true:=by rw [Nat.blt_eq];omega
  have n1:Nat.blt 1 (4 + nx + 1)=true:=by rw [Nat.blt_eq];omega
  have n4:Nat.blt (4 + nx) (4 + nx + 1)=true:=by rw [Nat.blt_eq];omega
  generalize hg1:slotP (2 + nx,st.length)=v1 at hv1 hlend s1 hword ⊢
  generalize hg2:slotP (3 + nx,lp.length)=v2 at hv2 hlend s2 hword ⊢
  rcases hv1 with rfl | rfl <;> rcases hv2 with rfl | rfl
  all_goals
   refine POps.wp ?_
   simp only [wo_nil,wo_p,wo_n,wo_st,onO_s,onN_s,onE_s,ble0,pv_t,ov_nil,ov_cons,ov_nilS,put_some,put_none,pevP,pevN,pevE,getP,setP,spliceP,overP,plainP,isCell,look,PW.push,nthP,List.length_cons,List.length_nil,Option.map_some,Bool.and_true,↓reduceIte,ltL,lt,Nat.reduceAdd,Bool.false_eq_true,Nat.zero_add,allPlain,PW.wr,setO,killO,Bool.or_self,Bool.not_true,List.length_cons,List.length_nil]
   repeat (refine PRun.wpn rfl ?_;simp only [wp,wo_r,wo_call,onO_s,pv_t,put_some,pevR,getP,setP,evsP,look,PW.cs?,cut0,cutS,List.drop_zero,Option.map_some,Option.bind_some,Nat.zero_le,true_and,↓reduceIte,hH1,e0])
   refine .refl (PFun.lend hsm [(2 + nx,st),(3 + nx,lp)] (apart2 (by omega) _ _) (lend_word (x1.push _) (x2.push _)) hlend (.cons (.agg (.cons (slP_wk st) (.cons (slP_wk lp) .nil))) (.cons (.refl _) .nil)) (by simp only [pureL,pureP,slP_pure,Bool.and_self]) ?_)
   refine POps.wp ?_
   simp only [wo_nil,wo_p,onO_s,pv_t,put_some,pevP,getP,setP]
   repeat (refine PRun.wpn rfl ?_;simp only [wp,wo_nil,wo_p,wo_r,wo_call,wo_g,beq_self_eq_true,onO_s,onG_t,wanted_g,wantB_b,pv_t,put_some,bi_neq,pevP,pevR,getP,setP,evsP,look,PW.cs?,cut0,cutS,List.drop_zero,Option.map_some,Option.bind_some,Nat.zero_le,true_and,↓reduceIte,Bool.false_eq_true,Bool.not_true,nb])
   refine .refl (PToE.mono (PToB.toE (hword _) (by simp only [nmL,nm_ptr,nm_agg,nm_tup,nm_junk,nm_lit,nm_sz,n0,n1,n4,s1,s2,Bool.and_self]) (by omega)) ?_)
   rintro r _ ⟨rfl,H3,rfl,hB3,hk3⟩
   refine POps.wp ?_
   simp only [wo_nil,setP,tupP]
   repeat (refine PRun.wpn rfl ?_;simp only [wp,wo_nil,wo_p,onO_s,pv_t,pv_int,put_some,bi_add,pevP,getP,setP,Option.map_some,w1])
   refine Gh.mask (true::false::false::true::true::true::true::true::true::false::false::false::false::false::false::false::false::false::false::false::false::false::false::false::false::false::false::false::false::false::false::false::false::false::false::false::false::false::false::false::false::false::false::false::false::false::false::false::false::false::false::false::false::false::false::false::false::false::false::false::false::false::false::false::false::false::false::false::false::false::false::false::false::false::false::false::false::false::false::false::false::false::false::false::false::false::false::false::false::false::false::false::false::false::false::false::false::false::false::false::false::false::[]) ?_
   exact ⟨2 - (i + 1),by omega,i + 1,_,_,H3,_,rfl,by omega,rfl,rfl,by simp only [List.length_append,List.length_cons,List.length_nil];omega,by omega,hk3 0 _ (by omega) (by omega) (fun h0=>by have:=(hB.arr h0).1;omega) (look_push hH1 (by omega)),hB3⟩
 ·obtain rfl:i=2:=by omega
  have hlt':¬ (2:Int) < 2:=by omega
  have hown:=book_own_g hm hC 1 nx j ps H hB (fun e=>by rw [e] at hps;simp at hps) (by omega)
  have n0:Nat.blt 0 nx=true:=by rw [Nat.blt_eq];omega
  have n1:Nat.blt 1 nx=true:=by rw [Nat.blt_eq];omega
  repeat (refine PRun.wpn rfl ?_;simp only [wp,wo_nil,wo_p,wo_call,onO_s,pv_t,pv_int,put_some,bi_lss,pevP,getP,setP,evsP,Option.map_some,Nat.zero_le,nc2,true_and,↓reduceIte,Nat.reduceSub,Bool.false_eq_true,ltB_f hlt'])
  refine .refl (PToE.mono (PToB.toE hown (by simp only [nmL,nm_ptr,nm_junk,nm_lit,n0,n1,Bool.and_self]) (by omega)) ?_)
  rintro r ⟨nx',H'⟩ rfl
  refine POps.wp ?_
  simp only [wo_nil,wo_p,onO_s,pv_t,put_some,pevP,getP,setP]
  refine PRun.gh (Gh.mask (true::false::false::true::false::false::false::false::false::false::false::false::false::true::false::false::false::false::false::false::false::false::false::false::false::false::false::false::false::false::false::false::false::false::false::false::false::false::false::false::false::false::false::false::false::false::false::false::false::false::false::false::false::false::false::false::false::false::false::false::false::false::false::false::false::false::false::false::false::false::false::false::false::false::false::false::false::false::false::false::false::false::false::false::false::false::false::false::false::false::false::false::false::false::false::false::false::false::false::false::false::false::[]) ?_)
  simp only [↓reduceIte,Bool.false_eq_true,maskP]
  exact reads_tail hm hC hI hD s (by omega) nx' H'
end
end Go.Proofs.YtkldgoapompinaaDoor.Ai
