/- A PART OF THE PROOF: a step of the proof that the law's code does what its contracts say, by an interpreter of the program's functions that is proved to be sound. -/
import Derived.Test.YtnpoloachkcadaaGreatDoorAi1
import Derived.Lib.UnsafeStr
import Derived.Orders
import Derived.CheckFast
namespace Go.Proofs.YtnpoloachkcadaaGreatDoor.Ai
open Go
set_option linter.unusedSimpArgs false
section
variable {P:Program} {ng:Nat} {ts:List TypeId} {N0:Bs} {μ μ':Nat→Loc} {σ σ':AW} {w w':World} {e:List Value}
theorem wrN_sound (h:Rep P ng ts N0 μ σ w) {i off:Nat} {vs:List Value} (hw:σ.wrN i off vs=some σ') (hl:ltL σ.next vs=true) :
  ∃ w',(storeCells ⟨(μ i).blk,(μ i).sh + off,none⟩ (concL μ vs)).run P w = .ok () w'∧Rep P ng ts N0 μ σ' w'∧Goes μ σ w μ σ' w':=by
 unfold AW.wrN at hw
 split at hw
 ·rename_i b hb
  split at hw
  ·simp at hw
  ·rename_i hc
   simp only [Bool.or_eq_true,Bool.not_eq_true',not_or,Bool.not_eq_true,Bool.not_eq_false] at hc
   obtain ⟨⟨⟨hro,hret⟩,hfz⟩,hcells⟩:=hc
   split at hw
   ·rename_i cs hcs
    simp at hw;subst hw
    have hi:=cells?_some.1 hb
    have hcr:=h.cells hb
    obtain ⟨C,fr,hC1,hC2,hC3⟩:=hcr.mine (by simpa using hro)
    obtain ⟨hs1,hs2,hs3⟩:=spliceV_some _ _ _ _ hcs
    obtain ⟨w',hrun,hput⟩:∃ w',(storeCells ⟨(μ i).blk,(μ i).sh + off,none⟩ (concL μ vs)).run P w = .ok () w'∧RowPut w w' (μ i).blk ((μ i).sh + off) (concL μ vs) C b.ty fr:=by
     rcases hs1 with rfl | hs1
     ·exact ⟨w,by simp [concL,storeCells],rfl,⟨C,hC1,rfl,fun k=>by simp [concL];intro h1 h2;omega⟩,fun _ _=>rfl,rfl,rfl,rfl⟩
     ·refine run_storeRow hC1 (by rw [concL_length];omega) ?_ (allCells_conc μ hcells)
      intro j hj
      rw [concL_length] at hj
      exact hcr.fz hfz _ (by omega) (by omega)
    refine ⟨w',hrun,?_⟩
    obtain ⟨C',hC1',hC2',hC3'⟩:=hput.row
    refine h.update hi hro hret hro rfl hput.os hput.tape hput.output hput.size hput.other ⟨splice_lt hcs hcr.l hl,hcr.ex,hcr.sh0,?_,C',_,fr,hC1',fun _=>⟨rfl,?_⟩,?_,?_⟩
    ·intro hf k hk1 hk2
     have hk2':k < (μ i).sh + b.cs.length + (μ i).ex * b.esz:=by rw [← hs2];exact hk2
     have:=hcr.fz hfz k hk1 hk2'
     simp only [World.frozen?,hC1] at this
     simp only [World.frozen?,hC1']
     exact this
    ·simp only;rw [hC2',hC2,hs2]
    ·simp only;rw [hC2',hC2,hs2];omega
    ·intro k v hk
     rw [hs3 k] at hk
     rw [hC3']
     simp only [concL_length,concL_getElem?]
     by_cases hkk:off≤k∧k < off + vs.length
     ·rw [if_pos hkk] at hk
      have hlen:k < cs.length:=by
       rcases hs1 with h0 | hs1
       ·rw [h0] at hkk;simp at hkk;omega
       ·omega
      rw [if_pos ⟨by omega,by omega,by omega⟩,show (μ i).sh + k - ((μ i).sh + off)=k - off by omega,hk]
      rfl
     ·rw [if_neg hkk] at hk
      rw [if_neg (by omega)]
      exact hC3 k v hk
   ·simp at hw
 ·simp at hw
def ESound (P:Program) (ng:Nat) (ts:List TypeId) (N0:Bs) (μ:Nat→Loc) (σ:AW) (e:List Value) (o:Oper) (v:Value) (σ':AW) (w:World):Prop:=
 ∃ μ' w' nx,Rep P ng ts N0 μ' σ' w'∧Goes μ σ w μ' σ' w'∧lt σ'.next v=true∧(execOp (evc μ e) o).run P w = .ok nx w'∧(nx = .value (conc μ' v)∨nx = .skip∧v=undef)
theorem sE_st (h:Rep P ng ts N0 μ σ w) (he:ltL σ.next e=true) {K:Ks} {o:Oper} {t:TypeId} {k:Nat} {a x:Operand} (hop:o.op = .store t a x) (ht:szOf P t=some k) (ha:okOpd ng a=true) (hx:okOpd ng x=true)
  {v:Value} (hv:runE K e σ (.st k (cOpd a) (cOpd x))=some (.ret v,σ')):ESound P ng ts N0 μ σ e o v σ' w:=by
 obtain ⟨_,hca,hla⟩:=opV (e:=e) h.glob h.ngn he ha
 obtain ⟨_,hcx,hlx⟩:=opV (e:=e) h.glob h.ngn he hx
 simp only [runE] at hv
 generalize (cOpd a).ev e=A at hv hca hla
 generalize (cOpd x).ev e=X at hv hcx hlx
 split at hv
 ·rename_i a'
  split at hv
  ·rename_i hlen
   simp only [Option.map_eq_some_iff,Prod.mk.injEq,IRet.ret.injEq] at hv
   obtain ⟨σ1,hw,rfl,rfl⟩:=hv
   rw [lt_psome] at hla
   obtain ⟨w',hrun,hrep,hgo⟩:=wrN_sound h hw (cellsOf_lt hlx)
   refine ⟨μ,w',.skip,hrep,hgo,lt_undef _,?_,.inr ⟨rfl,rfl⟩⟩
   have hsz:(conc μ X).cells.size=k:=by rw [← Array.length_toList,cells_conc,concL_length,hlen]
   have hl:(conc μ X).cells.toList=concL μ (cellsOf X):=cells_conc X
   simp only [execOp,hop,hca,hcx,conc_psome,Instr.storeAt,Instr.sureAddr,Sem.run_bind,Sem.run_pure,Result.andThen_ok,storeVar,run_sz ht]
   rw [if_neg (by simpa using hsz),hl,cAddr_eta μ a' hla.2,hrun]
   simp
  ·simp at hv
 ·simp at hv
end
end Go.Proofs.YtnpoloachkcadaaGreatDoor.Ai
namespace Go.Proofs.YtnpoloachkcadaaGreatDoor.Ai
open Go
set_option linter.unusedSimpArgs false
section
variable {P:Program} {ng:Nat} {ts:List TypeId} {N0:Bs} {μ μ':Nat→Loc} {σ σ':AW} {w w':World} {e:List Value}
theorem Rep.join (h:Rep P ng ts N0 μ σ w) {i:Nat} {b:CB} (hi:σ.heap.get i=some (.cells b)) (hro:b.ro=false) {H:Tr Blk} {nb:CB} (hnro:nb.ro=false) (hm:σ.next < most σ.next)
  (hH:∀ k c,H.get k=some c→(k ≠ i∧σ.heap.get k=some c)∨(k=i∧c = .cells {b with retired:=true }))
  {loc:Loc} (hloc:loc.blk=(μ i).blk) (hnal:∀ j∈nb.al,j < σ.next∧∀ bj,H.get j=some bj→∃ cj,bj = .cells cj∧cj.retired=true∧cj.ro=false)
  (hos:w'.os=w.os) (htp:w'.tape=w.tape) (hout:w'.output=w.output) (hsz:w'.heap.size=w.heap.size) (hoth:∀ j,j ≠ (μ i).blk→w'.heap[j]? = w.heap[j]?)
  (hsame:∀ j c,H.get j=some c→isRo c=false→(μ j).blk=(μ i).blk→BRep P ng ts μ σ.next j w' c∧∃ cj,c = .cells cj∧j∈nb.al∧cj.retired=true∧(μ j).sh + cj.cs.length≤loc.sh + nb.cs.length)
  (hb:CellsRep (upd μ σ.next loc) (σ.next + 1) σ.next nb w') :
  Rep P ng ts N0 (upd μ σ.next loc) {next:=σ.next + 1,heap:=H.set σ.next (.cells nb) } w'∧Goes μ σ w (upd μ σ.next loc) {next:=σ.next + 1,heap:=H.set σ.next (.cells nb) } w':=by
 have hget:∀ k,(H.set σ.next (.cells nb)).get k=if k=σ.next then some (.cells nb) else H.get k:=fun k=>Tr.get_set _ _ _ _ (by unfold most at hm;omega)
 have hiown:=h.own i _ hi (by simp [isRo,hro])
 have hold:∀ k c,H.get k=some c→∃ c0,σ.heap.get k=some c0∧isRo c0=isRo c:=by
  intro k c hk
  rcases hH k c hk with ⟨_,h1⟩ | ⟨rfl,rfl⟩
  ·exact ⟨c,h1,rfl⟩
  ·exact ⟨_,hi,rfl⟩
 have hlt:∀ k c,H.get k=some c→k < σ.next∧k < most k:=by
  intro k c hk
  obtain ⟨c0,h1,_⟩:=hold k c hk
  exact ⟨(h.blk k c0 h1).1,(h.blk k c0 h1).2.1⟩
 have hagr:∀ k,k < σ.next→upd μ σ.next loc k=μ k:=fun k hk=>upd_ne _ _ (by omega)
 refine ⟨⟨?_,?_,?_,?_,?_,?_,?_,⟨by rw [hsz];exact h.big.1,fun B hB=>by have:=hiown.1;rw [hoth B (by omega)];exact h.big.2 B hB⟩⟩,⟨by simp,hagr,hos,htp,hout,by omega,?_,?_⟩⟩
 ·exact ⟨fun g hg=>by rw [hagr g (Nat.lt_of_lt_of_le hg h.ngn)];exact h.glob.out g hg⟩
 ·have:=h.ngn;simp;omega
 ·intro k c hk
  rw [hget] at hk
  split at hk
  ·rename_i hks;subst hks;simp at hk;subst hk
   exact ⟨by simp,hm,hb⟩
  ·obtain ⟨h1,h2⟩:=hlt k c hk
   refine ⟨by simp;omega,h2,?_⟩
   by_cases hB:(μ k).blk=(μ i).blk
   ·cases hr:isRo c with
    | false=>
     have:=(hsame k c hk hr hB).1
     exact this.mono hagr h1 (by simp) rfl
    | true=>
     obtain ⟨c0,h3,h4⟩:=hold k c hk
     have:=h.ro k c0 h3 (h4.trans hr)
     omega
   ·rcases hH k c hk with ⟨_,h3⟩ | ⟨rfl,_⟩
    ·exact (h.blk k c h3).2.2.mono hagr h1 (by simp) (hoth _ hB)
    ·exact absurd rfl hB
 ·intro k c hk hr
  rw [hget] at hk
  split at hk
  ·rename_i hks;subst hks
   rw [upd_same,hloc,hsz];exact hiown
  ·obtain ⟨c0,h3,h4⟩:=hold k c hk
   rw [hagr k (hlt k c hk).1,hsz]
   exact h.own k c0 h3 (h4.trans hr)
 ·intro k c hk hr
  rw [hget] at hk
  split at hk
  ·simp at hk;subst hk;simp [isRo,hnro] at hr
  ·obtain ⟨c0,h3,h4⟩:=hold k c hk
   rw [hagr k (hlt k c hk).1]
   exact h.ro k c0 h3 (h4.trans hr)
 ·intro k j bk bj hk hj hrk hrj hkj he
  rw [hget] at hk hj
  split at hk
  ·rename_i hks
   split at hj
   ·omega
   ·have:=(hlt j bj hj).1;omega
  ·split at hj
   ·rename_i hjs;subst hjs
    simp at hj;subst hj
    rw [upd_same,hagr k (hlt k bk hk).1,hloc] at he
    obtain ⟨ck,e1,e2,e3,e4⟩:=(hsame k bk hk hrk he).2
    refine ⟨ck,nb,e1,rfl,e2,e3,?_⟩
    rw [upd_same,hagr k (hlt k bk hk).1]
    exact e4
   ·rw [hagr k (hlt k bk hk).1,hagr j (hlt j bj hj).1] at he ⊢
    obtain ⟨ck0,g1,g2⟩:=hold k bk hk
    obtain ⟨cj0,g3,g4⟩:=hold j bj hj
    obtain ⟨ci,cj,e1,e2,e3,e4,e5⟩:=h.dis k j ck0 cj0 g1 g3 (g2.trans hrk) (g4.trans hrj) hkj he
    subst e1 e2
    rcases hH k bk hk with ⟨n1,h1⟩ | ⟨rfl,rfl⟩
    ·rw [h1] at g1;simp at g1;subst g1
     rcases hH j bj hj with ⟨n2,h2⟩ | ⟨rfl,rfl⟩
     ·rw [h2] at g3;simp at g3;subst g3
      exact ⟨ci,cj,rfl,rfl,e3,e4,e5⟩
     ·rw [hi] at g3;simp at g3;subst g3
      exact ⟨ci,_,rfl,rfl,e3,e4,e5⟩
    ·rw [hi] at g1;simp at g1;subst g1
     rcases hH j bj hj with ⟨n2,h2⟩ | ⟨rfl,rfl⟩
     ·rw [h2] at g3;simp at g3;subst g3
      exact ⟨_,cj,rfl,rfl,e3,rfl,e5⟩
     ·omega
 ·intro j cj hj k hk
  rw [hget] at hj
  split at hj
  ·rename_i hjs;subst hjs
   simp at hj;subst hj
   obtain ⟨h1,h2⟩:=hnal k hk
   refine ⟨h1,fun bk hbk=>?_⟩
   rw [hget,if_neg (by omega)] at hbk
   exact h2 bk hbk
  ·obtain ⟨c0,g1,g2⟩:=hold j _ hj
   have hal:∃ c1,σ.heap.get j=some (.cells c1)∧c1.al=cj.al:=by
    rcases hH j _ hj with ⟨_,h3⟩ | ⟨rfl,h3⟩
    ·exact ⟨cj,h3,rfl⟩
    ·simp at h3;subst h3;exact ⟨b,hi,rfl⟩
   obtain ⟨c1,hc1,hc2⟩:=hal
   obtain ⟨h1,h2⟩:=h.al j c1 hc1 k (by rw [hc2];exact hk)
   refine ⟨h1,fun bk hbk=>?_⟩
   have:=(hlt j _ hj).1
   rw [hget,if_neg (by omega)] at hbk
   rcases hH k bk hbk with ⟨_,h3⟩ | ⟨rfl,h3⟩
   ·exact h2 bk h3
   ·exact ⟨_,h3,rfl,hro⟩
 ·intro B hB hn
  exact hoth B fun he=>hn i _ hi (by simp [isRo,hro]) he.symm
 ·intro k c hk hr
  rw [hget] at hk
  right
  split at hk
  ·rename_i hks;subst hks
   exact ⟨i,_,hi,by simp [isRo,hro],by rw [upd_same,hloc]⟩
  ·obtain ⟨c0,h3,h4⟩:=hold k c hk
   exact ⟨k,c0,h3,h4.trans hr,by rw [hagr k (hlt k c hk).1]⟩
theorem Rep.less (h:Rep P ng ts N0 μ σ w) {i:Nat} {b:CB} (hi:σ.heap.get i=some (.cells b)) (hro:b.ro=false) {H:Tr Blk}
  (hH:∀ k c,H.get k=some c→(k ≠ i∧σ.heap.get k=some c)∨(k=i∧c = .cells {b with retired:=true })) :
  Rep P ng ts N0 μ {σ with heap:=H } w∧Goes μ σ w μ {σ with heap:=H } w:=by
 have hold:∀ k c,H.get k=some c→∃ c0,σ.heap.get k=some c0∧isRo c0=isRo c:=by
  intro k c hk
  rcases hH k c hk with ⟨_,h1⟩ | ⟨rfl,rfl⟩
  ·exact ⟨c,h1,rfl⟩
  ·exact ⟨_,hi,rfl⟩
 refine ⟨⟨h.glob,h.ngn,?_,?_,?_,?_,?_,h.big⟩,⟨Nat.le_refl _,fun _ _=>rfl,rfl,rfl,rfl,Nat.le_refl _,fun _ _ _=>rfl,?_⟩⟩
 ·intro k c hk
  rcases hH k c hk with ⟨_,h1⟩ | ⟨rfl,rfl⟩
  ·exact h.blk k c h1
  ·obtain ⟨g1,g2,g3⟩:=h.blk k _ hi
   have g3:CellsRep μ σ.next k b w:=g3
   exact ⟨g1,g2,(⟨g3.l,g3.ex,g3.sh0,g3.fz,g3.cell⟩:CellsRep μ σ.next k {b with retired:=true } w)⟩
 ·intro k c hk hr
  obtain ⟨c0,h3,h4⟩:=hold k c hk
  exact h.own k c0 h3 (h4.trans hr)
 ·intro k c hk hr
  obtain ⟨c0,h3,h4⟩:=hold k c hk
  exact h.ro k c0 h3 (h4.trans hr)
 ·intro k j bk bj hk hj hrk hrj hkj he
  obtain ⟨ck0,g1,g2⟩:=hold k bk hk
  obtain ⟨cj0,g3,g4⟩:=hold j bj hj
  obtain ⟨ci,cj,e1,e2,e3,e4,e5⟩:=h.dis k j ck0 cj0 g1 g3 (g2.trans hrk) (g4.trans hrj) hkj he
  subst e1 e2
  rcases hH k bk hk with ⟨n1,h1⟩ | ⟨rfl,rfl⟩
  ·rw [h1] at g1;simp at g1;subst g1
   rcases hH j bj hj with ⟨n2,h2⟩ | ⟨rfl,rfl⟩
   ·rw [h2] at g3;simp at g3;subst g3
    exact ⟨ci,cj,rfl,rfl,e3,e4,e5⟩
   ·rw [hi] at g3;simp at g3;subst g3
    exact ⟨ci,_,rfl,rfl,e3,e4,e5⟩
  ·rw [hi] at g1;simp at g1;subst g1
   rcases hH j bj hj with ⟨n2,h2⟩ | ⟨rfl,rfl⟩
   ·rw [h2] at g3;simp at g3;subst g3
    exact ⟨_,cj,rfl,rfl,e3,rfl,e5⟩
   ·omega
 ·intro j cj hj k hk
  have hal:∃ c1,σ.heap.get j=some (.cells c1)∧c1.al=cj.al:=by
   rcases hH j _ hj with ⟨_,h3⟩ | ⟨rfl,h3⟩
   ·exact ⟨cj,h3,rfl⟩
   ·simp at h3;subst h3;exact ⟨b,hi,rfl⟩
  obtain ⟨c1,hc1,hc2⟩:=hal
  obtain ⟨h1,h2⟩:=h.al j c1 hc1 k (by rw [hc2];exact hk)
  refine ⟨h1,fun bk hbk=>?_⟩
  rcases hH k bk hbk with ⟨_,h3⟩ | ⟨rfl,h3⟩
  ·exact h2 bk h3
  ·exact ⟨_,h3,rfl,hro⟩
 ·intro k c hk hr
  obtain ⟨c0,h3,h4⟩:=hold k c hk
  exact .inr ⟨k,c0,h3,h4.trans hr,rfl⟩
theorem growBy_le (m:Nat):∀ (r c:Nat),c≤2 * m + 768→Builtin.growBy m r c≤2 * m + 768
 | 0,c,h=>h
 | r + 1,c,h=>by
  unfold Builtin.growBy
  split
  ·exact h
  ·exact growBy_le m r _ (by omega)
theorem nextslicecap_le {m c:Nat} (h:c < m):Builtin.nextslicecap m c≤2 * m + 768:=by
 unfold Builtin.nextslicecap
 split
 ·omega
 ·split
  ·omega
  ·exact growBy_le m 4 c (by omega)
structure AppIn (P:Program) (t el u:TypeId) (i:TypeInfo) (z:List Value) (X:Value) (n:Nat) (new:List Value) (w:World):Prop where
 ht:P.underlying t=some (.slice el)
 hi:P.info? el=some i
 hz:zeroCells P el=some z
 z0:z.length ≠ 0
 b0:i.bytes ≠ 0
 hu:P.underlying u=some .string∨∃ e',P.underlying u=some (.slice e')
 hx:∀ w1,(Builtin.lenOf X).run P w1 = .ok n w1
 src:∀ w1,w1.heap=w.heap→(Builtin.firstCells z.length n X).run P w1 = .ok ⟨new⟩ w1
theorem append_fits {t el u ty:TypeId} {i:TypeInfo} {z:List Value} {X:Value} {n:Nat} {new:List Value} (h:AppIn P t el u i z X n new w) {base:Option Addr} {len cap:Nat} (hf:len + n≤cap)
  (hst:match base with | some a=>(storeCells (a.add (len * z.length)) new).run P w = .ok () w' | none=>w'=w) :
  (Builtin.append_ #[t,u] ty #[.slice base len cap,X]).run P w = .ok (.slice base (len + n) cap) w':=by
 obtain ⟨_,_,_,hsz,_,_⟩:=zeroCells_some h.hz
 have hsrc:=h.src w rfl
 unfold Builtin.append_
 cases base with
 | none=>
  simp only at hst;subst hst
  rcases h.hu with hd | ⟨e',hd⟩ <;> simp [run_und h.ht,run_und hd,run_sz hsz,h.hx,hf,hsrc]
 | some a=>
  simp only at hst
  rcases h.hu with hd | ⟨e',hd⟩ <;> simp [run_und h.ht,run_und hd,run_sz hsz,h.hx,hf,hsrc,hst]
theorem append_grows {t el u ty:TypeId} {i:TypeInfo} {z:List Value} {X:Value} {n:Nat} {new:List Value} (h:AppIn P t el u i z X n new w) {base:Option Addr} {len cap:Nat} {old:List Value} (hf:¬ len + n≤cap)
  (hb:(2 * (len + n) + 768) * i.bytes≤140737488355328) (hold:∀ w1,w1.heap=w.heap→(Builtin.firstCells z.length len (.slice base len cap)).run P w1 = .ok ⟨old⟩ w1) :
  ∃ nc w1,len + n≤nc∧w1.heap=w.heap.push (.cells (old++new++(List.replicate (nc - (len + n)) z).flatten).toArray el)∧w1.os=w.os∧w1.tape=w.tape∧w1.output=w.output∧
   (Builtin.append_ #[t,u] ty #[.slice base len cap,X]).run P w = .ok (.slice (some ⟨w.heap.size,0,none⟩) (len + n) nc) w1:=by
 obtain ⟨_,_,_,hsz,hz0,_⟩:=zeroCells_some h.hz
 obtain ⟨nc,hncd⟩:∃ nc,(Question.appendCap (len + n) cap el).cut (w.tape w.drawn (Question.appendCap (len + n) cap el))=nc:=⟨_,rfl⟩
 have hnc:len + n≤nc:=by rw [← hncd];show _≤len + n + _;omega
 have hfor:(Question.appendCap (len + n) cap el).forced=false:=rfl
 obtain ⟨zv,hzr,hzc⟩:=zeroCells_run h.hz w.drew
 have hsrc:=h.src w.drew rfl
 have hol:=hold w.drew rfl
 have hz:Builtin.zeroCells zv.cells (nc - (len + n))=((List.replicate (nc - (len + n)) z).flatten).toArray:=by
  unfold Builtin.zeroCells
  rw [hzc]
  simpa using zeros_eq z (nc - (len + n)) h.z0
 refine ⟨nc,w.drew.alloc (.cells (old++new++(List.replicate (nc - (len + n)) z).flatten).toArray el),hnc,rfl,rfl,rfl,rfl,?_⟩
 have hnsc:¬ (Builtin.nextslicecap (len + n) cap * i.bytes > 281474976710656):=by
  have h1:=nextslicecap_le (m:=len + n) (c:=cap) (by omega)
  have h2:Builtin.nextslicecap (len + n) cap * i.bytes≤(2 * (len + n) + 768) * i.bytes:=Nat.mul_le_mul_right _ h1
  omega
 have hb0:=h.b0
 unfold Builtin.append_
 rcases h.hu with hd | ⟨e',hd⟩ <;> simp [run_und h.ht,run_und hd,run_sz hsz,run_info h.hi,h.hx,hf,hnsc,hb0,hfor,hncd,hsrc,hol,hzr,hz,newRow]
end
end Go.Proofs.YtnpoloachkcadaaGreatDoor.Ai
namespace Go.Proofs.YtnpoloachkcadaaGreatDoor.Ai
open Go
set_option linter.unusedSimpArgs false
section
variable {P:Program} {ng:Nat} {ts:List TypeId} {N0:Bs} {μ μ':Nat→Loc} {σ σ':AW} {w w':World} {e:List Value}
theorem CellsRep.put {n j:Nat} {c:CB} (h:CellsRep μ n j c w) {B p:Nat} {vs:List Value} {C:Array Value} {t:TypeId} {fr:Nat × Nat} (hput:RowPut w w' B p vs C t fr)
  (hrow:w.heap[B]? = some (.cells C t fr)) (hB:(μ j).blk=B) (hle:(μ j).sh + c.cs.length≤p):CellsRep μ n j c w':=by
 obtain ⟨C',h1,h2,h3⟩:=hput.row
 obtain ⟨C0,t0,fr0,g1,gt,g2,g3⟩:=h.cell
 rw [hB,hrow] at g1
 simp only [Option.some.injEq,Obj.cells.injEq] at g1
 obtain ⟨rfl,rfl,rfl⟩:=g1
 refine ⟨h.l,h.ex,h.sh0,?_,C',t,fr,by rw [hB];exact h1,by rw [h2];exact gt,by rw [h2];exact g2,?_⟩
 ·intro hf k hk1 hk2
  have:=h.fz hf k hk1 hk2
  rw [hB] at this ⊢
  simp only [World.frozen?,hrow] at this
  simp only [World.frozen?,h1]
  exact this
 ·intro k v hk
  have hlt:k < c.cs.length:=(List.getElem?_eq_some_iff.1 hk).1
  rw [h3,if_neg (by omega)]
  exact g3 k v hk
theorem firstCells_slice (h:Rep P ng ts N0 μ σ w) {a:Addr} (ha:a.spot=none) {k len cap:Nat} {b:CB} (hb:σ.cells? a.block=some b) {old:List Value} (hold:cutV (len * k) (dropV a.off b.cs)=some old) :
  (∀ w1,w1.heap=w.heap→(Builtin.firstCells k len (.slice (some (cAddr μ a)) len cap)).run P w1 = .ok ⟨concL μ old⟩ w1)∧ltL σ.next old=true∧old.length=len * k∧∀ j,j < len * k→old[j]? = b.cs[a.off + j]?:=by
 have hrd:σ.rdN a (len * k)=some old:=by simp only [AW.rdN,hb];exact hold
 obtain ⟨h1,h2⟩:=(cutV_some _ _ _).1 hold
 rw [dropV_eq] at h1 h2
 refine ⟨?_,(rdN_sound h ha hrd).2.1,(rdN_sound h ha hrd).2.2,?_⟩
 ·intro w1 hw1
  have hc:=h.cells hb
  have hl:(concL μ old).length=len * k:=by rw [concL_length];exact (rdN_sound h ha hrd).2.2
  have:=run_loadCells_list (P:=P) w1 (cAddr μ a) (concL μ old) (by
   intro j v hj
   rw [concL_getElem?,Option.map_eq_some_iff] at hj
   obtain ⟨x,hx,rfl⟩:=hj
   have hjk:j < len * k:=by
    have:=(List.getElem?_eq_some_iff.1 hx).1
    have h3:old.length=len * k:=(rdN_sound h ha hrd).2.2
    omega
   rw [h2,List.getElem?_take_of_lt hjk,List.getElem?_drop] at hx
   have hat:=hc.at hx
   rw [cAddr_eta μ a ha,add_mk,Nat.add_assoc]
   simp only [World.cell?,hw1] at hat ⊢
   exact hat)
  rw [hl] at this
  simp only [Builtin.firstCells]
  rw [this]
 ·intro j hj
  rw [h2,List.getElem?_take_of_lt hj,List.getElem?_drop]
structure AppRun (P:Program) (el:TypeId) (bytes:Nat) (z:List Value) (n:Nat) (new:List Value) (w:World) (app:Value→Sem Value):Prop where
 fits:∀ {base:Option Addr} {len cap:Nat} {w':World},len + n≤cap→(match base with | some a=>(storeCells (a.add (len * z.length)) new).run P w = .ok () w' | none=>w'=w)→(app (.slice base len cap)).run P w = .ok (.slice base (len + n) cap) w'
 grows:∀ {base:Option Addr} {len cap:Nat} {old:List Value},¬ len + n≤cap→(2 * (len + n) + 768) * bytes≤140737488355328→(∀ w1,w1.heap=w.heap→(Builtin.firstCells z.length len (.slice base len cap)).run P w1 = .ok ⟨old⟩ w1)→
  ∃ nc w1,len + n≤nc∧w1.heap=w.heap.push (.cells (old++new++(List.replicate (nc - (len + n)) z).flatten).toArray el)∧w1.os=w.os∧w1.tape=w.tape∧w1.output=w.output∧
   (app (.slice base len cap)).run P w = .ok (.slice (some ⟨w.heap.size,0,none⟩) (len + n) nc) w1
theorem AppIn.run {t el u ty:TypeId} {i:TypeInfo} {z:List Value} {X:Value} {n:Nat} {new:List Value} (h:AppIn P t el u i z X n new w):AppRun P el i.bytes z n new w (fun S=>Builtin.append_ #[t,u] ty #[S,X]):=
 ⟨fun hf hst=>append_fits h hf hst,fun hf hb hold=>append_grows h hf hb hold⟩
theorem appendV_sound (h:Rep P ng ts N0 μ σ w) {el:TypeId} {bytes:Nat} {z:List Value} {n:Nat} {new:List Value} {app:Value→Sem Value} (hin:AppRun P el bytes z n (concL μ new) w app) {S V:Value} (hS:lt σ.next S=true)
  (hnl:ltL σ.next new=true) (hnn:new.length=n * z.length) (hv:appendV σ el z.length bytes S new n=some (V,σ')) :
  ∃ μ' w',Rep P ng ts N0 μ' σ' w'∧Goes μ σ w μ' σ' w'∧lt σ'.next V=true∧(app (conc μ S)).run P w = .ok (conc μ' V) w':=by
 have fresh:∀ (σ1:AW) (old:List Value) (al:List Nat) (len cap:Nat) (base:Option Addr) (k:Nat) (σ2:AW),Rep P ng ts N0 μ σ1 w→Goes μ σ w μ σ1 w→σ1.next=σ.next→ltL σ.next old=true→old.length=len * z.length→
   (∀ j∈al,j < σ1.next∧∀ bj,σ1.heap.get j=some bj→∃ cj,bj = .cells cj∧cj.retired=true∧cj.ro=false)→
   (∀ w1,w1.heap=w.heap→(Builtin.firstCells z.length len (.slice base len cap)).run P w1 = .ok ⟨concL μ old⟩ w1)→¬ len + n≤cap→(2 * (len + n) + 768) * bytes≤140737488355328→
   σ1.push (.cells (newCB el z.length (old++new) false al))=some (k,σ2)→
   ∃ μ' w',Rep P ng ts N0 μ' σ2 w'∧Goes μ σ w μ' σ2 w'∧lt σ2.next (.slice (some ⟨k,0,none⟩) (len + n) (len + n))=true∧
    (app (.slice base len cap)).run P w = .ok (conc μ' (.slice (some ⟨k,0,none⟩) (len + n) (len + n))) w':=by
  intro σ1 old al len cap base k σ2 hr1 hg1 hnx hol hlen hal hfc hnf hby hp
  obtain ⟨nc,w1,hnc,hheap,hos,htp,hout,hrun⟩:=hin.grows hnf hby hfc
  have hcr:CellsRep (upd μ σ1.next ⟨w.heap.size,0,nc - (len + n)⟩) (σ1.next + 1) σ1.next (newCB el z.length (old++new) false al) w1:=by
   refine newCells_rep (μ:=μ) (n:=σ1.next) (by rw [hnx];exact ltL_append.2 ⟨hol,hnl⟩) el z.length false al (List.replicate (nc - (len + n)) z).flatten (nc - (len + n)) (by simp) (by simp) ?_
   rw [hheap,concL_append]
  obtain ⟨rfl,hn2,hr2,hg2⟩:=hr1.push hp (ob:=.cells (concL μ old++concL μ new++(List.replicate (nc - (len + n)) z).flatten).toArray el) (ex:=nc - (len + n)) rfl (by
   intro c hc j hj
   simp only [Blk.cells.injEq] at hc
   subst hc
   exact hal j hj) hos htp hout hheap hcr
  refine ⟨_,w1,hr2,hg1.trans hg2,by simp [hn2],?_⟩
  rw [hrun]
  simp only [conc_ssome,cAddr,upd_same,Nat.zero_add]
  congr 2
  omega
 unfold appendV at hv
 split at hv
 ·rename_i base len cap
  split at hv
  ·rename_i hfit
   split at hv
   ·
    rename_i hn0
    simp only [Option.some.injEq,Prod.mk.injEq] at hv
    obtain ⟨rfl,rfl⟩:=hv
    have hnew:new=[]:=by rw [hn0] at hnn;simpa using hnn
    subst hnew
    refine ⟨μ,w,h,Goes.refl _ _ _,hS,?_⟩
    cases base with
    | none=>rw [conc_snone,hin.fits (base:=none) (w':=w) hfit rfl];simp [hn0]
    | some a=>
     rw [conc_ssome,hin.fits (base:=some (cAddr μ a)) (w':=w) (by omega) (by simp [concL,storeCells])]
     simp [hn0]
   ·rename_i hn0
    split at hv
    ·rename_i a
     simp only [Option.map_eq_some_iff,Prod.mk.injEq] at hv
     obtain ⟨σ1,hw,rfl,rfl⟩:=hv
     rw [lt_ssome] at hS
     replace hS:a.block < σ.next∧a.spot=none:=⟨hS.1,hS.2.resolve_right (fun hz=>by omega)⟩
     obtain ⟨w',hrun,hrep,hgo⟩:=wrN_sound h hw hnl
     refine ⟨μ,w',hrep,hgo,?_,?_⟩
     ·rw [lt_ssome];exact ⟨Nat.lt_of_lt_of_le hS.1 hgo.next,.inl hS.2⟩
     ·rw [conc_ssome,hin.fits (base:=some (cAddr μ a)) (w':=w') (by omega) (by
       show (storeCells ((cAddr μ a).add (len * z.length)) (concL μ new)).run P w = .ok () w'
       rw [cAddr_eta μ a hS.2,add_mk,Nat.add_assoc];exact hrun)]
      simp
    ·simp at hv
  ·rename_i hnf
   split at hv
   ·simp at hv
   ·rename_i hby
    split at hv
    ·simp at hv
    ·rename_i hcells
     have hcells:allCells new=true:=by simpa using hcells
     split at hv
     ·
      split at hv
      ·rename_i hl0
       subst hl0
       simp only [Option.map_eq_some_iff,Prod.mk.injEq,Prod.exists] at hv
       obtain ⟨k,σ2,hp,rfl,rfl⟩:=hv
       have:=fresh σ [] [] 0 cap none k σ2 h (Goes.refl _ _ _) rfl (by simp [ltL]) (by simp) (by simp) (by intro w1 _;simp [Builtin.firstCells,concL]) hnf (by omega) (by simpa using hp)
       simpa using this
      ·simp at hv
     ·rename_i a
      rw [lt_ssome] at hS
      split at hv
      ·simp at hv
      rename_i hsp
      replace hS:a.block < σ.next∧a.spot=none:=⟨hS.1,by simpa using hsp⟩
      split at hv
      ·simp at hv
      ·rename_i b hb
       split at hv
       ·simp at hv
       ·rename_i old hold
        obtain ⟨hfc,hol,hlen,hget⟩:=firstCells_slice (cap:=cap + (μ a.block).ex) h hS.2 hb hold
        have hi:=cells?_some.1 hb
        have hcr:=h.cells hb
        split at hv
        ·rename_i hex
         simp only [Option.map_eq_some_iff,Prod.mk.injEq,Prod.exists] at hv
         obtain ⟨k,σ2,hp,rfl,rfl⟩:=hv
         rw [conc_ssome]
         exact fresh σ old [] len (cap + (μ a.block).ex) _ k σ2 h (Goes.refl _ _ _) rfl hol hlen (by simp) hfc (by rw [hcr.ex hex];omega) (by omega) hp
        ·rename_i hex
         split at hv
         ·simp at hv
         ·rename_i hcond
          simp only [Bool.or_eq_true,bne_iff_ne,ne_eq,not_or,Decidable.not_not,Bool.not_eq_true] at hcond
          obtain ⟨⟨⟨⟨⟨hret,hfz⟩,hro⟩,hend⟩,hesz⟩,hty⟩:=hcond
          have place:∀ (H:Tr Blk) (al:List Nat),(∀ k c,H.get k=some c→(k ≠ a.block∧σ.heap.get k=some c)∨(k=a.block∧c = .cells {b with retired:=true }))→
            (∀ j∈al,j < σ.next∧∀ bj,H.get j=some bj→∃ cj,bj = .cells cj∧cj.retired=true∧cj.ro=false)→
            (∀ j c,H.get j=some c→isRo c=false→(μ j).blk=(μ a.block).blk→len=cap∧j∈al∧(j=a.block∨∃ cj,σ.heap.get j=some (.cells cj)∧c = .cells cj∧cj.retired=true∧(μ j).sh + cj.cs.length≤(μ a.block).sh + b.cs.length))→
            ∀ k σ2,({σ with heap:=H }:AW).push (.cells (newCB el z.length (old++new) false al))=some (k,σ2)→
            ∃ μ' w',Rep P ng ts N0 μ' σ2 w'∧Goes μ σ w μ' σ2 w'∧lt σ2.next (.slice (some ⟨k,0,none⟩) (len + n) (len + n))=true∧
             (app (.slice (some (cAddr μ a)) len (cap + (μ a.block).ex))).run P w = .ok (conc μ' (.slice (some ⟨k,0,none⟩) (len + n) (len + n))) w':=by
           intro H al hH hal hsame k σ2 hp
           by_cases hroom:len + n≤cap + (μ a.block).ex
           ·obtain ⟨C,fr,hC1,hC2,hC3⟩:=hcr.mine (by simpa using hro)
            have hm1:(len + n) * z.length≤(cap + (μ a.block).ex) * z.length:=Nat.mul_le_mul_right _ hroom
            rw [Nat.add_mul,Nat.add_mul] at hm1
            rw [← hesz] at hC2
            have hCs:C.size=(μ a.block).sh + a.off + cap * z.length + (μ a.block).ex * z.length:=by rw [hC2,← hend];omega
            obtain ⟨w',hrun,hput⟩:=run_storeRow (P:=P) (o:=(μ a.block).sh + a.off + len * z.length) (vs:=concL μ new) hC1 (by rw [concL_length,hnn];omega) (by
             intro j hj
             rw [concL_length] at hj
             refine hcr.fz hfz _ (by omega) ?_
             rw [← hesz,← hend];omega) (allCells_conc μ hcells)
            have hp':=hp
            unfold AW.push at hp'
            split at hp'
            ·rename_i hm
             simp only [Option.some.injEq,Prod.mk.injEq] at hp'
             obtain ⟨rfl,rfl⟩:=hp'
             have hloc:(cap + (μ a.block).ex - (len + n)) * z.length + (len + n) * z.length=(cap + (μ a.block).ex) * z.length:=by rw [← Nat.add_mul];congr 1;omega
             rw [Nat.add_mul len n,Nat.add_mul cap] at hloc
             obtain ⟨C',hC1',hC2',hC3'⟩:=hput.row
             have hjoin:=h.join (w':=w') (H:=H) (nb:=newCB el z.length (old++new) false al) hi hro rfl hm hH (loc:=⟨(μ a.block).blk,(μ a.block).sh + a.off,cap + (μ a.block).ex - (len + n)⟩) rfl hal hput.os hput.tape hput.output hput.size hput.other (by
              intro j c hj hr hB
              obtain ⟨hlc,hjal,hcase⟩:=hsame j c hj hr hB
              rcases hcase with rfl | ⟨cj,h1,rfl,h2,h3⟩
              ·rcases hH _ c hj with ⟨hne,_⟩ | ⟨_,rfl⟩
               ·exact absurd rfl hne
               ·have hq:CellsRep μ σ.next a.block {b with retired:=true } w:=⟨hcr.l,hcr.ex,hcr.sh0,hcr.fz,hcr.cell⟩
                refine ⟨hq.put hput hC1 rfl (by simp only;rw [← hend,hlc];omega),_,rfl,hjal,rfl,?_⟩
                simp only [newCB,List.length_append,hlen,hnn]
                rw [← hend,hlc];omega
              ·have hq:CellsRep μ σ.next j cj w:=(h.blk j _ h1).2.2
               refine ⟨hq.put hput hC1 hB (by rw [← hend,← hlc] at h3;omega),cj,rfl,hjal,h2,?_⟩
               simp only [newCB,List.length_append,hlen,hnn]
               rw [← hend,← hlc] at h3;omega) (by
              have hcon:∀ l,ltL σ.next l=true→concL (upd μ σ.next ⟨(μ a.block).blk,(μ a.block).sh + a.off,cap + (μ a.block).ex - (len + n)⟩) l=concL μ l:=fun l hl=>concL_congr (fun j hj=>upd_ne _ _ (by omega)) l hl
              refine ⟨ltL_mono (Nat.le_succ _) _ (ltL_append.2 ⟨hol,hnl⟩),by simp [newCB],by simp [newCB],?_,C',b.ty,fr,?_,fun _=>⟨by simp only [newCB];exact hty.symm,?_⟩,?_,?_⟩
              ·intro _ j hj1 hj2
               rw [upd_same] at hj1 hj2 ⊢
               simp only [newCB,List.length_append,hlen,hnn] at hj1 hj2
               have:=hcr.fz hfz j (by omega) (by rw [← hesz,← hend];omega)
               simp only [World.frozen?,hC1] at this
               simp only [World.frozen?,hC1']
               exact this
              ·rw [upd_same];exact hC1'
              ·rw [upd_same,hC2',hCs];simp only [newCB,List.length_append,hlen,hnn];omega
              ·rw [upd_same,hC2',hCs];simp only [newCB,List.length_append,hlen,hnn];omega
              ·intro j v hj
               rw [upd_same]
               have hj':(old++new)[j]? = some v:=hj
               have hvc:conc (upd μ σ.next ⟨(μ a.block).blk,(μ a.block).sh + a.off,cap + (μ a.block).ex - (len + n)⟩) v=conc μ v:=conc_congr (fun i hi=>upd_ne _ _ (by omega)) v (ltL_getElem (ltL_append.2 ⟨hol,hnl⟩) hj')
               rw [hvc,hC3']
               simp only [concL_length,hnn]
               by_cases hjl:j < len * z.length
               ·rw [List.getElem?_append_left (by omega)] at hj'
                rw [if_neg (by omega),Nat.add_assoc]
                exact hC3 _ v (by rw [← hget j hjl];exact hj')
               ·rw [List.getElem?_append_right (by omega)] at hj'
                have hjn:j - old.length < new.length:=(List.getElem?_eq_some_iff.1 hj').1
                rw [if_pos ⟨by omega,by omega,by omega⟩,concL_getElem?,show (μ a.block).sh + a.off + j - ((μ a.block).sh + a.off + len * z.length)=j - old.length by omega,hj']
                rfl)
             refine ⟨_,w',hjoin.1,hjoin.2,by simp,?_⟩
             rw [hin.fits (base:=some (cAddr μ a)) (w':=w') hroom (by
              show (storeCells ((cAddr μ a).add (len * z.length)) (concL μ new)).run P w = .ok () w'
              rw [cAddr_eta μ a hS.2,add_mk];exact hrun)]
             simp only [conc_ssome,cAddr,upd_same,Nat.add_zero,hS.2]
             congr 2
             omega
            ·simp at hp'
           ·obtain ⟨hr1,hg1⟩:=h.less hi hro hH
            exact fresh _ old al len (cap + (μ a.block).ex) _ k σ2 hr1 hg1 rfl hol hlen hal hfc hroom (by omega) hp
          split at hv
          ·rename_i hlc
           simp only [Option.map_eq_some_iff,Prod.mk.injEq,Prod.exists] at hv
           obtain ⟨k,σ2,hp,rfl,rfl⟩:=hv
           rw [conc_ssome]
           have him:=(h.blk _ _ hi).2.1
           have hgetH:∀ k,(σ.heap.set a.block (.cells {b with retired:=true })).get k=if k=a.block then some (.cells {b with retired:=true }) else σ.heap.get k:=fun k=>Tr.get_set _ _ _ _ (by unfold most at him;omega)
           refine place _ (a.block::b.al) ?_ ?_ ?_ k σ2 hp
           ·intro k c hk
            rw [hgetH] at hk
            split at hk
            ·rename_i hks;simp at hk;exact .inr ⟨hks,hk.symm⟩
            ·rename_i hks;exact .inl ⟨hks,hk⟩
           ·intro j hj
            simp only [List.mem_cons] at hj
            rcases hj with rfl | hj
            ·refine ⟨hS.1,fun bj hbj=>?_⟩
             rw [hgetH,if_pos rfl] at hbj
             simp at hbj;subst hbj
             exact ⟨_,rfl,rfl,hro⟩
            ·obtain ⟨g1,g2⟩:=h.al _ _ hi j hj
             refine ⟨by omega,fun bj hbj=>?_⟩
             rw [hgetH,if_neg (by omega)] at hbj
             exact g2 bj hbj
           ·intro j c hj hr hB
            refine ⟨hlc,?_⟩
            by_cases hji:j=a.block
            ·exact ⟨by simp [hji],.inl hji⟩
            ·rw [hgetH,if_neg hji] at hj
             rcases Nat.lt_or_gt_of_ne hji with hlt | hgt
             ·obtain ⟨ci,cj,e1,e2,e3,e4,e5⟩:=h.dis j a.block c _ hj hi hr (by simp [isRo,hro]) hlt hB
              simp at e2;subst e2 e1
              exact ⟨by simp [e3],.inr ⟨ci,hj,rfl,e4,e5⟩⟩
             ·obtain ⟨ci,cj,e1,e2,e3,e4,e5⟩:=h.dis a.block j _ c hi hj (by simp [isRo,hro]) hr hgt hB.symm
              simp at e1;subst e1
              rw [hret] at e4;simp at e4
          ·rename_i hlc
           simp only [Option.map_eq_some_iff,Prod.mk.injEq,Prod.exists] at hv
           obtain ⟨k,σ2,hp,rfl,rfl⟩:=hv
           rw [conc_ssome]
           have halm:∀ j∈a.block::b.al,j < most j:=by
            intro j hj
            simp only [List.mem_cons] at hj
            have:=(h.blk _ _ hi).2.1
            rcases hj with rfl | hj
            ·exact this
            ·exact Nat.lt_succ_self j
           have hgetH:=get_killAll (a.block::b.al) σ.heap halm
           refine place _ [] ?_ (by simp) ?_ k σ2 hp
           ·intro k c hk
            rw [hgetH] at hk
            split at hk
            ·simp at hk
            ·rename_i hks;exact .inl ⟨by simp at hks;exact hks.1,hk⟩
           ·intro j c hj hr hB
            exfalso
            rw [hgetH] at hj
            split at hj
            ·simp at hj
            ·rename_i hks
             simp only [List.mem_cons,not_or] at hks
             rcases Nat.lt_or_gt_of_ne hks.1 with hlt | hgt
             ·obtain ⟨ci,cj,e1,e2,e3,e4,e5⟩:=h.dis j a.block c _ hj hi hr (by simp [isRo,hro]) hlt hB
              simp at e2;subst e2
              exact hks.2 e3
             ·obtain ⟨ci,cj,e1,e2,e3,e4,e5⟩:=h.dis a.block j _ c hi hj (by simp [isRo,hro]) hr hgt hB.symm
              simp at e1;subst e1
              rw [hret] at e4;simp at e4
 ·simp at hv
end
end Go.Proofs.YtnpoloachkcadaaGreatDoor.Ai
namespace Go.Proofs.YtnpoloachkcadaaGreatDoor.Ai
open Go
set_option linter.unusedSimpArgs false
section
variable {P:Program} {ng:Nat} {ts:List TypeId} {N0:Bs} {μ μ':Nat→Loc} {σ σ':AW} {w w':World} {e:List Value} {K:Ks}
theorem strCells_zero (s:ByteArray):ltL 0 (strCells s)=true:=by
 rw [ltL_iff]
 intro v hv
 simp only [strCells,List.mem_map] at hv
 obtain ⟨b,_,rfl⟩:=hv
 simp
theorem srcV_sound (h:Rep P ng ts N0 μ σ w) {k n:Nat} {X:Value} (hX:lt σ.next X=true) {new:List Value} (hs:srcV σ k X n=some new) :
  (∀ w1,w1.heap=w.heap→(Builtin.firstCells k n (conc μ X)).run P w1 = .ok ⟨concL μ new⟩ w1)∧ltL σ.next new=true∧new.length=n * k:=by
 unfold srcV at hs
 split at hs
 ·split at hs
  ·rename_i h0;simp at hs;subst hs;subst h0
   exact ⟨fun w1 _=>by simp [Builtin.firstCells,concL],by simp [ltL],by simp⟩
  ·simp at hs
 ·rename_i a len cap
  rw [lt_ssome] at hX
  split at hs
  ·rename_i h0;simp at hs;subst hs;subst h0
   exact ⟨fun w1 _=>by simp [Builtin.firstCells,loadCells,loadCellsFrom,concL],by simp [ltL],by simp⟩
  rename_i h0
  split at hs
  ·simp at hs
  rename_i hsp
  replace hX:a.block < σ.next∧a.spot=none:=⟨hX.1,by simpa using hsp⟩
  have hs':=hs
  unfold AW.rdN at hs'
  split at hs'
  ·rename_i b hb
   obtain ⟨h1,h2,h3,_⟩:=firstCells_slice (cap:=cap + (μ a.block).ex) h hX.2 hb hs'
   refine ⟨?_,h2,h3⟩
   intro w1 hw1
   have:=h1 w1 hw1
   simpa [Builtin.firstCells] using this
  ·simp at hs'
 ·rename_i s
  split at hs
  ·rename_i hc
   obtain ⟨rfl,hn⟩:=hc
   simp at hs;subst hs
   refine ⟨?_,ltL_sub (ltL_mono (Nat.zero_le _) _ (strCells_zero s)) fun v hv=>List.mem_of_mem_take hv,?_⟩
   ·intro w1 _
    simp only [conc_string,Builtin.firstCells,Sem.run_pure]
    congr 1
    apply Array.ext'
    rw [concL_take,concL_zero μ _ (strCells_zero s)]
    simp [strCells,ByteArray.data_extract,List.map_take]
   ·simp [strCells]
    have:s.data.size=s.size:=rfl
    omega
  ·simp at hs
 ·simp at hs
theorem lenV_sound {X:Value} {n:Nat} (hn:lenV X=some n) (w1:World):(Builtin.lenOf (conc μ X)).run P w1 = .ok n w1:=by
 unfold lenV at hn
 split at hn
 ·rename_i a m c;simp at hn;subst hn;cases a <;> simp [Builtin.lenOf]
 ·simp at hn;subst hn;simp [Builtin.lenOf]
 ·simp at hn
theorem sE_append (h:Rep P ng ts N0 μ σ w) (he:ltL σ.next e=true) {o:Oper} {t el u:TypeId} {i:TypeInfo} {z:List Value} {s x:Operand} (hop:o.op = .call {callee:=.builtin .append,args:=#[s,x],argTypes:=#[t,u] })
  (h1:P.underlying t=some (.slice el)) (h2:zeroCells P el=some z) (h3:P.info? el=some i) (hz:z.length ≠ 0) (hb:i.bytes ≠ 0) (hu:P.underlying u=some .string∨∃ e',P.underlying u=some (.slice e'))
  (hs:okOpd ng s=true) (hx:okOpd ng x=true) {v:Value} {k b:Nat} (hk:k=z.length) (hbb:b=i.bytes) (hv:runE K e σ (.append el k b z (cOpd s) (cOpd x))=some (.ret v,σ')):ESound P ng ts N0 μ σ e o v σ' w:=by
 subst hk hbb
 obtain ⟨_,hcs,hls⟩:=opV (e:=e) h.glob h.ngn he hs
 obtain ⟨_,hcx,hlx⟩:=opV (e:=e) h.glob h.ngn he hx
 simp only [runE] at hv
 generalize (cOpd s).ev e=S at hv hcs hls
 generalize (cOpd x).ev e=X at hv hcx hlx
 split at hv
 ·rename_i n hn
  simp only [Option.bind_eq_some_iff,Option.map_eq_some_iff,Prod.mk.injEq,IRet.ret.injEq,Prod.exists] at hv
  obtain ⟨new,hnew,V,σ1,hap,rfl,rfl⟩:=hv
  obtain ⟨hsrc,hnl,hnn⟩:=srcV_sound h hlx hnew
  have hin:AppIn P t el u i z (conc μ X) n (concL μ new) w:=⟨h1,h3,h2,hz,hb,hu,fun w1=>lenV_sound hn w1,hsrc⟩
  obtain ⟨μ',w',hr,hg,hl,hrun⟩:=appendV_sound h (hin.run (ty:=o.type)) hls hnl hnn hap
  refine ⟨μ',w',_,hr,hg,hl,?_,.inl rfl⟩
  simp [execOp,hop,resolve,invoke,builtin,hcs,hcx,hrun]
 ·simp at hv
theorem appZ_run {t el u ty:TypeId} {i:TypeInfo} {z:List Value} {k:IntKind} {l:Int} (ht:P.underlying t=some (.slice el)) (hi:P.info? el=some i) (hz:zeroCells P el=some z) (z0:z.length ≠ 0) (b0:i.bytes ≠ 0)
  {ku:IntKind} (hu:P.underlying u=some (.int ku)) (h0:0≤l) (hl:l≤140737488355328) (hlb:l * i.bytes≤140737488355328) (w:World) :
  AppRun P el i.bytes z l.toNat (List.replicate l.toNat z).flatten w (fun S=>Builtin.append_ #[t,u] ty #[S,.int k l]):=by
 obtain ⟨_,_,_,hsz,hz0,_⟩:=zeroCells_some hz
 have hwr:IntKind.i64.wrap l=l:=by unfold IntKind.wrap;simp [IntKind.bits,IntKind.signed];omega
 have hl0:¬ l < 0:=by omega
 have hl1:¬ (281474976710656 < l * (i.bytes:Int)):=by omega
 have happ:∀ w1,∃ zv,(zeroValue el).run P w1 = .ok zv w1∧zv.cells=z.toArray:=fun w1=>zeroCells_run hz w1
 have hzc:∀ (zv:Value) (m:Nat),zv.cells=z.toArray→Builtin.zeroCells zv.cells m=((List.replicate m z).flatten).toArray:=by
  intro zv m h
  unfold Builtin.zeroCells
  rw [h]
  simpa using zeros_eq z m z0
 have hn0:l.toNat * z.length=0→l.toNat=0:=fun h=>(Nat.mul_eq_zero.1 h).resolve_right z0
 constructor
 ·intro base len cap w' hf hst
  obtain ⟨zv,hzr,hzv⟩:=happ w
  by_cases hn:l.toNat * z.length=0
  ·have hn':=hn0 hn
   rw [hn'] at hst hf
   have hl00:l=0:=by omega
   subst hl00
   unfold Builtin.append_
   cases base with
   | none=>
    simp only at hst;subst hst
    simp [run_und ht,run_und hu,run_sz hsz,run_info hi,asInt,asIntOf,hwr,hf]
    omega
   | some a=>
    simp [storeCells] at hst;subst hst
    simp [run_und ht,run_und hu,run_sz hsz,run_info hi,asInt,asIntOf,hwr,storeCells]
    omega
  ·unfold Builtin.append_
   cases base with
   | none=>
    simp only at hst;subst hst
    simp [run_und ht,run_und hu,run_sz hsz,run_info hi,asInt,asIntOf,hwr,hl0,hl1,hf,hn,hzr]
   | some a=>
    simp only at hst
    simp [run_und ht,run_und hu,run_sz hsz,run_info hi,asInt,asIntOf,hwr,hl0,hl1,hf,hn,hzr,hzc zv _ hzv,hst]
 ·intro base len cap old hf hb hold
  obtain ⟨nc,hncd⟩:∃ nc,(Question.appendCap (len + l.toNat) cap el).cut (w.tape w.drawn (Question.appendCap (len + l.toNat) cap el))=nc:=⟨_,rfl⟩
  have hnc:len + l.toNat≤nc:=by rw [← hncd];show _≤len + l.toNat + _;omega
  have hfor:(Question.appendCap (len + l.toNat) cap el).forced=false:=rfl
  obtain ⟨zv,hzr,hzv⟩:=happ w.drew
  have hol:=hold w.drew rfl
  refine ⟨nc,w.drew.alloc (.cells (old++(List.replicate l.toNat z).flatten++(List.replicate (nc - (len + l.toNat)) z).flatten).toArray el),hnc,rfl,rfl,rfl,rfl,?_⟩
  have hnsc:¬ (Builtin.nextslicecap (len + l.toNat) cap * i.bytes > 281474976710656):=by
   have h1:=nextslicecap_le (m:=len + l.toNat) (c:=cap) (by omega)
   have h2:Builtin.nextslicecap (len + l.toNat) cap * i.bytes≤(2 * (len + l.toNat) + 768) * i.bytes:=Nat.mul_le_mul_right _ h1
   omega
  have hneed:¬ (9223372036854775807 < ((len:Int) + l.toNat)):=by
   have h3:(2 * (len + l.toNat) + 768) * 1≤(2 * (len + l.toNat) + 768) * i.bytes:=Nat.mul_le_mul_left _ (by omega)
   omega
  have hneed':¬ (9223372036854775807 < ((len:Int) + max l 0)):=by omega
  unfold Builtin.append_
  by_cases hn:l.toNat * z.length=0
  ·have hn':=hn0 hn
   have hl00:l=0:=by omega
   subst hl00
   simp at hf hncd hfor hnc hnsc hneed
   have hf2:¬ len≤cap:=by omega
   have hnsc2:¬ (281474976710656 < Builtin.nextslicecap len cap * i.bytes):=by omega
   have hneed2:¬ (9223372036854775807 < (len:Int)):=by omega
   simp [run_und ht,run_und hu,run_sz hsz,run_info hi,asInt,asIntOf,hwr,hf2,hnsc2,b0,hfor,hncd,hol,hzr,hzc zv _ hzv,newRow,hneed2]
  ·simp [run_und ht,run_und hu,run_sz hsz,run_info hi,asInt,asIntOf,hwr,hl0,hl1,hf,hnsc,b0,hfor,hncd,hol,hzr,hzc zv _ hzv,newRow,hn,hneed,hneed']
end
end Go.Proofs.YtnpoloachkcadaaGreatDoor.Ai
namespace Go.Proofs.YtnpoloachkcadaaGreatDoor.Ai
open Go
set_option linter.unusedSimpArgs false
section
variable {P:Program} {ng:Nat} {ts:List TypeId} {N0:Bs} {μ μ':Nat→Loc} {σ σ':AW} {w w':World} {e:List Value} {K:Ks}
theorem sE_appendZ (h:Rep P ng ts N0 μ σ w) (he:ltL σ.next e=true) {o:Oper} {t el u:TypeId} {i:TypeInfo} {z:List Value} {s x:Operand} {ku:IntKind} (hop:o.op = .call {callee:=.builtin .append,args:=#[s,x],argTypes:=#[t,u] })
  (h1:P.underlying t=some (.slice el)) (h2:zeroCells P el=some z) (h3:P.info? el=some i) (hz:z.length ≠ 0) (hb:i.bytes ≠ 0) (hu:P.underlying u=some (.int ku))
  (hs:okOpd ng s=true) (hx:okOpd ng x=true) {v:Value} (hv:runE K e σ (.appendZ el z.length i.bytes z (cOpd s) (cOpd x))=some (.ret v,σ')):ESound P ng ts N0 μ σ e o v σ' w:=by
 obtain ⟨_,hcs,hls⟩:=opV (e:=e) h.glob h.ngn he hs
 obtain ⟨_,hcx,hlx⟩:=opV (e:=e) h.glob h.ngn he hx
 simp only [runE] at hv
 generalize (cOpd s).ev e=S at hv hcs hls
 generalize (cOpd x).ev e=X at hv hcx hlx
 obtain ⟨_,_,_,_,hz0,_⟩:=zeroCells_some h2
 split at hv
 ·rename_i k l
  split at hv
  ·rename_i hc
   simp only [Option.map_eq_some_iff,Prod.mk.injEq,IRet.ret.injEq,Prod.exists] at hv
   obtain ⟨V,σ1,hap,rfl,rfl⟩:=hv
   have hl':l=IntKind.i64.wrap l∨l ≠ IntKind.i64.wrap l:=Decidable.em _
   have hrun:AppRun P el i.bytes z (IntKind.i64.wrap l).toNat (concL μ (List.replicate (IntKind.i64.wrap l).toNat z).flatten) w (fun S=>Builtin.append_ #[t,u] o.type #[S,.int k l]):=by
    rw [concL_zero μ _ (flatten_lt hz0)]
    have hww:IntKind.i64.wrap (IntKind.i64.wrap l)=IntKind.i64.wrap l:=by unfold IntKind.wrap;simp [IntKind.bits,IntKind.signed];omega
    have:=appZ_run (ty:=o.type) (k:=k) (l:=IntKind.i64.wrap l) h1 h3 h2 hz hb hu hc.1 hc.2.1 hc.2.2 w
    have hsame:∀ S,Builtin.append_ #[t,u] o.type #[S,.int k l]=Builtin.append_ #[t,u] o.type #[S,.int k (IntKind.i64.wrap l)]∨True:=fun _=>.inr trivial
    constructor
    ·intro base len cap w' hf hst
     have g:=this.fits (base:=base) (len:=len) (cap:=cap) (w':=w') hf hst
     rw [← g]
     unfold Builtin.append_
     simp [run_und h1,run_und hu,asInt,asIntOf,hww]
    ·intro base len cap old hf hb' hold
     obtain ⟨nc,w1,g1,g2,g3,g4,g5,g6⟩:=this.grows (base:=base) (len:=len) (cap:=cap) (old:=old) hf hb' hold
     refine ⟨nc,w1,g1,g2,g3,g4,g5,?_⟩
     rw [← g6]
     unfold Builtin.append_
     simp [run_und h1,run_und hu,asInt,asIntOf,hww]
   obtain ⟨μ',w',hr,hg,hl,hrun⟩:=appendV_sound h hrun hls (flatten_lt (ltL_mono (Nat.zero_le _) z hz0)) (by simp) hap
   refine ⟨μ',w',_,hr,hg,hl,?_,.inl rfl⟩
   simp [execOp,hop,resolve,invoke,builtin,hcs,hcx,hrun]
  ·simp at hv
 ·simp at hv
theorem sE_copy (h:Rep P ng ts N0 μ σ w) (he:ltL σ.next e=true) {o:Oper} {t el u:TypeId} {k:Nat} {d s:Operand} (hop:o.op = .call {callee:=.builtin .copy,args:=#[d,s],argTypes:=#[t,u] })
  (h1:P.underlying t=some (.slice el)) (h2:szOf P el=some k) (hd:okOpd ng d=true) (hs:okOpd ng s=true) {v:Value} (hv:runE K e σ (.copy k (cOpd d) (cOpd s))=some (.ret v,σ')):ESound P ng ts N0 μ σ e o v σ' w:=by
 obtain ⟨_,hcs,hls⟩:=opV (e:=e) h.glob h.ngn he hs
 obtain ⟨_,hcd,hld⟩:=opV (e:=e) h.glob h.ngn he hd
 simp only [runE] at hv
 generalize (cOpd s).ev e=S at hv hcs hls
 generalize (cOpd d).ev e=D at hv hcd hld
 split at hv
 ·rename_i base dl dc
  split at hv
  ·rename_i n hn
   simp only [Option.bind_eq_some_iff] at hv
   obtain ⟨cs,hcs',hv⟩:=hv
   obtain ⟨hsrc,hnl,hnn⟩:=srcV_sound h hls hcs'
   have hlen:=lenV_sound (P:=P) (μ:=μ) hn w
   have hsrc0:=hsrc w rfl
   split at hv
   ·rename_i a
    split at hv
    ·simp at hv
    rename_i hsp
    simp only [Option.map_eq_some_iff,Prod.mk.injEq,IRet.ret.injEq] at hv
    obtain ⟨σ1,hw,rfl,rfl⟩:=hv
    rw [lt_ssome] at hld
    replace hld:a.block < σ.next∧a.spot=none:=⟨hld.1,by simpa using hsp⟩
    obtain ⟨w',hrun,hrep,hgo⟩:=wrN_sound h hw hnl
    refine ⟨μ,w',.value (.int .i64 (Nat.min n dl)),hrep,hgo,by simp,?_,.inl (by simp)⟩
    rw [← cAddr_eta μ a hld.2] at hrun
    simp [execOp,hop,resolve,invoke,builtin,hcs,hcd,Builtin.copy_,run_und h1,run_sz h2,hlen,hsrc0,hrun,goInt]
   ·simp only [Option.some.injEq,Prod.mk.injEq,IRet.ret.injEq] at hv
    obtain ⟨rfl,rfl⟩:=hv
    refine ⟨μ,w,.value (.int .i64 (Nat.min n dl)),h,Goes.refl _ _ _,by simp,?_,.inl (by simp)⟩
    simp [execOp,hop,resolve,invoke,builtin,hcs,hcd,Builtin.copy_,run_und h1,run_sz h2,hlen,hsrc0,goInt]
  ·simp at hv
 ·simp at hv
theorem sE_sdata (h:Rep P ng ts N0 μ σ w) (he:ltL σ.next e=true) {o:Oper} {ats:Array TypeId} {x:Operand} (hop:o.op = .call {callee:=.builtin .unsafeSliceData,args:=#[x],argTypes:=ats })
  (hx:okOpd ng x=true) {v:Value} (hv:runE K e σ (.sdata (cOpd x))=some (.ret v,σ')):ESound P ng ts N0 μ σ e o v σ' w:=by
 obtain ⟨_,hcx,hlx⟩:=opV (e:=e) h.glob h.ngn he hx
 simp only [runE] at hv
 generalize (cOpd x).ev e=X at hv hcx hlx
 split at hv
 ·simp only [Option.some.injEq,Prod.mk.injEq,IRet.ret.injEq] at hv
  obtain ⟨rfl,rfl⟩:=hv
  refine ⟨μ,w,.value (.pointer none),h,Goes.refl _ _ _,by simp,?_,.inl (by simp)⟩
  have:=Lib.run_unsafeSliceData_nil (P:=P) w ats o.type
  simp [execOp,hop,resolve,invoke,builtin,hcx,this]
 ·rename_i a m c
  split at hv
  ·simp at hv
  ·rename_i hc
   simp only [Option.some.injEq,Prod.mk.injEq,IRet.ret.injEq] at hv
   obtain ⟨rfl,rfl⟩:=hv
   rw [lt_ssome] at hlx
   replace hlx:a.block < σ.next∧a.spot=none:=⟨hlx.1,hlx.2.resolve_right (fun hz=>hc hz.2)⟩
   refine ⟨μ,w,.value (.pointer (some (cAddr μ a))),h,Goes.refl _ _ _,by simpa using hlx,?_,.inl (by simp)⟩
   have:=Lib.run_unsafeSliceData_row (P:=P) w ats o.type (cAddr μ a) m (c + (μ a.block).ex) (by omega)
   simp [execOp,hop,resolve,invoke,builtin,hcx,this]
 ·simp at hv
theorem liesAt_row {P:Program} {e:TypeId} (hc:P.cellsOf e=1) (count off n:Nat) (hn:off + n≤count):liesAt P P.depth e count off e n=true:=by
 obtain ⟨k,hk⟩:∃ k,P.depth=k + 1:=⟨2 * (P.types.size + Made.depth) + 1,by unfold Program.depth;omega⟩
 rw [hk]
 simp only [liesAt,Bool.or_eq_true]
 left
 rw [hk]
 simp [rowAt,hc,hn,sameLayout,Nat.mod_one]
theorem freeze_heap (w:World) (b o n:Nat) (hn:n ≠ 0) {C:Array Value} {t:TypeId} {fr:Nat × Nat} (h:w.heap[b]? = some (.cells C t fr)) :
  (∃ fr',(w.freeze ⟨b,o,none⟩ n).heap[b]? = some (.cells C t fr'))∧(w.freeze ⟨b,o,none⟩ n).heap.size=w.heap.size∧(∀ j,j ≠ b→(w.freeze ⟨b,o,none⟩ n).heap[j]? = w.heap[j]?)∧
  (w.freeze ⟨b,o,none⟩ n).os=w.os∧(w.freeze ⟨b,o,none⟩ n).tape=w.tape∧(w.freeze ⟨b,o,none⟩ n).output=w.output:=by
 unfold World.freeze
 rw [if_neg hn]
 obtain ⟨lo,hi⟩:=fr
 refine ⟨?_,by simp,?_,rfl,rfl,rfl⟩
 ·simp only [Array.getElem?_modify,h]
  exact ⟨_,by simp;rfl⟩
 ·intro j hj
  simp only [Array.getElem?_modify]
  rw [if_neg (by omega)]
theorem sE_ustr (h:Rep P ng ts N0 μ σ w) (he:ltL σ.next e=true) {o:Oper} {pt el:TypeId} {ats:Array TypeId} {x n:Operand} (hop:o.op = .call {callee:=.builtin .unsafeString,args:=#[x,n],argTypes:=ats }) (ha:ats[0]? = some pt)
  (h1:P.underlying pt=some (.pointer el)) (h2:szOf P el=some 1) (hx:okOpd ng x=true) (hn:okOpd ng n=true) {v:Value} (hv:runE K e σ (.ustr el (cOpd x) (cOpd n))=some (.ret v,σ')):ESound P ng ts N0 μ σ e o v σ' w:=by
 obtain ⟨_,hcx,hlx⟩:=opV (e:=e) h.glob h.ngn he hx
 obtain ⟨_,hcn,hln⟩:=opV (e:=e) h.glob h.ngn he hn
 have hmax:IntKind.i64.max=9223372036854775807:=rfl
 have hco:P.cellsOf el=1:=by
  simp only [szOf,Option.map_eq_some_iff] at h2
  obtain ⟨i,hi,hi2⟩:=h2
  simp [Program.cellsOf,hi,hi2]
 simp only [runE] at hv
 generalize (cOpd x).ev e=X at hv hcx hlx
 generalize (cOpd n).ev e=N at hv hcn hln
 split at hv
 ·rename_i p k m
  split at hv
  ·rename_i hm
   subst hm
   simp only [Option.some.injEq,Prod.mk.injEq,IRet.ret.injEq] at hv
   obtain ⟨rfl,rfl⟩:=hv
   refine ⟨μ,w,.value (.string .empty),h,Goes.refl _ _ _,by simp,?_,.inl (by simp)⟩
   have hrun:∀ q:Option Addr,(Builtin.unsafeString_ ats o.type #[.pointer q,.int k 0]).run P w = .ok (.string .empty) w:=by
    intro q
    have hdef:=(show Builtin.unsafeString_ ats o.type #[.pointer q,.int k 0]=(asInt (.int k 0) >>= _) from rfl)
    rw [hdef]
    cases q <;> simp [asInt,asIntOf,ha,hmax]
   cases p with
   | none=>simp [execOp,hop,resolve,invoke,builtin,hcx,hcn,hrun none]
   | some a=>simp [execOp,hop,resolve,invoke,builtin,hcx,hcn,hrun (some (cAddr μ a))]
  ·rename_i hm
   split at hv
   ·simp at hv
   ·rename_i hmb
    split at hv
    ·rename_i a
     split at hv
     ·rename_i b l hb hl
      split at hv
      ·simp at hv
      ·rename_i hc
       simp only [Bool.or_eq_true,bne_iff_ne,ne_eq,not_or,Decidable.not_not,Bool.not_eq_true] at hc
       obtain ⟨⟨hro,hret⟩,hty⟩:=hc
       simp only [Option.map_eq_some_iff,Prod.mk.injEq,IRet.ret.injEq] at hv
       obtain ⟨bs,hbs,rfl,rfl⟩:=hv
       rw [lt_psome] at hlx
       have hi:=cells?_some.1 hb
       have hcr:=h.cells hb
       obtain ⟨C,fr,hC1,hC2,hC3⟩:=hcr.mine (by simpa using hro)
       obtain ⟨_,_,hll⟩:=rdN_sound h hlx.2 hl
       obtain ⟨hbl,hbv⟩:=bytesOf_some hbs
       have hlb:∀ j y,l[j]? = some y→b.cs[a.off + j]? = some y:=by
        intro j y hj
        unfold AW.rdN at hl
        rw [hb] at hl
        simp only at hl
        obtain ⟨g1,g2⟩:=(cutV_some _ _ _).1 hl
        rw [dropV_eq] at g1 g2
        have hjl:j < l.length:=(List.getElem?_eq_some_iff.1 hj).1
        rw [g2,List.getElem?_take_of_lt (by omega),List.getElem?_drop] at hj
        exact hj
       have hcs:a.off + m.toNat≤b.cs.length:=by
        unfold AW.rdN at hl
        rw [hb] at hl
        simp only at hl
        obtain ⟨g1,g2⟩:=(cutV_some _ _ _).1 hl
        rw [dropV_eq] at g1
        simp at g1
        omega
       have hml:m.toNat=bs.length:=by omega
       have hrunb:(loadBytes (cAddr μ a) .empty m.toNat).run P w = .ok ⟨⟨bs⟩⟩ w:=by
        rw [hml]
        have:=Lib.run_loadBytes (P:=P) w bs (cAddr μ a) .empty (by
         intro j y hj
         have hjl:j < l.length:=by have:=(List.getElem?_eq_some_iff.1 hj).1;omega
         obtain ⟨q,hq1,hq2⟩:=hbv j _ (List.getElem?_eq_getElem hjl)
         have hq3:=hlb j _ (List.getElem?_eq_getElem hjl)
         have hcell:=hcr.at hq3
         rw [hq1] at hcell
         rw [cAddr_eta μ a hlx.2,add_mk,Nat.add_assoc,hcell]
         rw [hj] at hq2
         simp only [Option.some.injEq] at hq2
         rw [hq2.1,conc_int]
         congr 2
         have h5:(UInt8.ofNat q.toNat).toNat=q.toNat:=by
          rw [UInt8.toNat_ofNat'];omega
         omega)
        rw [this]
        simp [show ByteArray.empty.data = #[] from rfl]
       have hva:(variablesAt (cAddr μ a) el m.toNat).run P w = .ok true w:=by
        obtain ⟨ty',m',hty',_,hs⟩:=hcr.shape
        obtain ⟨e1,e2⟩:=hty' (by simpa using hro)
        rw [e1,e2] at hs
        have hs':w.shape? (cAddr μ a).block=some (el,(μ a.block).sh + b.cs.length + (μ a.block).ex * b.esz):=by rw [← hty];exact hs
        simp only [variablesAt,Sem.run_bind,run_program,Result.andThen_ok,run_shape,hs',hco,Nat.div_one,Sem.run_pure]
        rw [liesAt_row hco _ _ _ (by simp [cAddr];omega)]
       have hm0:m.toNat ≠ 0:=by omega
       obtain ⟨⟨fr',f1⟩,f2,f3,f4,f5,f6⟩:=freeze_heap w (μ a.block).blk ((μ a.block).sh + a.off) m.toNat hm0 hC1
       rw [← cAddr_eta μ a hlx.2] at f1 f2 f3 f4 f5 f6
       obtain ⟨hrep,hgo⟩:=h.update (b':={b with frozen:=true,al:=[] }) hi hro hret hro rfl f4 f5 f6 f2 f3 ⟨hcr.l,hcr.ex,hcr.sh0,by simp,C,_,fr',f1,fun _=>⟨rfl,hC2⟩,by simp only;omega,hC3⟩
       refine ⟨μ,_,.value (.string ⟨⟨bs⟩⟩),hrep,hgo,by simp,?_,.inl (by simp)⟩
       have hrun:(Builtin.unsafeString_ ats o.type #[.pointer (some (cAddr μ a)),.int k m]).run P w = .ok (.string ⟨⟨bs⟩⟩) (w.freeze (cAddr μ a) m.toNat):=by
        have hdef:=(show Builtin.unsafeString_ ats o.type #[.pointer (some (cAddr μ a)),.int k m]=(asInt (.int k m) >>= _) from rfl)
        rw [hdef]
        have hm1:¬ m < 0:=by omega
        have hm2:¬ (9223372036854775807 < m):=by omega
        simp [asInt,asIntOf,ha,hmax,hm,hm1,hm2,elemOf,run_und h1,hva,hrunb]
       simp [execOp,hop,resolve,invoke,builtin,hcx,hcn,hrun]
     ·simp at hv
    ·simp at hv
 ·simp at hv
end
end Go.Proofs.YtnpoloachkcadaaGreatDoor.Ai
namespace Go.Proofs.YtnpoloachkcadaaGreatDoor.Ai
open Go
set_option linter.unusedSimpArgs false
section
variable {P:Program} {ng:Nat} {ts:List TypeId} {N0:Bs} {μ μ':Nat→Loc} {σ σ':AW} {w w':World} {e:List Value} {K:Ks}
theorem Rep.updObj (h:Rep P ng ts N0 μ σ w) {i:Nat} {bo bn:Blk} (hi:σ.heap.get i=some bo) (hbo:∀ c,bo ≠ .cells c) (hbn:∀ c,bn ≠ .cells c)
  (hos:w'.os=w.os) (htp:w'.tape=w.tape) (hout:w'.output=w.output) (hsz:w'.heap.size=w.heap.size) (hoth:∀ j,j ≠ (μ i).blk→w'.heap[j]? = w.heap[j]?)
  (hb:BRep P ng ts μ σ.next i w' bn):Rep P ng ts N0 μ {σ with heap:=σ.heap.set i bn } w'∧Goes μ σ w μ {σ with heap:=σ.heap.set i bn } w':=by
 have him:=(h.blk i _ hi).2.1
 have hin:=(h.blk i _ hi).1
 have hro:isRo bo=false:=by cases bo <;> first | exact absurd rfl (hbo _) | rfl
 have hrn:isRo bn=false:=by cases bn <;> first | exact absurd rfl (hbn _) | rfl
 have hget:∀ k,(σ.heap.set i bn).get k=if k=i then some bn else σ.heap.get k:=fun k=>Tr.get_set _ _ _ _ (by unfold most at him;omega)
 have hsep:∀ k c,σ.heap.get k=some c→k ≠ i→(μ k).blk ≠ (μ i).blk:=by
  intro k c hk hne he
  cases hr:isRo c with
  | true=>
   have:=h.ro k c hk hr
   have:=(h.own i _ hi hro).1
   omega
  | false=>
   rcases Nat.lt_or_gt_of_ne hne with hlt | hgt
   ·obtain ⟨ci,cj,e1,e2,_⟩:=h.dis k i c _ hk hi hr hro hlt he
    exact hbo _ e2
   ·obtain ⟨ci,cj,e1,e2,_⟩:=h.dis i k _ c hi hk hro hr hgt he.symm
    exact hbo _ e1
 refine ⟨⟨h.glob,h.ngn,?_,?_,?_,?_,?_,⟨by rw [hsz];exact h.big.1,fun B hB=>by have:=(h.own i _ hi hro).1;rw [hoth B (by omega)];exact h.big.2 B hB⟩⟩,⟨Nat.le_refl _,fun _ _=>rfl,hos,htp,hout,by omega,?_,?_⟩⟩
 ·intro k c hk
  rw [hget] at hk
  split at hk
  ·rename_i hks;subst hks;simp at hk;subst hk;exact ⟨hin,him,hb⟩
  ·rename_i hks
   obtain ⟨h1,h2,h3⟩:=h.blk k c hk
   exact ⟨h1,h2,h3.mono (fun _ _=>rfl) h1 (Nat.le_refl _) (hoth _ (hsep k c hk hks))⟩
 ·intro k c hk hr
  rw [hget] at hk
  rw [hsz]
  split at hk
  ·rename_i hks;subst hks;exact h.own k _ hi hro
  ·exact h.own k c hk hr
 ·intro k c hk hr
  rw [hget] at hk
  split at hk
  ·simp at hk;subst hk;rw [hrn] at hr;simp at hr
  ·exact h.ro k c hk hr
 ·intro k j bk bj hk hj hrk hrj hkj he
  rw [hget] at hk hj
  split at hk
  ·rename_i hks
   split at hj
   ·omega
   ·exact absurd (hks ▸ he).symm (hsep j bj hj (by omega))
  ·split at hj
   ·rename_i hjs;exact absurd (hjs ▸ he) (hsep k bk hk (by omega))
   ·exact h.dis k j bk bj hk hj hrk hrj hkj he
 ·intro j cj hj k hk
  rw [hget] at hj
  split at hj
  ·simp at hj;exact absurd hj (hbn _)
  ·obtain ⟨g1,g2⟩:=h.al j cj hj k hk
   refine ⟨g1,fun bk hbk=>?_⟩
   rw [hget] at hbk
   split at hbk
   ·rename_i hks;subst hks
    obtain ⟨ck,e1,_⟩:=g2 _ hi
    exact absurd e1 (hbo _)
   ·exact g2 bk hbk
 ·intro B hB hn
  exact hoth B fun he=>hn i _ hi hro he.symm
 ·intro k c hk hr
  right
  rw [hget] at hk
  split at hk
  ·rename_i hks;subst hks;exact ⟨k,_,hi,hro,rfl⟩
  ·exact ⟨k,c,hk,hr,rfl⟩
theorem run_setObj {l:Nat} {o o':Obj} (h:w.heap[l]? = some o) (ho:∀ c t f,o ≠ .cells c t f):(setObj l o').run P w = .ok () {w with heap:=w.heap.setIfInBounds l o' }:=by
 cases o <;> first | exact absurd rfl (ho _ _ _) | simp [setObj,Sem.run,h]
theorem setIf_get {A:Array Obj} {l j:Nat} {o:Obj} (hne:j ≠ l):(A.setIfInBounds l o)[j]? = A[j]?:=by
 rw [Array.getElem?_setIfInBounds];rw [if_neg (by omega)]
theorem setIf_same {A:Array Obj} {l:Nat} {o o':Obj} (h:A[l]? = some o'):(A.setIfInBounds l o)[l]? = some o:=by
 have:=(Array.getElem?_eq_some_iff.1 h).1
 rw [Array.getElem?_setIfInBounds];simp [this]
theorem setAt_get:∀ (es:List (Value × Value × Nat)) (i:Nat) (k v:Value) (j:Nat),(setAt es i k v)[j]? = if j=i then (es[j]?).map fun x=>(k,v,x.2.2) else es[j]?
 | [],i,k,v,j=>by simp [setAt]
 | (a,b,c)::l,0,k,v,j=>by
  cases j <;> simp [setAt]
 | x::l,i + 1,k,v,j=>by
  cases j with
  | zero=>simp [setAt]
  | succ j=>simp [setAt,setAt_get l i k v j]
theorem sameK_bits {a b:Value} (h:sameK a b=true):Instr.sameBits 10000 (conc μ a) (conc μ b)=true:=by
 unfold sameK at h
 split at h <;> (try simp at h)
 ·simp [Instr.sameBits,h]
 ·simp [Instr.sameBits,h]
 ·simp [Instr.sameBits,h]
 ·rename_i x y
  have key:∀ (x y:List Value),sameK.sameKs x y=true→x.length=y.length∧((concL μ x).zip (concL μ y)).all (fun (p:Value × Value)=>Instr.sameBits 9999 p.1 p.2)=true:=by
   intro x
   induction x with
   | nil=>intro y h;cases y <;> simp [sameK.sameKs] at h ⊢;simp [concL]
   | cons u x ih=>
    intro y h
    cases y with
    | nil=>cases u <;> simp [sameK.sameKs] at h
    | cons v y=>
     cases u <;> cases v <;> simp only [sameK.sameKs,Bool.and_eq_true,Bool.false_eq_true] at h
     all_goals
      obtain ⟨h1,h2⟩:=ih y h.2
      refine ⟨by simp [h1],?_⟩
      simp only [concL,List.zip_cons_cons,List.all_cons,Bool.and_eq_true]
      refine ⟨?_,h2⟩
      simp_all [Instr.sameBits]
  obtain ⟨h1,h2⟩:=key x y h
  simp only [conc_agg,Instr.sameBits,Bool.and_eq_true]
  refine ⟨by simp [concL_length,h1],?_⟩
  simpa using h2
theorem sameAt_bits:∀ {es:List (Value × Value × Nat)} {i:Nat} {k:Value},sameAt es i k=true→∃ x,es[i]? = some x∧sameK x.1 k=true
 | [],_,_,h=>by simp [sameAt] at h
 | (k',v,c)::l,0,k,h=>⟨(k',v,c),by simp,by simpa [sameAt] using h⟩
 | x::l,i + 1,k,h=>by
  obtain ⟨y,h1,h2⟩:=sameAt_bits (es:=l) (i:=i) (k:=k) (by simpa [sameAt] using h)
  exact ⟨y,by simpa using h1,h2⟩
theorem bornAt_eq:∀ (es:List (Value × Value × Nat)) (i:Nat),bornAt es i=((es[i]?).map (·.2.2)).getD 0
 | [],_=>by simp [bornAt]
 | (_,_,c)::l,0=>by simp [bornAt]
 | x::l,i + 1=>by simp [bornAt,bornAt_eq l i]
theorem findB_some {b:Int}:∀ {es:List (Value × Value × Nat)} {i j:Nat} {k:Value},findB b es i=some (j,k)→
  i≤j∧∃ x,es[j - i]? = some x∧x.1=k∧(es.map (cEnt μ)).findIdx? (fun e=>(e.born:Int) == b)=some (j - i)
 | [],_,_,_,h=>by simp [findB] at h
 | (k',v,c)::l,i,j,k,h=>by
  simp only [findB] at h
  split at h
  ·rename_i hc
   simp at h
   obtain ⟨rfl,rfl⟩:=h
   exact ⟨Nat.le_refl _,(k',v,c),by simp,rfl,by simp [List.findIdx?_cons,cEnt,hc]⟩
  ·rename_i hc
   obtain ⟨h1,x,h2,h3,h4⟩:=findB_some h
   refine ⟨by omega,x,?_,h3,?_⟩
   ·rw [show j - i=(j - (i + 1)) + 1 by omega];simpa using h2
   ·rw [show j - i=(j - (i + 1)) + 1 by omega]
    have hc':((cEnt μ (k',v,c)).born:Int) == b↔False:=by simpa [cEnt] using hc
    rw [List.map_cons,List.findIdx?_cons,h4]
    simp only [hc',if_false,Option.map_some]
theorem Rep.setMap (h:Rep P ng ts N0 μ σ w) {r:Nat} {es es':List (Value × Value × Nat)} {cl cl':Nat} (hr:σ.heap.get r=some (.map es cl)) (hl:∀ x∈es',lt σ.next x.1=true∧lt σ.next x.2.1=true) {A:Array MapEntry} (hA:A=(es'.map (cEnt μ)).toArray) :
  (setObj (μ r).blk (.map A cl')).run P w = .ok () {w with heap:=w.heap.setIfInBounds (μ r).blk (.map A cl') }∧
  Rep P ng ts N0 μ {σ with heap:=σ.heap.set r (.map es' cl') } {w with heap:=w.heap.setIfInBounds (μ r).blk (.map A cl') }∧Goes μ σ w μ {σ with heap:=σ.heap.set r (.map es' cl') } {w with heap:=w.heap.setIfInBounds (μ r).blk (.map A cl') }:=by
 have hb:=(h.blk r _ hr).2.2
 have ho:=hb.o
 refine ⟨run_setObj ho (by simp),?_⟩
 exact h.updObj (w':={w with heap:=w.heap.setIfInBounds (μ r).blk (.map A cl') }) hr (by simp) (bn:=.map es' cl') (by simp) rfl rfl rfl (by simp) (fun j hj=>setIf_get hj) ⟨hl,by subst hA;exact setIf_same ho⟩
theorem setAt_lt {es:List (Value × Value × Nat)} {i n:Nat} {k v:Value} (h:∀ x∈es,lt n x.1=true∧lt n x.2.1=true) (hk:lt n k=true) (hv:lt n v=true):∀ x∈setAt es i k v,lt n x.1=true∧lt n x.2.1=true:=by
 intro x hx
 obtain ⟨j,hj⟩:=List.getElem?_of_mem hx
 rw [setAt_get] at hj
 split at hj
 ·simp only [Option.map_eq_some_iff] at hj
  obtain ⟨y,_,rfl⟩:=hj
  exact ⟨hk,hv⟩
 ·exact h x (List.mem_of_getElem? hj)
theorem modify_eq {es:List (Value × Value × Nat)} {i:Nat} {k v:Value} {f:MapEntry→MapEntry} (hf:∀ x,es[i]? = some x→f (cEnt μ x)=cEnt μ (k,v,x.2.2)) :
  ((es.map (cEnt μ)).toArray.modify i f)=((setAt es i k v).map (cEnt μ)).toArray:=by
 apply Array.ext'
 apply List.ext_getElem?
 intro j
 simp only [Array.toList_modify,List.getElem?_modify,List.getElem?_map,setAt_get]
 by_cases hj:j=i
 ·subst hj
  simp only [if_true]
  cases hx:es[j]? with
  | none=>simp
  | some x=>simp [hf x hx]
 ·have hj':¬ i=j:=fun h=>hj h.symm
  rw [if_neg hj]
  simp [hj']
theorem sE_mapUpd (h:Rep P ng ts N0 μ σ w) (he:ltL σ.next e=true) {o:Oper} {t kt el:TypeId} {q:EqT} {m k x:Operand} (hop:o.op = .mapUpdate t m k x∨o.op = .insert t m k x)
  (ht:P.underlying t=some (.map kt el)) (hq:cKey P kt=some q) (hm:okOpd ng m=true) (hk:okOpd ng k=true) (hx:okOpd ng x=true)
  {v:Value} (hv:runE K e σ (.mapUpd q (cOpd m) (cOpd k) (cOpd x))=some (.ret v,σ')):ESound P ng ts N0 μ σ e o v σ' w:=by
 obtain ⟨_,hcm,hlm⟩:=opV (e:=e) h.glob h.ngn he hm
 obtain ⟨_,hck,hlk⟩:=opV (e:=e) h.glob h.ngn he hk
 obtain ⟨_,hcx,hlx⟩:=opV (e:=e) h.glob h.ngn he hx
 simp only [runE] at hv
 generalize (cOpd m).ev e=M at hv hcm hlm
 generalize (cOpd k).ev e=Kk at hv hck hlk
 generalize (cOpd x).ev e=X at hv hcx hlx
 split at hv
 ·rename_i r
  split at hv
  ·rename_i es cl hr
   obtain ⟨hget,hents⟩:=map_ents h hr
   split at hv
   ·rename_i hK
    have hchk:=fun em=>checkKey_run (μ:=μ) hq hK em 9998 w
    split at hv
    ·rename_i i vv hf
     have hfr:=findKey_run (μ:=μ) hq hK w hf
     split at hv
     ·rename_i hsame
      simp only [Option.some.injEq,Prod.mk.injEq,IRet.ret.injEq] at hv
      obtain ⟨rfl,rfl⟩:=hv
      obtain ⟨y,hy,hsk⟩:=sameAt_bits hsame
      have hbits:=sameK_bits (μ:=μ) hsk
      have hmod:((es.map (cEnt μ)).toArray.modify i fun e=>{e with key:=conc μ Kk,val:=conc μ X })=((setAt es i Kk X).map (cEnt μ)).toArray:=modify_eq (fun x _=>rfl)
      obtain ⟨g1,g2,g3⟩:=h.setMap (cl':=cl) hr (setAt_lt (i:=i) hents hlk hlx) hmod
      refine ⟨μ,_,.skip,g2,g3,lt_undef _,?_,.inr ⟨rfl,rfl⟩⟩
      have hkey:((((es.map (cEnt μ)).toArray[i]?).map (·.key)).getD (conc μ Kk))=conc μ y.1:=by simp [hy,cEnt]
      rcases hop with hop | hop
      all_goals
       simp only [execOp,hop,hcm,hck,hcx,Instr.mapUpdate,Sem.run_bind,run_und ht,Result.andThen_ok,conc_msome,hget,hchk,hfr,Option.map_some]
       rw [hkey]
       simp only [Instr.keyThatStays,hbits,if_true,Sem.run_pure,Result.andThen_ok,g1]
     ·simp at hv
    ·rename_i hf
     have hfr:=findKey_run (μ:=μ) hq hK w hf
     simp only [Option.some.injEq,Prod.mk.injEq,IRet.ret.injEq] at hv
     obtain ⟨rfl,rfl⟩:=hv
     have hpush:((es.map (cEnt μ)).toArray.push {key:=conc μ Kk,val:=conc μ X,born:=cl })=((es++[(Kk,X,cl)]).map (cEnt μ)).toArray:=by simp [cEnt]
     obtain ⟨g1,g2,g3⟩:=h.setMap (cl':=cl + 1) hr (es':=es++[(Kk,X,cl)]) (by
      intro x hx
      rcases List.mem_append.1 hx with h1 | h1
      ·exact hents x h1
      ·simp at h1;subst h1;exact ⟨hlk,hlx⟩) hpush
     refine ⟨μ,_,.skip,g2,g3,lt_undef _,?_,.inr ⟨rfl,rfl⟩⟩
     rcases hop with hop | hop <;> simp only [execOp,hop,hcm,hck,hcx,Instr.mapUpdate,Sem.run_bind,run_und ht,Result.andThen_ok,conc_msome,hget,hchk,hfr,Option.map_none,g1,Sem.run_pure]
    ·simp at hv
   ·simp at hv
  ·simp at hv
 ·simp at hv
theorem sE_mapEnt (h:Rep P ng ts N0 μ σ w) (he:ltL σ.next e=true) {o:Oper} {t kt el:TypeId} {q:EqT} {z:Value} {m k:Operand} (hop:o.op = .mapEntry t m k)
  (ht:P.underlying t=some (.map kt el)) (hq:cKey P kt=some q) (hz:zeroOf P el=some z) (hm:okOpd ng m=true) (hk:okOpd ng k=true)
  {v:Value} (hv:runE K e σ (.mapEnt q z (cOpd m) (cOpd k))=some (.ret v,σ')):ESound P ng ts N0 μ σ e o v σ' w:=by
 obtain ⟨_,hcm,hlm⟩:=opV (e:=e) h.glob h.ngn he hm
 obtain ⟨_,hck,hlk⟩:=opV (e:=e) h.glob h.ngn he hk
 obtain ⟨hz0,hzr⟩:=zeroOf_some hz
 simp only [runE] at hv
 generalize (cOpd m).ev e=M at hv hcm hlm
 generalize (cOpd k).ev e=Kk at hv hck hlk
 split at hv
 ·rename_i r
  split at hv
  ·rename_i es cl hr
   obtain ⟨hget,hents⟩:=map_ents h hr
   split at hv
   ·rename_i hK
    have hchk:=fun em=>checkKey_run (μ:=μ) hq hK em 9998 w
    split at hv
    ·rename_i i vv hf
     have hfr:=findKey_run (μ:=μ) hq hK w hf
     obtain ⟨_,en,hen,hen2⟩:=findK_lt hf
     simp only [Nat.sub_zero] at hen
     have hlv:lt σ.next vv=true:=by
      have:=(hents en (List.mem_of_getElem? hen)).2
      rwa [hen2] at this
     split at hv
     ·rename_i hsame
      simp only [Option.some.injEq,Prod.mk.injEq,IRet.ret.injEq] at hv
      obtain ⟨rfl,rfl⟩:=hv
      obtain ⟨y,hy,hsk⟩:=sameAt_bits hsame
      have hbits:=sameK_bits (μ:=μ) hsk
      have hmod:((es.map (cEnt μ)).toArray.modify i fun e=>{e with key:=conc μ Kk })=((setAt es i Kk vv).map (cEnt μ)).toArray:=modify_eq (fun x hx=>by
       rw [hen] at hx;simp at hx;subst hx;simp [cEnt,hen2])
      obtain ⟨g1,g2,g3⟩:=h.setMap (cl':=cl) hr (setAt_lt (i:=i) hents hlk hlv) hmod
      refine ⟨μ,_,_,g2,g3,by simp [ltL,hlv],?_,.inl rfl⟩
      simp only [execOp,hop,hcm,hck,Instr.mapEntry,Sem.run_bind,run_und ht,Result.andThen_ok,conc_msome,hget,hchk,hfr,Option.map_some]
      have hkey:((((es.map (cEnt μ)).toArray[i]?).map (·.key)).getD (conc μ Kk))=conc μ y.1:=by simp [hy,cEnt]
      have hborn:((((es.map (cEnt μ)).toArray[i]?).map (fun x=>(x.born:Int))).getD 0)=(bornAt es i:Int):=by simp [bornAt_eq,hy,cEnt]
      rw [hkey,hborn]
      simp only [Instr.keyThatStays,hbits,if_true,Sem.run_pure,Result.andThen_ok,g1,Sem.run_bind]
      simp [concL,goInt]
     ·simp at hv
    ·rename_i hf
     have hfr:=findKey_run (μ:=μ) hq hK w hf
     simp only [Option.some.injEq,Prod.mk.injEq,IRet.ret.injEq] at hv
     obtain ⟨rfl,rfl⟩:=hv
     have hz1:lt σ.next z=true:=lt_mono (Nat.zero_le _) _ hz0
     have hpush:((es.map (cEnt μ)).toArray.push {key:=conc μ Kk,val:=z,born:=cl })=((es++[(Kk,z,cl)]).map (cEnt μ)).toArray:=by simp [cEnt,conc_zero μ _ hz0]
     obtain ⟨g1,g2,g3⟩:=h.setMap (cl':=cl + 1) hr (es':=es++[(Kk,z,cl)]) (by
      intro x hx
      rcases List.mem_append.1 hx with h1 | h1
      ·exact hents x h1
      ·simp at h1;subst h1;exact ⟨hlk,hz1⟩) hpush
     refine ⟨μ,_,_,g2,g3,by simp [ltL,hz1],?_,.inl rfl⟩
     simp only [execOp,hop,hcm,hck,Instr.mapEntry,Sem.run_bind,run_und ht,Result.andThen_ok,conc_msome,hget,hchk,hfr,Option.map_none,hzr,g1,Sem.run_pure]
     simp [concL,goInt,conc_zero μ _ hz0]
    ·simp at hv
   ·simp at hv
  ·simp at hv
 ·simp at hv
theorem sE_entSt (h:Rep P ng ts N0 μ σ w) (he:ltL σ.next e=true) {o:Oper} {t:TypeId} {m s x:Operand} (hop:o.op = .entryStore t m s x)
  (hm:okOpd ng m=true) (hs:okOpd ng s=true) (hx:okOpd ng x=true)
  {v:Value} (hv:runE K e σ (.entSt (cOpd m) (cOpd s) (cOpd x))=some (.ret v,σ')):ESound P ng ts N0 μ σ e o v σ' w:=by
 obtain ⟨_,hcm,hlm⟩:=opV (e:=e) h.glob h.ngn he hm
 obtain ⟨_,hcs,hls⟩:=opV (e:=e) h.glob h.ngn he hs
 obtain ⟨_,hcx,hlx⟩:=opV (e:=e) h.glob h.ngn he hx
 simp only [runE] at hv
 generalize (cOpd m).ev e=M at hv hcm hlm
 generalize (cOpd s).ev e=S at hv hcs hls
 generalize (cOpd x).ev e=X at hv hcx hlx
 split at hv
 ·rename_i r k b
  split at hv
  ·rename_i es cl hr
   obtain ⟨hget,hents⟩:=map_ents h hr
   split at hv
   ·rename_i i kk hf
    simp only [Option.some.injEq,Prod.mk.injEq,IRet.ret.injEq] at hv
    obtain ⟨rfl,rfl⟩:=hv
    obtain ⟨_,y,hy,hyk,hidx⟩:=findB_some (μ:=μ) hf
    simp only [Nat.sub_zero] at hy hidx
    have hmod:((es.map (cEnt μ)).toArray.modify i fun e=>{e with val:=conc μ X })=((setAt es i kk X).map (cEnt μ)).toArray:=modify_eq (fun x hx=>by
     rw [hy] at hx;simp at hx;subst hx;simp [cEnt,hyk])
    have hlkk:lt σ.next kk=true:=by
     have:=(hents y (List.mem_of_getElem? hy)).1
     rwa [hyk] at this
    obtain ⟨g1,g2,g3⟩:=h.setMap (cl':=cl) hr (setAt_lt (i:=i) hents hlkk hlx) hmod
    refine ⟨μ,_,.skip,g2,g3,lt_undef _,?_,.inr ⟨rfl,rfl⟩⟩
    have hidx':((es.map (cEnt μ)).toArray.findIdx? fun e=>(e.born:Int) == b)=some i:=by simpa using hidx
    simp only [execOp,hop,hcm,hcs,hcx,Instr.entryStore,Sem.run_bind,Result.andThen_ok,conc_msome,conc_int,hget,asInt,asIntOf,Sem.run_pure,hidx',g1]
   ·simp at hv
  ·simp at hv
 ·simp at hv
theorem sE_clear (h:Rep P ng ts N0 μ σ w) (he:ltL σ.next e=true) {o:Oper} {t el:TypeId} {z:List Value} {x:Operand} (hop:o.op = .call {callee:=.builtin .clear,args:=#[x],argTypes:=#[t] })
  (ht:P.underlying t=some (.slice el)) (hz:zeroCells P el=some z) (hz0:z.length ≠ 0) (hx:okOpd ng x=true) {v:Value} (hv:runE K e σ (.clear z (cOpd x))=some (.ret v,σ')):ESound P ng ts N0 μ σ e o v σ' w:=by
 obtain ⟨_,hcx,hlx⟩:=opV (e:=e) h.glob h.ngn he hx
 simp only [runE] at hv
 generalize (cOpd x).ev e=X at hv hcx hlx
 have hrun:execOp (evc μ e) o=(do let v ← Builtin.clear_ #[t] o.type #[evc μ e x];pure (.value v)):=by
  simp [execOp,hop,resolve,invoke,builtin]
 split at hv
 ·rename_i n c
  simp only [Option.some.injEq,Prod.mk.injEq,IRet.ret.injEq] at hv
  obtain ⟨rfl,rfl⟩:=hv
  refine ⟨μ,w,_,h,Goes.refl _ _ _,by simp [ltL],?_,.inl rfl⟩
  rw [hrun,hcx]
  simp [Builtin.clear_,run_und ht,concL]
 ·rename_i a n c
  rw [lt_ssome] at hlx
  split at hv
  ·rename_i hn
   subst hn
   simp only [Option.some.injEq,Prod.mk.injEq,IRet.ret.injEq] at hv
   obtain ⟨rfl,rfl⟩:=hv
   refine ⟨μ,w,_,h,Goes.refl _ _ _,by simp [ltL],?_,.inl rfl⟩
   rw [hrun,hcx]
   simp [Builtin.clear_,run_und ht,concL]
  ·rename_i hn
   replace hlx:=And.intro hlx.1 (hlx.2.resolve_right (fun hz=>hn hz.1))
   simp only [Option.map_eq_some_iff,Prod.mk.injEq,IRet.ret.injEq] at hv
   obtain ⟨σ1,hw,rfl,rfl⟩:=hv
   obtain ⟨_,_,_,_,hzl,_⟩:=zeroCells_some hz
   obtain ⟨w',hst,hrep,hgo⟩:=wrN_sound h hw (flatten_lt (ltL_mono (Nat.zero_le _) z hzl))
   obtain ⟨zv,hzr,hzv⟩:=zeroCells_run hz w
   have hzc:Builtin.zeroCells zv.cells n=((List.replicate n z).flatten).toArray:=by
    unfold Builtin.zeroCells
    rw [hzv]
    simpa using zeros_eq z n hz0
   rw [concL_zero μ _ (flatten_lt hzl)] at hst
   refine ⟨μ,w',_,hrep,hgo,by simp [ltL],?_,.inl rfl⟩
   rw [hrun,hcx]
   obtain ⟨m,rfl⟩:∃ m,n=m + 1:=⟨n - 1,by omega⟩
   simp only [conc_ssome,Builtin.clear_,Sem.run_bind,List.getElem?_toArray,List.getElem?_cons_zero,run_und ht,Result.andThen_ok]
   rw [cAddr_eta μ a hlx.2]
   simp only [hzr,Result.andThen_ok,hzc,hst,Sem.run_bind,Sem.run_pure]
   simp [concL]
 ·simp at hv
theorem sE_s2b (h:Rep P ng ts N0 μ σ w) (he:ltL σ.next e=true) {o:Oper} {src dst el:TypeId} {x:Operand} (hop:o.op = .convert src dst x) (h1:P.underlying src=some .string) (h2:P.underlying dst=some (.slice el))
  (h3:P.underlying el=some (.int .u8)) (hx:okOpd ng x=true) {v:Value} (hv:runE K e σ (.s2b el (cOpd x))=some (.ret v,σ')):ESound P ng ts N0 μ σ e o v σ' w:=by
 obtain ⟨_,hcx,hlx⟩:=opV (e:=e) h.glob h.ngn he hx
 simp only [runE] at hv
 generalize (cOpd x).ev e=X at hv hcx hlx
 split at hv
 ·rename_i s
  simp only [Option.map_eq_some_iff,Prod.mk.injEq,IRet.ret.injEq,Prod.exists] at hv
  obtain ⟨i,σ1,hp,rfl,rfl⟩:=hv
  obtain ⟨nc,hnc⟩:∃ nc,(Question.appendCap s.size 0 el).cut (w.tape w.drawn (Question.appendCap s.size 0 el))=nc:=⟨_,rfl⟩
  have hle:s.size≤nc:=by rw [← hnc];show _≤s.size + _;omega
  have hfor:(Question.appendCap s.size 0 el).forced=false:=rfl
  have hcs:(concL μ (strCells s))=strCells s:=concL_zero μ _ (strCells_zero s)
  have hlen:(strCells s).length=s.size:=by simp [strCells]
  let C:Array Value:=(strCells s++List.replicate (nc - s.size) (Value.int .u8 0)).toArray
  have hCs:C.size=nc:=by simp [C,hlen];omega
  have hC:(s.data.map fun b=>Value.int .u8 b.toNat)++Array.replicate (nc - s.size) (Value.int .u8 0)=C:=by
   apply Array.ext'
   simp [C,strCells]
  let w1:World:=w.drew.alloc (.cells C el)
  let w':World:=w1.freeze ⟨w.heap.size,nc,none⟩ 1
  have hw1:w1.heap=w.heap.push (.cells C el):=rfl
  have hat:w1.heap[w.heap.size]? = some (.cells C el (0,0)):=by rw [hw1];simp
  have hh:w'.heap=w.heap.push (.cells C el (nc,nc + 1)):=by
   show (w1.freeze ⟨w.heap.size,nc,none⟩ 1).heap=_
   unfold World.freeze
   simp only [Nat.one_ne_zero,if_false,hw1]
   apply Array.ext
   ·simp
   ·intro j h1 h2
    simp only [Array.getElem_modify,Array.getElem_push]
    split
    ·rename_i hj
     subst hj
     simp
    ·simp only [Array.size_modify,Array.size_push] at h1
     rw [dif_pos (by omega),dif_pos (by omega)]
  have hget:w'.heap[w.heap.size]? = some (.cells C el (nc,nc + 1)):=by rw [hh];simp
  obtain ⟨rfl,hn,hrep,hgo⟩:=h.push hp (w':=w') (ob:=.cells C el (nc,nc + 1)) (ex:=nc - s.size) (by simp [isRo,newCB]) (by intro c hc j hj;simp at hc;subst hc;simp [newCB] at hj) rfl rfl rfl hh (by
   refine ⟨ltL_mono (Nat.zero_le _) _ (strCells_zero s),by simp [newCB],by simp [newCB],?_,C,el,(nc,nc + 1),?_,fun _=>⟨rfl,?_⟩,?_,?_⟩
   ·intro _ k _ hk
    rw [upd_same] at hk ⊢
    simp only [newCB,hlen] at hk
    simp only [World.frozen?,hget]
    simp;omega
   ·rw [upd_same];exact hget
   ·rw [upd_same,hCs];simp [newCB,hlen];omega
   ·rw [upd_same,hCs];simp [newCB,hlen];omega
   ·intro k v hk
    rw [upd_same]
    have hk':(strCells s)[k]? = some v:=hk
    have hlt:k < (strCells s).length:=(List.getElem?_eq_some_iff.1 hk').1
    rw [conc_zero _ _ (ltL_getElem (strCells_zero s) hk')]
    simp only [Nat.zero_add,C,List.getElem?_toArray]
    rw [List.getElem?_append_left hlt,hk'])
  refine ⟨_,w',_,hrep,hgo,by simp [hn],?_,.inl rfl⟩
  simp only [execOp,hop,hcx,conc_string]
  simp only [Go.convert,Sem.run_bind,run_und h1,run_und h2,Result.andThen_ok,run_und h3,Conv.stringToBytes]
  have hs:w1.shape? w.heap.size=some (el,nc):=by simp [World.shape?,hat,hCs]
  have hmk:(markStringish ⟨w.heap.size,0,none⟩).run P w1 = .ok () w':=by
   simp only [markStringish,Sem.run_bind,run_shape,hs,Result.andThen_ok]
   rfl
  simp [hfor,hnc,newRow,hC]
  rw [show w.drew.alloc (.cells C el)=w1 from rfl,hmk]
  simp [cAddr,upd_same]
  omega
 ·simp at hv
end
end Go.Proofs.YtnpoloachkcadaaGreatDoor.Ai
namespace Go.Proofs.YtnpoloachkcadaaGreatDoor.Ai
open Go
set_option linter.unusedSimpArgs false
def isCallE:EOp→Bool
 | .call _ _ | .callv _ _ | .invoke _ _ _ | .panic _=>true
 | _=>false
section
variable {P:Program} {ng:Nat} {ts:List TypeId} {N0:Bs} {μ μ':Nat→Loc} {σ σ':AW} {w w':World} {e:List Value} {K:Ks}
theorem evE_sound (h:Rep P ng ts N0 μ σ w) (he:ltL σ.next e=true) {o:Oper} {q:EOp} (hc:cOp P ts o.op=some (.e q)) (hq:isCallE q=false) (ho:okOp ng o.op=true) {v:Value} (hv:runE K e σ q=some (.ret v,σ')):ESound P ng ts N0 μ σ e o v σ' w:=by
 generalize hop:o.op=op at hc ho
 cases op with
 | store t a x=>
  have h':=okOp_2 ho rfl
  simp only [cOp] at hc
  split at hc
  ·rename_i k hk;simp at hc;subst hc;exact sE_st h he hop hk h'.1 h'.2 hv
  ·simp at hc
 | call c=>
  obtain ⟨callee,args,ats⟩:=c
  have h':=ok_arr ho rfl
  simp only [Op.operands,Call.operands] at h'
  have h'':∀ x∈args.toList,okOpd ng x=true:=fun x hx=>h' x (by simp;exact .inr (by simpa using hx))
  simp only [cOp] at hc
  cases callee with
  | builtin b=>
   simp only at hc
   unfold cBuiltin at hc
   split at hc
   ·(repeat' split at hc) <;> simp at hc
   ·(repeat' split at hc) <;> simp at hc
   ·simp at hc
   ·simp at hc
   ·rename_i s x t u ha ht
    have ha':args = #[s,x]:=by apply Array.ext';simpa using ha
    have ht':ats = #[t,u]:=by apply Array.ext';simpa using ht
    subst ha' ht'
    split at hc
    ·rename_i el h1
     split at hc
     ·rename_i z i ku h2 h3 hu
      split at hc
      ·simp at hc
      ·rename_i hz
       simp at hz
       simp at hc;subst hc
       exact sE_appendZ h he hop h1 h2 h3 (by simpa using hz.1) hz.2 hu (h'' s (by simp)) (h'' x (by simp)) hv
     ·rename_i z i h2 h3 hu
      split at hc
      ·rename_i hz
       simp at hz
       simp at hc;subst hc
       exact sE_append h he hop h1 h2 h3 (by omega) (by omega) (.inl hu) (h'' s (by simp)) (h'' x (by simp)) hz.1.symm hz.2.symm hv
      ·simp at hc
     ·rename_i z i e' h2 h3 hu
      split at hc
      ·simp at hc
      ·rename_i hz
       simp at hz
       simp at hc;subst hc
       exact sE_append h he hop h1 h2 h3 (by simpa using hz.1) hz.2 (.inr ⟨e',hu⟩) (h'' s (by simp)) (h'' x (by simp)) rfl rfl hv
     ·simp at hc
    ·simp at hc
   ·rename_i d s t u ha ht
    have ha':args = #[d,s]:=by apply Array.ext';simpa using ha
    have ht':ats = #[t,u]:=by apply Array.ext';simpa using ht
    subst ha' ht'
    split at hc
    ·rename_i el h1
     split at hc
     ·rename_i z h2
      split at hc
      ·simp at hc
      ·simp at hc;subst hc
       obtain ⟨_,_,_,hsz,_,_⟩:=zeroCells_some h2
       exact sE_copy h he hop h1 hsz (h'' d (by simp)) (h'' s (by simp)) hv
     ·simp at hc
    ·simp at hc
   ·(repeat' split at hc) <;> simp at hc
   ·rename_i x t ha ht
    have ha':args = #[x]:=by apply Array.ext';simpa using ha
    have ht':ats = #[t]:=by apply Array.ext';simpa using ht
    subst ha' ht'
    split at hc
    ·rename_i el h1
     split at hc
     ·rename_i z h2
      split at hc
      ·simp at hc
      ·rename_i hz
       simp at hc;subst hc
       exact sE_clear h he hop h1 h2 hz (h'' x (by simp)) hv
     ·simp at hc
    ·simp at hc
   ·simp at hc;subst hc;simp [isCallE] at hq
   ·rename_i _ x ha
    have ha':args = #[x]:=by apply Array.ext';simpa using ha
    subst ha'
    simp at hc;subst hc
    exact sE_sdata h he hop (h'' x (by simp)) hv
   ·rename_i x n t tl ha ht
    have ha':args = #[x,n]:=by apply Array.ext';simpa using ha
    subst ha'
    split at hc
    ·rename_i el h1
     split at hc
     ·split at hc
      ·rename_i h2
       simp at hc;subst hc
       exact sE_ustr h he hop (by rw [← Array.getElem?_toList,ht];rfl) h1 h2 (h'' x (by simp)) (h'' n (by simp)) hv
      ·simp at hc
     ·simp at hc
    ·simp at hc
   ·simp at hc
  | value f=>
   cases f with
   | func f=>simp only at hc;(repeat' split at hc) <;> simp at hc <;> subst hc <;> simp [isCallE] at hq
   | _=>simp at hc;subst hc;simp [isCallE] at hq
  | invoke x name=>simp at hc;subst hc;simp [isCallE] at hq
 | build t parts=>
  simp only [cOp] at hc
  split at hc
  ·simp only [Option.bind_eq_bind,Option.bind_eq_some_iff] at hc
   obtain ⟨_,_,_,_,hc⟩:=hc
   split at hc <;> simp at hc
  ·simp only [Option.bind_eq_bind,Option.bind_eq_some_iff] at hc
   obtain ⟨_,_,_,_,hc⟩:=hc
   split at hc <;> simp at hc
  ·simp at hc
 | buildSlice t len parts=>
  simp only [cOp] at hc
  split at hc
  ·simp only [Option.bind_eq_bind,Option.bind_eq_some_iff] at hc
   obtain ⟨z,_,hc⟩:=hc
   split at hc
   ·simp at hc
   ·simp only [Option.bind_eq_some_iff] at hc
    obtain ⟨_,_,hc⟩:=hc
    simp at hc
  ·simp at hc
 | binOp op t x y u=>
  simp only [cOp] at hc
  split at hc
  ·simp at hc
  ·simp at hc
  ·split at hc
   ·unfold cEqOp at hc;(repeat' split at hc) <;> simp at hc
   ·unfold cEqOp at hc;(repeat' split at hc) <;> simp at hc
   ·simp at hc
  ·simp at hc
 | field t x f=>
  simp only [cOp] at hc
  split at hc
  ·split at hc
   ·simp only [Option.map_eq_some_iff] at hc
    obtain ⟨_,_,hc⟩:=hc
    simp at hc
   ·simp at hc
  ·simp at hc
 | indexAddr t x i=>simp only [cOp] at hc;split at hc <;> simp at hc
 | typeAssert x xt t ok=>
  simp only [cOp] at hc
  split at hc
  ·simp at hc
  ·split at hc <;> simp at hc
  ·simp at hc
 | panic x=>simp [cOp] at hc;subst hc;simp [isCallE] at hq
 | makeMap t r=>cases r <;> simp [cOp] at hc
 | convert src dst x=>
  simp only [cOp] at hc
  split at hc
  ·simp at hc
  ·simp at hc
  ·rename_i el h1 h2
   split at hc
   ·rename_i h3 hz
    simp at hc;subst hc
    exact sE_s2b h he hop h1 h2 h3 (okOp_1 ho rfl) hv
   ·simp at hc
  all_goals (repeat' split at hc) <;> simp at hc
 | slice t x lo hi mx=>simp only [cOp] at hc;(repeat' split at hc) <;> simp at hc
 | load t x=>simp only [cOp] at hc;split at hc <;> simp at hc
 | alloc t=>simp only [cOp] at hc;split at hc <;> simp at hc
 | box t x=>simp only [cOp] at hc;split at hc <;> simp at hc
 | makeSlice t l c=>simp only [cOp] at hc;(repeat' split at hc) <;> simp at hc
 | makeInterface t x=>simp only [cOp] at hc;split at hc <;> simp at hc
 | makeFunc f a b=>simp only [cOp] at hc;split at hc <;> simp at hc
 | fieldAddr t x f=>simp only [cOp] at hc;(repeat' split at hc) <;> simp at hc
 | index t x i=>simp only [cOp] at hc;(repeat' split at hc) <;> simp at hc
 | lookup t x i ok=>simp only [cOp] at hc;(repeat' split at hc) <;> simp at hc
 | mapUpdate t m k x=>
  have h':=ok_arr ho rfl
  simp only [Op.operands] at h'
  simp only [cOp] at hc
  split at hc
  ·rename_i kt el h1
   simp only [Option.map_eq_some_iff] at hc
   obtain ⟨qq,hqq,hc⟩:=hc
   simp at hc;subst hc
   exact sE_mapUpd h he (.inl hop) h1 hqq (h' m (by simp)) (h' k (by simp)) (h' x (by simp)) hv
  ·simp at hc
 | insert t m k x=>
  have h':=ok_arr ho rfl
  simp only [Op.operands] at h'
  simp only [cOp] at hc
  split at hc
  ·rename_i kt el h1
   simp only [Option.map_eq_some_iff] at hc
   obtain ⟨qq,hqq,hc⟩:=hc
   simp at hc;subst hc
   exact sE_mapUpd h he (.inr hop) h1 hqq (h' m (by simp)) (h' k (by simp)) (h' x (by simp)) hv
  ·simp at hc
 | mapEntry t m k=>
  have h':=okOp_2 ho rfl
  simp only [cOp] at hc
  split at hc
  ·rename_i kt el h1
   split at hc
   ·rename_i qq z hqq hz;simp at hc;subst hc;exact sE_mapEnt h he hop h1 hqq hz h'.1 h'.2 hv
   ·simp at hc
  ·simp at hc
 | entryStore t m s x=>
  have h':=ok_arr ho rfl
  simp only [Op.operands] at h'
  simp [cOp] at hc;subst hc
  exact sE_entSt h he hop (h' m (by simp)) (h' s (by simp)) (h' x (by simp)) hv
 | _=>simp [cOp] at hc
end
end Go.Proofs.YtnpoloachkcadaaGreatDoor.Ai
namespace Go.Proofs.YtnpoloachkcadaaGreatDoor.Ai
open Go
set_option linter.unusedSimpArgs false
def mark (μ:Nat→Loc) (d:Nat):Deferred:={target:=.collected (μ d).blk,args:=#[] }
def fr (b:Frame) (μ:Nat→Loc) (e:Fr) (todo:List Item):Frame:=
 {fn:=b.fn,tmps:=⟨concL μ e.tmps⟩,todo,defers:=e.dfs.map (mark μ),mode:=.run,kind:=b.kind,roundOf:=b.roundOf }
section
variable {P:Program} {b:Frame} {μ:Nat→Loc} {e:Fr} {k:List Item} {cs:List Frame} {w w':World}
theorem fr_eval (x:Operand):(fr b μ e k).eval x=evc μ e.tmps x:=by
 cases x with
 | tmp t=>exact getD_conc μ e.tmps t
 | _=>rfl
theorem fr_eval':(fr b μ e k).eval=evc μ e.tmps:=funext fr_eval
theorem st_skip:step P (lone (fr b μ e (.code .skip::k)) cs w) = .next (lone (fr b μ e k) cs w):=
 step_lone_go (by simp [stepG,stepG.exec,fr])
theorem st_label {l:Nat}:step P (lone (fr b μ e (.code (.label l)::k)) cs w) = .next (lone (fr b μ e k) cs w):=
 step_lone_go (by simp [stepG,stepG.exec,fr])
theorem st_inBlock {id:Nat}:step P (lone (fr b μ e (.inBlock id::k)) cs w) = .next (lone (fr b μ e k) cs w):=
 step_lone_go (by simp [stepG,stepG.exec,fr])
theorem st_seq {x y:Code}:step P (lone (fr b μ e (.code (.seq x y)::k)) cs w) = .next (lone (fr b μ e (.code x::.code y::k)) cs w):=
 step_lone_go (by simp [stepG,stepG.exec,fr])
theorem st_cond {c:Operand} {x y:Code} {t:Bool} (h:evc μ e.tmps c = .bool t) :
  step P (lone (fr b μ e (.code (.cond c x y)::k)) cs w) = .next (lone (fr b μ e (.code (if t then x else y)::k)) cs w):=
 step_lone_go (by
  have:=fr_eval (b:=b) (μ:=μ) (e:=e) (k:=.code (.cond c x y)::k) c
  simp only [fr] at this
  simp [stepG,stepG.exec,fr,this,h])
theorem st_block {id:Nat} {c:Code}:step P (lone (fr b μ e (.code (.block id c)::k)) cs w) = .next (lone (fr b μ e (.code c::.inBlock id::k)) cs w):=
 step_lone_go (by simp [stepG,stepG.exec,fr])
theorem st_loop {c:Code}:step P (lone (fr b μ e (.code (.loop c)::k)) cs w) = .next (lone (fr b μ e (.code c::.inLoop c::k)) cs w):=
 step_lone_go (by simp [stepG,stepG.exec,fr])
theorem st_inLoop {c:Code}:step P (lone (fr b μ e (.inLoop c::k)) cs w) = .next (lone (fr b μ e (.code c::.inLoop c::k)) cs w):=
 step_lone_go (by simp [stepG,stepG.exec,fr])
theorem st_exit {id:Nat} {k':List Item} (h:exitTo id k=some k'):step P (lone (fr b μ e (.code (.exit id)::k)) cs w) = .next (lone (fr b μ e k') cs w):=
 step_lone_go (by simp [stepG,stepG.exec,fr,h])
theorem st_region {id:Nat} {ops:Array Oper} :
  step P (lone (fr b μ e (.code (.region id ops false)::k)) cs w) = .next (lone (fr b μ e (.inRegion ops (List.range ops.size)::k)) cs w):=
 step_lone_go (by simp [stepG,stepG.exec,fr])
theorem st_region_draw {id:Nat} {ops:Array Oper} :
  step P (lone (fr b μ e (.code (.region id ops true)::k)) cs w) =
   .next (lone (fr b μ e (.inRegion ops (Region.schedule (P.follows .mixedOrders) ops (w.tape w.drawn (.order b.fn id)))::k)) cs {w with drawn:=w.drawn + 1 }):=
 step_lone_go (by simp [stepG,stepG.exec,fr,choose,Sem.run,Question.forced,Question.cut])
theorem st_region_end {ops:Array Oper}:step P (lone (fr b μ e (.inRegion ops []::k)) cs w) = .next (lone (fr b μ e k) cs w):=
 step_lone_go (by simp [stepG,stepG.exec,fr])
theorem fr_finish (ops:Array Oper) (i:Nat) (rest:List Nat) (v:Value) :
  (fr b μ e (.inRegion ops (i::rest)::k)).finish (conc μ v)=fr b μ {e with tmps:=put e.tmps ((ops[i]?).bind (·.dst)) v } (.inRegion ops rest::k):=by
 cases h:(ops[i]?).bind (·.dst) with
 | none=>simp [Frame.finish,fr,h,put]
 | some d=>
  simp only [Frame.finish,fr,h,put]
  congr 1
  rw [setV_eq,concL_eq,concL_eq]
  apply Array.ext'
  simp [List.map_set]
theorem st_oper {ops:Array Oper} {i:Nat} {rest:List Nat} {o:Oper} (ho:ops[i]? = some o) (hw:Region.wanted o (yielded ops ⟨concL μ e.tmps⟩)=true) (hnd:∀ c,o.op ≠ .defer c) :
  stepG P true {frame:=fr b μ e (.inRegion ops (i::rest)::k),callers:=cs,status:=.running,dying:=none } w =
   stepG.apply P true (fr b μ e (.inRegion ops (i::rest)::k)) cs none (execOp (evc μ e.tmps) o) w:=by
 have he:=fr_eval' (b:=b) (μ:=μ) (e:=e) (k:=.inRegion ops (i::rest)::k)
 have h1:stepG P true {frame:=fr b μ e (.inRegion ops (i::rest)::k),callers:=cs,status:=.running,dying:=none } w =
   stepG.oper P true (fr b μ e (.inRegion ops (i::rest)::k)) cs none w:=by
  simp [stepG,stepG.exec,fr,ho,hw]
 rw [h1]
 unfold stepG.oper
 have h2:(fr b μ e (.inRegion ops (i::rest)::k)).oper? = some o:=by simp [Frame.oper?,fr,ho]
 rw [h2]
 simp only
 split
 ·rename_i l c _ hop;exact absurd hop (hnd c)
 ·rw [he]
theorem st_value {ops:Array Oper} {i:Nat} {rest:List Nat} {o:Oper} (ho:ops[i]? = some o) (hw:Region.wanted o (yielded ops ⟨concL μ e.tmps⟩)=true) (hnd:∀ c,o.op ≠ .defer c) {v:Value}
  (hr:(execOp (evc μ e.tmps) o).run P w = .ok (.value v) w') :
  step P (lone (fr b μ e (.inRegion ops (i::rest)::k)) cs w) = .next (lone ((fr b μ e (.inRegion ops (i::rest)::k)).finish v) cs w'):=
 step_lone_go (by rw [st_oper ho hw hnd];simp [stepG.apply,hr])
theorem st_unit {ops:Array Oper} {i:Nat} {rest:List Nat} {o:Oper} (ho:ops[i]? = some o) (hw:Region.wanted o (yielded ops ⟨concL μ e.tmps⟩)=true) (hnd:∀ c,o.op ≠ .defer c)
  (hr:(execOp (evc μ e.tmps) o).run P w = .ok .skip w') :
  step P (lone (fr b μ e (.inRegion ops (i::rest)::k)) cs w) = .next (lone ((fr b μ e (.inRegion ops (i::rest)::k)).finish undef) cs w'):=
 step_lone_go (by rw [st_oper ho hw hnd];simp [stepG.apply,hr])
theorem st_enter {ops:Array Oper} {i:Nat} {rest:List Nat} {o:Oper} (ho:ops[i]? = some o) (hw:Region.wanted o (yielded ops ⟨concL μ e.tmps⟩)=true) (hnd:∀ c,o.op ≠ .defer c) {f:FuncId} {args:Array Value}
  (hr:(execOp (evc μ e.tmps) o).run P w = .ok (.enter f args) w') :
  step P (lone (fr b μ e (.inRegion ops (i::rest)::k)) cs w) = .next (lone (Frame.enter P f args .normal) (fr b μ e (.inRegion ops (i::rest)::k)::cs) w'):=
 step_lone_go (by rw [st_oper ho hw hnd];simp [stepG.apply,hr,fr])
theorem st_round {ops:Array Oper} {i:Nat} {rest:List Nat} {o:Oper} (ho:ops[i]? = some o) (hw:Region.wanted o (yielded ops ⟨concL μ e.tmps⟩)=true) (hnd:∀ c,o.op ≠ .defer c) {l f:Nat} {tm:Array Value} {as bo:Code}
  (hr:(execOp (evc μ e.tmps) o).run P w = .ok (.round l f tm as bo) w') :
  step P (lone (fr b μ e (.inRegion ops (i::rest)::k)) cs w) = .next (lone (Frame.round l f tm as bo .normal) (fr b μ e (.inRegion ops (i::rest)::k)::cs) w'):=
 step_lone_go (by rw [st_oper ho hw hnd];simp [stepG.apply,hr])
theorem st_unwanted {ops:Array Oper} {i:Nat} {rest:List Nat} (h:((ops[i]?).map (Region.wanted · (yielded ops ⟨concL μ e.tmps⟩))).getD false=false) :
  step P (lone (fr b μ e (.inRegion ops (i::rest)::k)) cs w) = .next (lone ((fr b μ e (.inRegion ops (i::rest)::k)).finish undef) cs w):=
 step_lone_go (by
  have h':=h
  simp only [fr] at *
  simp [stepG,stepG.exec,h'])
theorem st_ret (hr:b.roundOf=none):step P (lone (fr b μ e (.code .ret::k)) cs w) = .next (lone {fr b μ e (.code .ret::k) with mode:=.returning } cs w):=
 step_lone_go (by simp [stepG,stepG.exec,fr,hr])
theorem st_end (hr:b.roundOf=none):step P (lone (fr b μ e []) cs w) = .next (lone {fr b μ e [] with mode:=.returning } cs w):=
 step_lone_go (by simp [stepG,stepG.exec,fr,hr])
theorem st_mark {f:Frame} {blk:Nat} {ds:List Deferred} (hm:f.mode = .returning) (hd:f.defers={target:=.collected blk,args:=#[] }::ds) (hb:w.heap[blk]? = some (.deferred (some []))) :
  step P (lone f cs w) = .next (lone {f with defers:=ds } cs {w with heap:=w.heap.setIfInBounds blk (.deferred none) }):=
 step_lone_go (by
  have ht:(Instr.takeDeferred blk).run P w = .ok [] {w with heap:=w.heap.setIfInBounds blk (.deferred none) }:=by
   simp [Instr.takeDeferred,getObj,setObj,Sem.run,Sem.bind,bind,hb]
  simp [stepG,hm,unwind,hd,ht])
theorem st_leave {f c:Frame} {fn:Func} {v:Value} (hm:f.mode = .returning) (hd:f.defers=[]) (hk:f.kind = .normal) (hf:P.funcs[f.fn]? = some fn) (hr:(results fn f.tmps).run P w = .ok v w) :
  step P (lone f (c::cs) w) = .next (lone (c.finish v) cs w):=
 step_lone_go (by simp [stepG,hm,unwind,hd,hf,hr,doReturn,hk])
theorem st_endRound {f c:Frame} {l:Nat} {jump:Option Code} {v:Value} (hm:f.mode = .run) (hro:f.roundOf=some l) (hk:f.kind = .normal)
  (htodo:(f.todo=[]∧jump=none)∨(∃ k,f.todo = .code .ret::k∧jump=some .ret)∨∃ id k,f.todo = .code (.exit id)::k∧exitTo id k=none∧jump=some (.exit id))
  (hr:(Instr.endRound l jump).run P w = .ok v w'):step P (lone f (c::cs) w) = .next (lone (c.finish v) cs w'):=
 step_lone_go (by
  rcases htodo with ⟨h1,rfl⟩ | ⟨k,h1,rfl⟩ | ⟨id,k,h1,h2,rfl⟩
  ·simp [stepG,hm,stepG.exec,h1,hro,hr,doReturn,hk]
  ·simp [stepG,hm,stepG.exec,h1,hro,hr,doReturn,hk]
  ·simp [stepG,hm,stepG.exec,h1,h2,hro,hr,doReturn,hk])
theorem st_beginRound {l:Nat} (hro:b.roundOf=some l) (hr:(Instr.beginRound l).run P w = .ok () w'):step P (lone (fr b μ e (.beginRound::k)) cs w) = .next (lone (fr b μ e k) cs w'):=
 step_lone_go (by
  have:(fr b μ e (.beginRound::k)).finish undef=fr b μ e k:=by simp [Frame.finish,fr]
  have hrun:(do (fr b μ e (.beginRound::k)).roundOf.elim (stuck "beginRound: no round") Instr.beginRound;pure Next.skip:Sem Next).run P w = .ok .skip w':=by simp [fr,hro,hr]
  have hs:stepG P true {frame:=fr b μ e (.beginRound::k),callers:=cs,status:=.running,dying:=none } w=stepG.apply P true (fr b μ e (.beginRound::k)) cs none (do (fr b μ e (.beginRound::k)).roundOf.elim (stuck "beginRound: no round") Instr.beginRound;pure Next.skip) w:=by
   simp [stepG,stepG.exec,fr]
  rw [hs]
  simp only [stepG.apply,Sem.runT_eq,hrun]
  simp [this])
end
end Go.Proofs.YtnpoloachkcadaaGreatDoor.Ai
namespace Go.Proofs.YtnpoloachkcadaaGreatDoor.Ai
open Go
set_option linter.unusedSimpArgs false
structure FrOK (n:Nat) (e:Fr):Prop where
 tm:ltL n e.tmps=true
 dfs:∀ d∈e.dfs,d < n
theorem FrOK.mono {n m:Nat} {e:Fr} (h:FrOK n e) (hn:n≤m):FrOK m e:=⟨ltL_mono hn _ h.tm,fun d hd=>Nat.lt_of_lt_of_le (h.dfs d hd) hn⟩
theorem fr_congr {b:Frame} {μ μ':Nat→Loc} {n:Nat} {e:Fr} (h:FrOK n e) (ha:∀ i,i < n→μ' i=μ i) (k:List Item):fr b μ' e k=fr b μ e k:=by
 have h1:concL μ' e.tmps=concL μ e.tmps:=concL_congr ha _ h.tm
 have h2:e.dfs.map (mark μ')=e.dfs.map (mark μ):=List.map_congr_left fun d hd=>by simp [mark,ha d (h.dfs d hd)]
 simp [fr,h1,h2]
section
variable {P:Program} {ng:Nat} {ts:List TypeId} {N0:Bs}
def CallOK (P:Program) (ng:Nat) (ts:List TypeId) (N0:Bs) (start:(Nat→Loc)→Frame) (σ:AW) (v:Value) (σ':AW) (μ:Nat→Loc) (w:World):Prop:=
 ∀ c cs,∃ μ' w',Rep P ng ts N0 μ' σ' w'∧Goes μ σ w μ' σ' w'∧lt σ'.next v=true∧Steps P (lone (start μ) (c::cs) w) (lone (c.finish (conc μ' v)) cs w')
structure KSound (P:Program) (ng:Nat) (ts:List TypeId) (N0:Bs) (K:Ks):Prop where
 call:∀ {f args σ v σ'},K.call f args σ=some (.ret v,σ')→(∃ fn,P.funcs[f]? = some fn∧fn.body.isNone=false∧(fn.name == "runtime.NumGoroutine")=false)∧
  ∀ {μ w},Rep P ng ts N0 μ σ w→ltL σ.next args=true→CallOK P ng ts N0 (fun μ=>Frame.enter P f ⟨concL μ args⟩ .normal) σ v σ' μ w
 yield:∀ {l args σ v σ'},K.yield l args σ=some (.ret v,σ')→∀ {μ w},Rep P ng ts N0 μ σ w→ltL σ.next args=true→∃ fn tm as bo,(Instr.yield (μ l).blk ⟨concL μ args⟩).run P w = .ok (.round (μ l).blk fn tm as bo) w∧
  CallOK P ng ts N0 (fun μ=>Frame.round (μ l).blk fn tm as bo .normal) σ v σ' μ w
variable {K:Ks} {μ:Nat→Loc} {σ σ':AW} {w:World}
inductive Goes1 (P:Program) (ng:Nat) (ts:List TypeId) (N0:Bs) (σ:AW) (v:Value) (σ':AW) (μ:Nat→Loc) (w:World) (s:Sem Next):Prop
 | enter (f:FuncId) (args:Array Value) (hr:s.run P w = .ok (.enter f args) w) (h:CallOK P ng ts N0 (fun _=>Frame.enter P f args .normal) σ v σ' μ w)
 | round (l f:Nat) (tm:Array Value) (as bo:Code) (hr:s.run P w = .ok (.round l f tm as bo) w) (h:CallOK P ng ts N0 (fun _=>Frame.round l f tm as bo .normal) σ v σ' μ w)
theorem callFunc_run {f:FuncId} {fn:Func} (hf:P.funcs[f]? = some fn) (hb:fn.body.isNone=false) (hn:(fn.name == "runtime.NumGoroutine")=false) (args:Array Value) (w:World):(callFunc f args).run P w = .ok (.enter f args) w:=by
 simp [callFunc,hf]
 rw [if_neg (by simpa using hn),if_neg (by intro h;rw [h] at hb;simp at hb)]
theorem callV_sound (hK:KSound P ng ts N0 K) (h:Rep P ng ts N0 μ σ w) {F:Value} {args:List Value} (hF:lt σ.next F=true) (ha:ltL σ.next args=true) {v:Value} (hv:callV K F args σ=some (.ret v,σ')) :
  Goes1 P ng ts N0 σ v σ' μ w (do let d ← Deferred.ofValue (conc μ F) ⟨concL μ args⟩;invoke d.target d.args):=by
 unfold callV at hv
 split at hv
 ·rename_i f first captured
  simp only [lt_func,Bool.and_eq_true] at hF
  obtain ⟨⟨fn,h1,h2,h3⟩,h4⟩:=hK.call hv
  have hargs:ltL σ.next (first++(args++captured))=true:=ltL_append.2 ⟨hF.1.2,ltL_append.2 ⟨ha,hF.2⟩⟩
  refine .enter f ⟨concL μ (first++(args++captured))⟩ ?_ (h4 h hargs)
  have e:(⟨concL μ first⟩:Array Value)++⟨concL μ args⟩++⟨concL μ captured⟩=⟨concL μ (first++(args++captured))⟩:=by
   apply Array.ext';simp [concL_append]
  simp only [conc_func,cFn,Deferred.ofValue,Sem.run_bind,Sem.run_pure,Result.andThen_ok,invoke]
  rw [callFunc_run h1 h2 h3,e]
 ·rename_i l first captured
  obtain ⟨captured⟩:=captured
  simp only [lt_func,Bool.and_eq_true] at hF
  obtain ⟨fn,tm,as,bo,h1,h2⟩:=hK.yield hv h (ltL_append.2 ⟨hF.1.2,ha⟩)
  refine .round _ fn tm as bo ?_ h2
  have e:(⟨concL μ first⟩:Array Value)++⟨concL μ args⟩=⟨concL μ (first++args)⟩:=by
   apply Array.ext';simp [concL_append]
  simp only [conc_func,cFn,Deferred.ofValue,Sem.run_bind,Sem.run_pure,Result.andThen_ok,invoke,e]
  exact h1
 ·simp at hv
theorem method_run {name:String} {t:TypeId} {f:FuncId} (h:(cMethods P name ts).lookup t=some f) (V:Value) (k:Nat) (w:World):(method (k + 1) t V name).run P w = .ok (f,V) w:=by
 obtain ⟨i,m,hi,hm,hp,hr⟩:=cMethods_some h
 simp only [method,Sem.run_bind,run_info hi,Result.andThen_ok,hm,hp,follow,Sem.run_pure]
 rcases hr with ⟨hf,el,hu⟩ | ⟨hf,d,hu,hd⟩
 ·simp [hf,receiverAt,run_und hu,Place.get]
 ·simp only [hf,receiverAt,Sem.run_bind,run_und hu,Result.andThen_ok]
  cases d <;> first | exact absurd rfl (hd _) | simp [Place.get]
theorem invoke_sound (hK:KSound P ng ts N0 K) (h:Rep P ng ts N0 μ σ w) {t:TypeId} {V:Value} {args:List Value} (hF:lt σ.next (.iface t V)=true) (ha:ltL σ.next args=true) {name:String} {f:FuncId} (hm:(cMethods P name ts).lookup t=some f)
  {v:Value} (hv:K.call f (V::args) σ=some (.ret v,σ')):Goes1 P ng ts N0 σ v σ' μ w (invoke (.fn (.method name) #[]) (#[conc μ (.iface t V)]++⟨concL μ args⟩)):=by
 obtain ⟨⟨fn,h1,h2,h3⟩,h4⟩:=hK.call hv
 have hl:ltL σ.next (V::args)=true:=by simp only [ltL,Bool.and_eq_true];exact ⟨by simpa using hF,ha⟩
 refine .enter f ⟨concL μ (V::args)⟩ ?_ (h4 h hl)
 have e1:(#[conc μ (.iface t V)]++(⟨concL μ args⟩:Array Value))=⟨conc μ (.iface t V)::concL μ args⟩:=by apply Array.ext';simp
 have e2:(⟨conc μ (.iface t V)::concL μ args⟩:Array Value).extract 1 (⟨conc μ (.iface t V)::concL μ args⟩:Array Value).size=⟨concL μ args⟩:=by apply Array.ext';simp
 have e3:(#[conc μ V]++(⟨concL μ args⟩:Array Value))=⟨concL μ (V::args)⟩:=by apply Array.ext';simp [concL]
 rw [e1]
 simp only [invoke,List.getElem?_toArray,List.getElem?_cons_zero,e2]
 simp only [callMethod,conc_iface,Sem.run_bind,run_program,Result.andThen_ok]
 rw [show P.types.size + Made.depth=(P.types.size + Made.depth - 1) + 1 by unfold Made.depth;omega,method_run hm]
 simp only [Result.andThen_ok,e3]
 rw [callFunc_run h1 h2 h3]
theorem opers_map (hg:Glob ng μ) {e:List Value} {args:Array Operand} (h:∀ x∈args.toList,okOpd ng x=true):args.map (evc μ e)=⟨concL μ (evs e (args.toList.map cOpd))⟩:=by
 apply Array.ext';simp [← evs_conc hg e _ h]
theorem wanted_eq {ng:Nat} {ts:List TypeId} {ops:Array Oper} {o:Oper} {io:IOper} (hc:cOper P ng ts ops o=some io) (e:List Value):Region.wanted o (yielded ops ⟨concL μ e⟩)=io.wanted e:=by
 unfold cOper at hc
 split at hc
 ·rename_i g hg
  simp at hc;subst hc
  unfold Region.wanted IOper.wanted
  cases hgu:o.guard with
  | none=>rw [hgu] at hg;simp [cGuard] at hg;subst hg;rfl
  | some p=>
   obtain ⟨j,want⟩:=p
   rw [hgu] at hg
   simp only [cGuard] at hg
   split at hg
   ·rename_i d hd
    simp at hg;subst hg
    simp only [yielded,hd,Option.bind_some]
    have:(⟨concL μ e⟩:Array Value)[d]? = (e[d]?).map (conc μ):=by simp [concL_getElem?]
    rw [this,getV_eq,List.getD_eq_getElem?_getD]
    cases e[d]? with
    | none=>simp [undef]
    | some v=>
     simp only [Option.map_some,Option.getD_some]
     cases v with
     | bool b=>simp
     | pointer a=>cases a <;> simp
     | slice a _ _=>cases a <;> simp
     | map a=>cases a <;> simp
     | func f a b=>cases a;cases b;simp
     | agg a=>cases a;simp
     | tuple a=>cases a;simp
     | _=>simp [conc]
   ·simp at hg
 ·simp at hc
theorem cOper_dst {ops:Array Oper} {o:Oper} {io:IOper} (hc:cOper P ng ts ops o=some io):io.dst=o.dst:=by
 unfold cOper at hc
 split at hc
 ·simp at hc;subst hc;rfl
 ·simp at hc
theorem cOp_nodefer {op:Op} {io:IOp} (h:cOp P ts op=some io):∀ c,op ≠ .defer c:=by
 intro c hc;subst hc;simp [cOp] at h
theorem runOp_sound (hK:KSound P ng ts N0 K) (h:Rep P ng ts N0 μ σ w) {E:Fr} (hE:FrOK σ.next E) {ops:Array Oper} {i:Nat} {o:Oper} {io:IOper} (ho:ops[i]? = some o) (hc:cOper P ng ts ops o=some io) (hw:io.wanted E.tmps=true)
  {v:Value} (hv:runOp K σ.next E.tmps σ io.op=some (.ret v,σ')) (b:Frame) (rest:List Nat) (k:List Item) (cs:List Frame) :
  ∃ μ' w',Rep P ng ts N0 μ' σ' w'∧Goes μ σ w μ' σ' w'∧lt σ'.next v=true∧
   Steps P (lone (fr b μ E (.inRegion ops (i::rest)::k)) cs w) (lone (fr b μ' {E with tmps:=put E.tmps o.dst v } (.inRegion ops rest::k)) cs w'):=by
 have hw':Region.wanted o (yielded ops ⟨concL μ E.tmps⟩)=true:=by rw [wanted_eq hc];exact hw
 have fin:∀ {μ':Nat→Loc} {σ1:AW} {w':World} (v:Value),Goes μ σ w μ' σ1 w'→((fr b μ E (.inRegion ops (i::rest)::k)).finish (conc μ' v))=fr b μ' {E with tmps:=put E.tmps o.dst v } (.inRegion ops rest::k):=by
  intro μ' σ1 w' v hg
  rw [← fr_congr hE hg.agr,fr_finish,ho]
  rfl
 have hio:∃ q,io.op=q∧(q = .bad∨(okOp ng o.op=true∧cOp P ts o.op=some q)):=by
  unfold cOper at hc
  split at hc
  ·simp at hc;subst hc
   simp only
   split
   ·rename_i hok
    cases hq:cOp P ts o.op with
    | none=>exact ⟨_,rfl,.inl rfl⟩
    | some q=>exact ⟨_,rfl,.inr ⟨hok,rfl⟩⟩
   ·exact ⟨_,rfl,.inl rfl⟩
  ·simp at hc
 obtain ⟨q,hq,hq'⟩:=hio
 rw [hq] at hv
 rcases hq' with rfl | ⟨hok,hcop⟩
 ·simp [runOp] at hv
 have hnd:=cOp_nodefer hcop
 cases q with
 | bad=>simp [runOp] at hv
 | p q=>
  simp only [runOp,Option.map_eq_some_iff,Prod.mk.injEq,IRet.ret.injEq] at hv
  obtain ⟨v',hv,rfl,rfl⟩:=hv
  have hs:=evP_sound h.glob h.ngn hE.tm hcop hok hv w
  exact ⟨μ,w,h,Goes.refl _ _ _,hs.2,.one (by rw [st_value ho hw' hnd hs.1,fin v' (Goes.refl μ σ w)])⟩
 | r q=>
  simp only [runOp,Option.map_eq_some_iff,Prod.mk.injEq,IRet.ret.injEq] at hv
  obtain ⟨v',hv,rfl,rfl⟩:=hv
  have hs:=evR_sound h hE.tm hcop hok hv
  exact ⟨μ,w,h,Goes.refl _ _ _,hs.2,.one (by rw [st_value ho hw' hnd hs.1,fin v' (Goes.refl μ σ w)])⟩
 | n q=>
  simp only [runOp,Option.bind_eq_some_iff,Prod.exists] at hv
  obtain ⟨bk,f,hbf,hv⟩:=hv
  split at hv
  ·rename_i hm
   simp only [Option.some.injEq,Prod.mk.injEq,IRet.ret.injEq] at hv
   obtain ⟨rfl,rfl⟩:=hv
   obtain ⟨ob,hrun,hro,hal,hb,hlt⟩:=evN_sound h.glob h.ngn hE.tm hcop hok hbf w
   have hp:σ.push bk=some (σ.next,{next:=Nat.max σ.next (σ.next + 1),heap:=σ.heap.set σ.next bk }):=by
    unfold AW.push
    rw [if_pos hm]
    have:Nat.max σ.next (σ.next + 1)=σ.next + 1:=Nat.max_eq_right (Nat.le_succ _)
    rw [this]
   obtain ⟨_,hnx,hr2,hg2⟩:=h.push hp (w':={w with heap:=w.heap.push ob }) (ob:=ob) (ex:=0) hro (fun c hc j hj=>by rw [hal c hc] at hj;simp at hj) rfl rfl rfl rfl hb
   refine ⟨_,_,hr2,hg2,by rw [hnx];exact hlt,.one ?_⟩
   rw [st_value ho hw' hnd hrun,fin _ hg2]
  ·simp at hv
 | e q=>
  simp only [runOp] at hv
  cases hcall:isCallE q with
  | false=>
   obtain ⟨μ',w',nx,hr,hg,hl,hrun,hnx⟩:=evE_sound h hE.tm hcop hcall hok hv
   refine ⟨μ',w',hr,hg,hl,.one ?_⟩
   rcases hnx with rfl | ⟨rfl,rfl⟩
   ·rw [st_value ho hw' hnd hrun,fin v hg]
   ·rw [st_unit ho hw' hnd hrun,← fin undef hg,conc_undef]
  | true=>
   have main:∀ {s:Sem Next},execOp (evc μ E.tmps) o=s→Goes1 P ng ts N0 σ v σ' μ w s→∃ μ' w',Rep P ng ts N0 μ' σ' w'∧Goes μ σ w μ' σ' w'∧lt σ'.next v=true∧
     Steps P (lone (fr b μ E (.inRegion ops (i::rest)::k)) cs w) (lone (fr b μ' {E with tmps:=put E.tmps o.dst v } (.inRegion ops rest::k)) cs w'):=by
    intro s hs hg1
    cases hg1 with
    | enter f args hr hok=>
     obtain ⟨μ',w',h1,h2,h3,h4⟩:=hok (fr b μ E (.inRegion ops (i::rest)::k)) cs
     refine ⟨μ',w',h1,h2,h3,.head (st_enter ho hw' hnd (by rw [hs];exact hr)) ?_⟩
     rw [← fin v h2];exact h4
    | round l f tm as bo hr hok=>
     obtain ⟨μ',w',h1,h2,h3,h4⟩:=hok (fr b μ E (.inRegion ops (i::rest)::k)) cs
     refine ⟨μ',w',h1,h2,h3,.head (st_round ho hw' hnd (by rw [hs];exact hr)) ?_⟩
     rw [← fin v h2];exact h4
   have hshape:∃ c,o.op = .call c∧((∃ f,c.callee = .value (.func f)∧q = .call f (c.args.toList.map cOpd))∨(∃ x,c.callee = .value x∧(∀ f,x ≠ .func f)∧q = .callv (cOpd x) (c.args.toList.map cOpd))∨(∃ x name,c.callee = .invoke x name∧q = .invoke (cMethods P name ts) (cOpd x) (c.args.toList.map cOpd))):=by
    have hne:q ≠ .panic (.t 0):=by intro hq;subst hq;simp [runE] at hv
    have hnp:∀ x,q ≠ .panic x:=by intro x hq;subst hq;simp [runE] at hv
    generalize hop:o.op=op at hcop hok
    cases op with
    | call c=>
     refine ⟨c,rfl,?_⟩
     obtain ⟨callee,args,ats⟩:=c
     simp only [cOp] at hcop
     cases callee with
     | builtin b=>
      exfalso
      simp only at hcop
      unfold cBuiltin at hcop
      (repeat' split at hcop) <;> simp at hcop <;> subst hcop <;> simp [isCallE] at hcall
      exact hnp _ rfl
     | value f=>
      cases f with
      | func f=>
       left
       simp only at hcop
       (repeat' split at hcop) <;> simp at hcop
       exact ⟨f,rfl,hcop.symm⟩
      | _=>right;left;simp at hcop;exact ⟨_,rfl,by simp,hcop.symm⟩
     | invoke x name=>right;right;simp at hcop;exact ⟨x,name,rfl,hcop.symm⟩
    | panic x=>simp [cOp] at hcop;exact absurd hcop.symm (hnp _)
    | store t a x=>exfalso;simp only [cOp] at hcop;split at hcop <;> simp at hcop;subst hcop;simp [isCallE] at hcall
    | build t parts=>
     exfalso
     simp only [cOp] at hcop
     split at hcop
     ·simp only [Option.bind_eq_bind,Option.bind_eq_some_iff] at hcop
      obtain ⟨_,_,_,_,hcop⟩:=hcop
      split at hcop <;> simp at hcop
     ·simp only [Option.bind_eq_bind,Option.bind_eq_some_iff] at hcop
      obtain ⟨_,_,_,_,hcop⟩:=hcop
      split at hcop <;> simp at hcop
     ·simp at hcop
    | buildSlice t len parts=>
     exfalso
     simp only [cOp] at hcop
     split at hcop
     ·simp only [Option.bind_eq_bind,Option.bind_eq_some_iff] at hcop
      obtain ⟨z,_,hcop⟩:=hcop
      split at hcop
      ·simp at hcop
      ·simp only [Option.bind_eq_some_iff] at hcop
       obtain ⟨_,_,hcop⟩:=hcop
       simp at hcop
     ·simp at hcop
    | binOp op t x y u=>
     exfalso
     simp only [cOp] at hcop
     split at hcop
     ·simp at hcop
     ·simp at hcop
     ·split at hcop
      ·unfold cEqOp at hcop;(repeat' split at hcop) <;> simp at hcop
      ·unfold cEqOp at hcop;(repeat' split at hcop) <;> simp at hcop
      ·simp at hcop
     ·simp at hcop
    | field t x f=>
     exfalso
     simp only [cOp] at hcop
     split at hcop
     ·split at hcop
      ·simp only [Option.map_eq_some_iff] at hcop
       obtain ⟨_,_,hcop⟩:=hcop
       simp at hcop
      ·simp at hcop
     ·simp at hcop
    | typeAssert x xt t ok=>
     exfalso
     simp only [cOp] at hcop
     split at hcop
     ·simp at hcop
     ·split at hcop <;> simp at hcop
     ·simp at hcop
    | makeMap t r=>exfalso;cases r <;> simp [cOp] at hcop
    | convert src dst x=>
     exfalso
     simp only [cOp] at hcop
     (repeat' split at hcop) <;> simp at hcop
     subst hcop
     simp [isCallE] at hcall
    | mapUpdate t m k x=>
     exfalso
     simp only [cOp] at hcop
     split at hcop
     ·simp only [Option.map_eq_some_iff,IOp.e.injEq] at hcop
      obtain ⟨_,_,rfl⟩:=hcop
      simp [isCallE] at hcall
     ·simp at hcop
    | insert t m k x=>
     exfalso
     simp only [cOp] at hcop
     split at hcop
     ·simp only [Option.map_eq_some_iff,IOp.e.injEq] at hcop
      obtain ⟨_,_,rfl⟩:=hcop
      simp [isCallE] at hcall
     ·simp at hcop
    | mapEntry t m k=>
     exfalso
     simp only [cOp] at hcop
     split at hcop
     ·split at hcop
      ·simp at hcop;subst hcop;simp [isCallE] at hcall
      ·simp at hcop
     ·simp at hcop
    | entryStore t m s x=>exfalso;simp [cOp] at hcop;subst hcop;simp [isCallE] at hcall
    | _=>exfalso;simp only [cOp] at hcop;(repeat' split at hcop) <;> simp at hcop
   obtain ⟨c,hop,hcs⟩:=hshape
   have h':=ok_arr hok rfl
   rw [hop] at h'
   have h'':∀ x∈c.args.toList,okOpd ng x=true:=fun x hx=>h' x (by simp [Op.operands,Call.operands];exact .inr (by simpa using hx))
   have hmap:=opers_map (e:=E.tmps) h.glob h''
   have hlta:=evs_lt h.ngn hE.tm c.args.toList h''
   rcases hcs with ⟨f,hcal,rfl⟩ | ⟨x,hcal,hxf,rfl⟩ | ⟨x,name,hcal,rfl⟩
   ·simp only [runE] at hv
    refine main (s:=do let d ← Deferred.ofValue (conc μ (.func (.func f) #[] #[])) ⟨concL μ (evs E.tmps (c.args.toList.map cOpd))⟩;invoke d.target d.args) ?_ (callV_sound hK h (by simp [lt,ltFn,ltL]) hlta (by simpa [callV] using hv))
    simp only [execOp,hop,resolve,hcal,hmap,evc,bind_assoc]
    simp [conc,cFn,concL]
   ·simp only [runE] at hv
    have hxok:okOpd ng x=true:=h' x (by simp [Op.operands,Call.operands,hcal])
    have hx:=opV (e:=E.tmps) h.glob h.ngn hE.tm hxok
    refine main (s:=do let d ← Deferred.ofValue (conc μ ((cOpd x).ev E.tmps)) ⟨concL μ (evs E.tmps (c.args.toList.map cOpd))⟩;invoke d.target d.args) ?_ (callV_sound hK h hx.l hlta hv)
    simp only [execOp,hop,resolve,hcal,hmap,hx.c]
   ·simp only [runE] at hv
    have hxok:okOpd ng x=true:=h' x (by simp [Op.operands,Call.operands,hcal])
    have hx:=opV (e:=E.tmps) h.glob h.ngn hE.tm hxok
    obtain ⟨_,hcx,hlx⟩:=hx
    generalize (cOpd x).ev E.tmps=X at hv hcx hlx
    split at hv
    ·rename_i t V
     split at hv
     ·rename_i f hm
      refine main (s:=invoke (.fn (.method name) #[]) (#[conc μ (.iface t V)]++⟨concL μ (evs E.tmps (c.args.toList.map cOpd))⟩)) ?_ (invoke_sound hK h hlx hlta hm hv)
      simp only [execOp,hop,resolve,hcal,hmap,hcx]
      rfl
     ·simp at hv
    ·simp at hv
end
end Go.Proofs.YtnpoloachkcadaaGreatDoor.Ai
namespace Go.Proofs.YtnpoloachkcadaaGreatDoor.Ai
open Go
set_option linter.unusedSimpArgs false
section
variable {P:Program} {ng:Nat} {ts:List TypeId} {N0:Bs} {K:Ks} {μ:Nat→Loc} {σ σ':AW} {w w':World}
theorem put_ok {n:Nat} {E:Fr} (h:FrOK n E) {d:Option Nat} {v:Value} (hv:lt n v=true):FrOK n {E with tmps:=put E.tmps d v }:=by
 refine ⟨?_,h.dfs⟩
 cases d with
 | none=>exact h.tm
 | some d=>exact ltL_setV h.tm d hv
theorem runOps_sound (hK:KSound P ng ts N0 K) {ops:Array Oper}:∀ (os:List Oper) (l:List IOper) (j:Nat),(∀ m o,os[m]? = some o→ops[j + m]? = some o)→cOps P ng ts ops os=some l→
  ∀ {E:Fr} {σ σ':AW} {x:IExit} {t':List Value} {μ:Nat→Loc} {w:World},runOps K l E.tmps σ=some (x,t',σ')→Rep P ng ts N0 μ σ w→FrOK σ.next E→∀ (b:Frame) (k:List Item) (cs:List Frame),
   x = .normal∧∃ μ' w',Rep P ng ts N0 μ' σ' w'∧Goes μ σ w μ' σ' w'∧FrOK σ'.next {E with tmps:=t' }∧
    Steps P (lone (fr b μ E (.inRegion ops (List.range' j os.length)::k)) cs w) (lone (fr b μ' {E with tmps:=t' } (.inRegion ops []::k)) cs w'):=by
 intro os
 induction os with
 | nil=>
  intro l j _ hc E σ σ' x t' μ w hv h hE b k cs
  simp [cOps] at hc;subst hc
  simp [runOps] at hv
  obtain ⟨rfl,rfl,rfl⟩:=hv
  exact ⟨rfl,μ,w,h,Goes.refl _ _ _,hE,.refl _ _⟩
 | cons o os ih=>
  intro l j hidx hc E σ σ' x t' μ w hv h hE b k cs
  simp only [cOps] at hc
  split at hc
  ·rename_i io ios hio hios
   simp at hc;subst hc
   have ho:ops[j]? = some o:=by simpa using hidx 0 o (by simp)
   have hidx':∀ m o,os[m]? = some o→ops[j + 1 + m]? = some o:=by
    intro m o' hm
    have:=hidx (m + 1) o' (by simpa using hm)
    rwa [show j + (m + 1)=j + 1 + m by omega] at this
   have hrange:List.range' j (o::os).length=j::List.range' (j + 1) os.length:=by simp [List.range'_succ]
   rw [hrange]
   simp only [runOps] at hv
   split at hv
   ·rename_i hw
    split at hv
    ·rename_i v σ1 hop
     obtain ⟨μ1,w1,h1,g1,l1,s1⟩:=runOp_sound hK h hE ho hio hw hop b (List.range' (j + 1) os.length) k cs
     have hE1:FrOK σ1.next {E with tmps:=put E.tmps o.dst v }:=put_ok (hE.mono g1.next) l1
     rw [cOper_dst hio] at hv
     obtain ⟨hx,μ2,w2,h2,g2,hE2,s2⟩:=ih ios (j + 1) hidx' hios (E:={E with tmps:=put E.tmps o.dst v }) hv h1 hE1 b k cs
     exact ⟨hx,μ2,w2,h2,g1.trans g2,hE2,s1.trans s2⟩
    ·simp at hv
    ·simp at hv
   ·rename_i hw
    have hE1:FrOK σ.next {E with tmps:=put E.tmps o.dst undef }:=put_ok hE (lt_undef _)
    rw [cOper_dst hio] at hv
    obtain ⟨hx,μ2,w2,h2,g2,hE2,s2⟩:=ih ios (j + 1) hidx' hios (E:={E with tmps:=put E.tmps o.dst undef }) hv h hE1 b k cs
    refine ⟨hx,μ2,w2,h2,g2,hE2,.head ?_ s2⟩
    rw [st_unwanted (by rw [ho];simp only [Option.map_some,Option.getD_some];rw [wanted_eq hio];simpa using hw)]
    have:=fr_finish (b:=b) (μ:=μ) (e:=E) (k:=k) ops j (List.range' (j + 1) os.length) undef
    rw [conc_undef,ho] at this
    rw [this]
    rfl
  ·simp at hc
def CodeTo (P:Program) (b:Frame) (k:List Item) (cs:List Frame) (M:Machine) (x:IExit) (e':Fr) (μ':Nat→Loc) (w':World):Prop:=
 match x with
 | .normal=>Steps P M (lone (fr b μ' e' k) cs w')
 | .exit id=>∃ k',exitTo id k'=exitTo id k∧Steps P M (lone (fr b μ' e' (.code (.exit id)::k')) cs w')
 | .ret=>∃ k',Steps P M (lone (fr b μ' e' (.code .ret::k')) cs w')
 | .panic _=>False
theorem CodeTo.head {b:Frame} {k:List Item} {cs:List Frame} {M M1:Machine} {x:IExit} {e':Fr} {μ':Nat→Loc} (hs:Steps P M M1) (h:CodeTo P b k cs M1 x e' μ' w'):CodeTo P b k cs M x e' μ' w':=by
 cases x with
 | normal=>exact hs.trans h
 | exit id=>obtain ⟨k',h1,h2⟩:=h;exact ⟨k',h1,hs.trans h2⟩
 | ret=>obtain ⟨k',h2⟩:=h;exact ⟨k',hs.trans h2⟩
 | panic c=>exact h
def RndOK (b:Frame) (n:Nat) (μ:Nat→Loc):Option Nat→Prop
 | none=>b.roundOf=none
 | some l=>l < n∧b.roundOf=some (μ l).blk
theorem RndOK.mono {b:Frame} {n m:Nat} {μ μ':Nat→Loc} {rnd:Option Nat} (h:RndOK b n μ rnd) (hn:n≤m) (ha:∀ i,i < n→μ' i=μ i):RndOK b m μ' rnd:=by
 cases rnd with
 | none=>exact h
 | some l=>exact ⟨Nat.lt_of_lt_of_le h.1 hn,by rw [ha l h.1];exact h.2⟩
def CodeOK (P:Program) (ng:Nat) (ts:List TypeId) (N0:Bs) (rnd:Option Nat) (c:Code) (e:Fr) (σ:AW) (x:IExit) (e':Fr) (σ':AW):Prop:=
 ∀ {μ:Nat→Loc} {w:World},Rep P ng ts N0 μ σ w→FrOK σ.next e→∀ (b:Frame),RndOK b σ.next μ rnd→∀ (k:List Item) (cs:List Frame),
  ∃ μ' w',Rep P ng ts N0 μ' σ' w'∧Goes μ σ w μ' σ' w'∧FrOK σ'.next e'∧CodeTo P b k cs (lone (fr b μ e (.code c::k)) cs w) x e' μ' w'
end
end Go.Proofs.YtnpoloachkcadaaGreatDoor.Ai
namespace Go.Proofs.YtnpoloachkcadaaGreatDoor.Ai
open Go
set_option linter.unusedSimpArgs false
section
variable {P:Program} {ng:Nat} {ts:List TypeId} {N0:Bs} {K:Ks} {μ:Nat→Loc} {σ σ':AW} {w w':World}
def DrawOK (P:Program) (ng:Nat) (ts:List TypeId) (N0:Bs) (K:Ks):Prop:=
 ∀ {id:Nat} {ops:Array Oper} {l:List IOper} {st:List DStage} {fin:DStage} {rnd:Option Nat} {e:Fr} {σ σ':AW} {t':List Value},cOps P ng ts ops ops.toList=some l→
  vDraw ops l (Region.before ops).toList st fin=true→
  runDraw K l fin st e.tmps σ=some (t',σ')→CodeOK P ng ts N0 rnd (.region id ops true) e σ .normal {e with tmps:=t' } σ'
theorem run_getLoop {l:Nat} {r:Loop} (h:w.heap[l]? = some (.loop r)):(Instr.getLoop l).run P w = .ok r w:=by
 simp [Instr.getLoop,getObj,Sem.run,h]
theorem Rep.setLoop (h:Rep P ng ts N0 μ σ w) {l:Nat} {r:ALoop} (hl:σ.heap.get l=some (.loop r)) (st:LoopState) (pd:Option IExit) :
  ∃ R:Loop,w.heap[(μ l).blk]? = some (.loop R)∧R.state=r.state∧R.pending=r.pending.bind cExit∧
   Rep P ng ts N0 μ (setLoop σ l {r with state:=st,pending:=pd }) {w with heap:=w.heap.setIfInBounds (μ l).blk (.loop {R with state:=st,pending:=pd.bind cExit }) }∧
   Goes μ σ w μ (setLoop σ l {r with state:=st,pending:=pd }) {w with heap:=w.heap.setIfInBounds (μ l).blk (.loop {R with state:=st,pending:=pd.bind cExit }) }:=by
 have hb:=(h.blk l _ hl).2.2
 obtain ⟨h1,h2,fn,as,bo,h3,h4,h5⟩:=hb
 refine ⟨_,h3,rfl,rfl,?_⟩
 exact h.updObj (w':={w with heap:=w.heap.setIfInBounds (μ l).blk (.loop {state:=st,pending:=pd.bind cExit,fn:=fn,tmps:=⟨concL μ r.tmps⟩,params:=⟨r.params⟩,assign:=as,body:=bo,defers:=(μ r.defers).blk }) })
  hl (by simp) (bn:=.loop {r with state:=st,pending:=pd }) (by simp) rfl rfl rfl (by simp) (fun j hj=>setIf_get hj) ⟨h1,h2,fn,as,bo,setIf_same h3,h4,h5⟩
theorem st_rangeFunc_enter {b:Frame} {e:Fr} {f:Operand} {params:Array Tmp} {as bo:Code} {k:List Item} {cs:List Frame} {l:Nat} {mk:List Deferred} {w1 w2:World}
  (h1:(Instr.enterLoop b.fn ⟨concL μ e.tmps⟩ params as bo b.roundOf).run P w = .ok (l,mk) w1) (fr1:Frame) (hfr:fr1={fr b μ e (.inRangeFunc l::k) with defers:=mk++e.dfs.map (mark μ) }) :
  (∀ g args,(do let d ← Deferred.ofValue (evc μ e.tmps f) #[.func (.yield l) #[] #[]];invoke d.target d.args).run P w1 = .ok (.enter g args) w2→
   step P (lone (fr b μ e (.code (.rangeFunc f params as bo)::k)) cs w) = .next (lone (Frame.enter P g args .normal) (fr1::cs) w2))∧
  (∀ l2 g tm as2 bo2,(do let d ← Deferred.ofValue (evc μ e.tmps f) #[.func (.yield l) #[] #[]];invoke d.target d.args).run P w1 = .ok (.round l2 g tm as2 bo2) w2→
   step P (lone (fr b μ e (.code (.rangeFunc f params as bo)::k)) cs w) = .next (lone (Frame.round l2 g tm as2 bo2 .normal) (fr1::cs) w2)):=by
 have hev:(fr1).eval f=evc μ e.tmps f:=by
  rw [hfr]
  cases f with
  | tmp t=>exact getD_conc μ e.tmps t
  | _=>rfl
 have hev2:∀ x,fr1.eval (.const x)=x:=fun _=>rfl
 have hs:stepG P true {frame:=fr b μ e (.code (.rangeFunc f params as bo)::k),callers:=cs,status:=.running,dying:=none } w =
   GStep.after (seen P b.fn (Sem.events P (Instr.enterLoop b.fn ⟨concL μ e.tmps⟩ params as bo b.roundOf) w #[])) (stepG.apply P true fr1 cs none (do let d ← resolve fr1.eval {callee:=.value f,args:=#[.const (.func (.yield l) #[] #[])],argTypes:=#[] } 0;invoke d.target d.args) w1):=by
  simp only [stepG,stepG.exec,fr,Sem.runT_eq,h1]
  rw [hfr]
  rfl
 have hres:∀ g,resolve fr1.eval {callee:=.value f,args:=#[.const (.func (.yield l) #[] #[])],argTypes:=#[] } g=Deferred.ofValue (evc μ e.tmps f) #[.func (.yield l) #[] #[]]:=by
  intro g;simp [resolve,hev,hev2]
 have htodo:fr1.todo = .inRangeFunc l::k:=by rw [hfr];rfl
 constructor
 ·intro g args hr
  refine step_lone_go ?_
  rw [hs,hres]
  simp [stepG.apply,hr,htodo]
 ·intro l2 g tm as2 bo2 hr
  refine step_lone_go ?_
  rw [hs,hres]
  simp [stepG.apply,hr]
theorem st_endRangeFunc {f:Frame} {l:Nat} {k:List Item} {cs:List Frame} {jump:Option Code} (hm:f.mode = .run) (ht:f.todo = .endRangeFunc l::k) (hr:(Instr.endLoop l).run P w = .ok jump w') :
  step P (lone f cs w) = .next (lone {f with todo:=(jump.map Item.code).toList++k } cs w'):=
 step_lone_go (by
  obtain ⟨fn,tmps,todo,defers,mode,kind,ro⟩:=f
  simp only at hm ht
  subst hm ht
  simp [stepG,stepG.exec,hr])
theorem loop_sound {body:Code} {ib:ICode} {fuel:Nat} {rnd:Option Nat} (hb:∀ {e σ x e' σ'},evC K fuel rnd ib e σ=some (x,e',σ')→CodeOK P ng ts N0 rnd body e σ x e' σ') :
  ∀ (n:Nat) {e:Fr} {σ:AW} {x:IExit} {e':Fr} {σ':AW},loopN (evC K fuel rnd ib) n e σ=some (x,e',σ')→∀ {μ:Nat→Loc} {w:World},Rep P ng ts N0 μ σ w→FrOK σ.next e→∀ (b:Frame),RndOK b σ.next μ rnd→∀ (k:List Item) (cs:List Frame),
   ∃ μ' w',Rep P ng ts N0 μ' σ' w'∧Goes μ σ w μ' σ' w'∧FrOK σ'.next e'∧CodeTo P b k cs (lone (fr b μ e (.code body::.inLoop body::k)) cs w) x e' μ' w':=by
 intro n
 induction n with
 | zero=>intro e σ x e' σ' h;simp [loopN] at h
 | succ n ih=>
  intro e σ x e' σ' hv μ w h hE b hr k cs
  simp only [loopN] at hv
  split at hv
  ·rename_i e1 σ1 h1
   obtain ⟨μ1,w1,r1,g1,f1,c1⟩:=hb h1 h hE b hr (.inLoop body::k) cs
   obtain ⟨μ2,w2,r2,g2,f2,c2⟩:=ih hv r1 f1 b (hr.mono g1.next g1.agr) k cs
   refine ⟨μ2,w2,r2,g1.trans g2,f2,c2.head ?_⟩
   exact Steps.trans c1 (.one st_inLoop)
  ·rename_i hne
   rw [hv] at hne
   obtain ⟨μ1,w1,r1,g1,f1,c1⟩:=hb hv h hE b hr (.inLoop body::k) cs
   refine ⟨μ1,w1,r1,g1,f1,?_⟩
   cases x with
   | normal=>exact absurd rfl (hne _ _)
   | exit id=>
    obtain ⟨k',h1,h2⟩:=c1
    exact ⟨k',by rw [h1];rfl,h2⟩
   | ret=>obtain ⟨k',h2⟩:=c1;exact ⟨k',h2⟩
   | panic c=>exact c1
theorem enterLoop_none {fn:FuncId} {tm:Array Value} {ps:Array Tmp} {as bo:Code}:(Instr.enterLoop fn tm ps as bo none).run P w =
  .ok (w.heap.size + 1,[{target:=.collected w.heap.size,args:=#[] }]) {w with heap:=(w.heap.push (.deferred (some []))).push (.loop {state:=.ready,pending:=none,fn,tmps:=tm,params:=ps,assign:=as,body:=bo,defers:=w.heap.size }) }:=by
 simp [Instr.enterLoop,newObj,Sem.run]
 rfl
theorem enterLoop_some {fn:FuncId} {tm:Array Value} {ps:Array Tmp} {as bo:Code} {l:Nat} {R:Loop} (h:w.heap[l]? = some (.loop R)):(Instr.enterLoop fn tm ps as bo (some l)).run P w =
  .ok (w.heap.size,[]) {w with heap:=w.heap.push (.loop {state:=.ready,pending:=none,fn,tmps:=tm,params:=ps,assign:=as,body:=bo,defers:=R.defers }) }:=by
 simp [Instr.enterLoop,newObj,Sem.run,run_getLoop h]
theorem start_sound (h:Rep P ng ts N0 μ σ w) {e:Fr} (hE:FrOK σ.next e) {b:Frame} {rnd:Option Nat} (hr:RndOK b σ.next μ rnd) {params:Array Tmp} {as bo:Code} {ia ib:ICode} (ha:cCode P ng ts as=some ia) (hb:cCode P ng ts bo=some ib) {d l:Nat} {m:List Nat} {σ1 σ2:AW}
  (h1:startOf rnd σ=some (d,m,σ1))
  (h2:σ1.push (.loop {state:=.ready,pending:=none,tmps:=e.tmps,params:=params.toList,assign:=ia,body:=ib,defers:=d })=some (l,σ2)) :
  ∃ μ2 w2,Rep P ng ts N0 μ2 σ2 w2∧Goes μ σ w μ2 σ2 w2∧l < σ2.next∧FrOK σ2.next {e with dfs:=m++e.dfs }∧
   (Instr.enterLoop b.fn ⟨concL μ e.tmps⟩ params as bo b.roundOf).run P w = .ok ((μ2 l).blk,m.map (mark μ2)) w2:=by
 cases rnd with
 | none=>
  simp only [startOf,Option.map_eq_some_iff,Prod.mk.injEq,Prod.exists] at h1
  obtain ⟨i,σ1',hp,rfl,rfl,rfl⟩:=h1
  have hro:b.roundOf=none:=hr
  obtain ⟨rfl,hn1,r1,g1⟩:=h.push hp (w':={w with heap:=w.heap.push (.deferred (some [])) }) (ob:=.deferred (some [])) (ex:=0) rfl (by simp) rfl rfl rfl rfl (by simp [BRep,upd_same])
  generalize hμ1:upd μ σ.next ⟨w.heap.size,0,0⟩=μ1 at r1 g1
  have hd1:(μ1 σ.next).blk=w.heap.size:=by rw [← hμ1,upd_same]
  have hct:concL μ1 e.tmps=concL μ e.tmps:=concL_congr (fun i hi=>g1.agr i hi) _ hE.tm
  have hlt1:σ.next < σ1'.next:=by rw [hn1];omega
  obtain ⟨rfl,hn2,r2,g2⟩:=r1.push h2 (w':={w with heap:=(w.heap.push (.deferred (some []))).push (.loop {state:=.ready,pending:=none,fn:=b.fn,tmps:=⟨concL μ e.tmps⟩,params,assign:=as,body:=bo,defers:=w.heap.size }) })
   (ob:=.loop {state:=.ready,pending:=none,fn:=b.fn,tmps:=⟨concL μ e.tmps⟩,params,assign:=as,body:=bo,defers:=w.heap.size }) (ex:=0) rfl (by simp) rfl rfl rfl rfl (by
    refine ⟨ltL_mono (show σ.next≤σ1'.next + 1 by omega) _ hE.tm,show σ.next < σ1'.next + 1 by omega,b.fn,as,bo,?_,ha,hb⟩
    have hne:σ.next ≠ σ1'.next:=by omega
    simp only [upd_same,upd_ne _ _ hne,hd1]
    have:concL (upd μ1 σ1'.next ⟨(w.heap.push (.deferred (some []))).size,0,0⟩) e.tmps=concL μ e.tmps:=by
     rw [← hct]
     exact concL_congr (fun i hi=>upd_ne _ _ (by omega)) _ hE.tm
    simp only [this,Array.getElem?_push_size]
    rfl)
  refine ⟨_,_,r2,g1.trans g2,by omega,⟨ltL_mono (by omega) _ hE.tm,?_⟩,?_⟩
  ·intro d hd
   simp at hd
   rcases hd with rfl | hd
   ·omega
   ·have:=hE.dfs d hd;omega
  ·rw [hro,enterLoop_none]
   simp [upd_same,mark,upd_ne _ _ (show σ.next ≠ σ1'.next by omega),hd1]
 | some l0=>
  simp only [startOf] at h1
  split at h1
  ·rename_i r hl0
   simp only [Option.some.injEq,Prod.mk.injEq] at h1
   obtain ⟨rfl,rfl,rfl⟩:=h1
   obtain ⟨_,hro⟩:=hr
   obtain ⟨q1,q2,fn,as0,bo0,q3,_⟩:=(h.blk _ _ hl0).2.2
   obtain ⟨rfl,hn2,r2,g2⟩:=h.push h2 (w':={w with heap:=w.heap.push (.loop {state:=.ready,pending:=none,fn:=b.fn,tmps:=⟨concL μ e.tmps⟩,params,assign:=as,body:=bo,defers:=(μ r.defers).blk }) })
    (ob:=.loop {state:=.ready,pending:=none,fn:=b.fn,tmps:=⟨concL μ e.tmps⟩,params,assign:=as,body:=bo,defers:=(μ r.defers).blk }) (ex:=0) rfl (by simp) rfl rfl rfl rfl (by
     refine ⟨ltL_mono (show σ.next≤σ.next + 1 by omega) _ hE.tm,show r.defers < σ.next + 1 by omega,b.fn,as,bo,?_,ha,hb⟩
     have hne:r.defers ≠ σ.next:=by omega
     simp only [upd_same,upd_ne _ _ hne]
     have:concL (upd μ σ.next ⟨w.heap.size,0,0⟩) e.tmps=concL μ e.tmps:=concL_congr (fun i hi=>upd_ne _ _ (by omega)) _ hE.tm
     simp only [this]
     simp)
   refine ⟨_,_,r2,g2,by omega,⟨ltL_mono (by omega) _ hE.tm,fun d hd=>by have:=hE.dfs d (by simpa using hd);omega⟩,?_⟩
   rw [hro,enterLoop_some q3]
   simp [upd_same]
  ·simp at h1
theorem evC_sound (hK:KSound P ng ts N0 K) (hD:DrawOK P ng ts N0 K) (fuel:Nat) (rnd:Option Nat):∀ (c:Code) (ic:ICode),cCode P ng ts c=some ic→∀ {e:Fr} {σ:AW} {x:IExit} {e':Fr} {σ':AW},evC K fuel rnd ic e σ=some (x,e',σ')→CodeOK P ng ts N0 rnd c e σ x e' σ':=by
 intro c
 induction c with
 | skip=>
  intro ic hc e σ x e' σ' hv μ w h hE b hr k cs
  simp [cCode] at hc;subst hc
  simp [evC] at hv
  obtain ⟨rfl,rfl,rfl⟩:=hv
  exact ⟨μ,w,h,Goes.refl _ _ _,hE,.one st_skip⟩
 | label l=>
  intro ic hc e σ x e' σ' hv μ w h hE b hr k cs
  simp [cCode] at hc;subst hc
  simp [evC] at hv
  obtain ⟨rfl,rfl,rfl⟩:=hv
  exact ⟨μ,w,h,Goes.refl _ _ _,hE,.one st_label⟩
 | region id ops d=>
  intro ic hc e σ x e' σ' hv μ w h hE b hr k cs
  cases d with
  | false=>
   simp only [cCode,Option.map_eq_some_iff] at hc
   obtain ⟨l,hl,rfl⟩:=hc
   simp only [evC,Option.map_eq_some_iff,Prod.mk.injEq,Prod.exists] at hv
   obtain ⟨x',t',σ1,hv,rfl,rfl,rfl⟩:=hv
   obtain ⟨rfl,μ1,w1,r1,g1,f1,s1⟩:=runOps_sound hK (ops:=ops) ops.toList l 0 (fun m o hm=>by simpa using hm) hl hv h hE b k cs
   refine ⟨μ1,w1,r1,g1,f1,?_⟩
   have hrg:List.range' 0 ops.toList.length=List.range ops.size:=by rw [List.range_eq_range'];simp
   rw [hrg] at s1
   exact Steps.head st_region (s1.trans (.one st_region_end))
  | true=>
   simp only [cCode] at hc
   split at hc
   ·rename_i l hl
    split at hc
    ·rename_i hvd
     simp at hc;subst hc
     simp only [evC] at hv
     simp only [Option.map_eq_some_iff,Prod.mk.injEq,Prod.exists] at hv
     obtain ⟨t',σ1,hv,rfl,rfl,rfl⟩:=hv
     exact hD hl hvd hv h hE b hr k cs
    ·simp at hc;subst hc
     simp [evC] at hv
   ·simp at hc
 | seq a b iha ihb=>
  intro ic hc e σ x e' σ' hv μ w h hE fb hr k cs
  simp only [cCode] at hc
  split at hc
  ·rename_i ia ib ha hb
   simp at hc;subst hc
   simp only [evC] at hv
   split at hv
   ·rename_i e1 σ1 h1
    obtain ⟨μ1,w1,r1,g1,f1,c1⟩:=iha ia ha h1 h hE fb hr (.code b::k) cs
    obtain ⟨μ2,w2,r2,g2,f2,c2⟩:=ihb ib hb hv r1 f1 fb (hr.mono g1.next g1.agr) k cs
    exact ⟨μ2,w2,r2,g1.trans g2,f2,c2.head (Steps.head st_seq c1)⟩
   ·rename_i hne
    rw [hv] at hne
    obtain ⟨μ1,w1,r1,g1,f1,c1⟩:=iha ia ha hv h hE fb hr (.code b::k) cs
    refine ⟨μ1,w1,r1,g1,f1,?_⟩
    cases x with
    | normal=>exact absurd rfl (hne _ _)
    | exit id=>
     obtain ⟨k',h1,h2⟩:=c1
     exact ⟨k',by rw [h1];rfl,Steps.head st_seq h2⟩
    | ret=>obtain ⟨k',h2⟩:=c1;exact ⟨k',Steps.head st_seq h2⟩
    | panic c=>exact c1
  ·simp at hc
 | cond c a b iha ihb=>
  intro ic hc e σ x e' σ' hv μ w h hE fb hr k cs
  simp only [cCode] at hc
  split at hc
  ·rename_i hok
   split at hc
   ·rename_i ia ib ha hb
    simp at hc;subst hc
    simp only [evC] at hv
    have hcv:=opd_conc h.glob e.tmps hok
    split at hv
    ·rename_i ht
     obtain ⟨μ1,w1,r1,g1,f1,c1⟩:=iha ia ha hv h hE fb hr k cs
     refine ⟨μ1,w1,r1,g1,f1,c1.head (.one ?_)⟩
     rw [st_cond (t:=true) (by rw [hcv,ht];simp)];simp
    ·rename_i ht
     obtain ⟨μ1,w1,r1,g1,f1,c1⟩:=ihb ib hb hv h hE fb hr k cs
     refine ⟨μ1,w1,r1,g1,f1,c1.head (.one ?_)⟩
     rw [st_cond (t:=false) (by rw [hcv,ht];simp)];simp
    ·simp at hv
   ·simp at hc
  ·simp at hc
 | block id b ih=>
  intro ic hc e σ x e' σ' hv μ w h hE fb hr k cs
  simp only [cCode,Option.map_eq_some_iff] at hc
  obtain ⟨ib,hb,rfl⟩:=hc
  simp only [evC] at hv
  split at hv
  ·rename_i i e1 σ1 h1
   simp only [Option.some.injEq,Prod.mk.injEq] at hv
   obtain ⟨rfl,rfl,rfl⟩:=hv
   obtain ⟨μ1,w1,r1,g1,f1,k',hk1,hk2⟩:=ih ib hb h1 h hE fb hr (.inBlock id::k) cs
   refine ⟨μ1,w1,r1,g1,f1,?_⟩
   split
   ·rename_i hid
    subst hid
    have:exitTo i k'=some k:=by rw [hk1];simp [exitTo]
    exact Steps.head st_block (hk2.trans (.one (st_exit this)))
   ·rename_i hid
    refine ⟨k',?_,Steps.head st_block hk2⟩
    rw [hk1]
    have:(id == i)=false:=by simp;exact fun h=>hid h.symm
    simp [exitTo,this]
  ·rename_i hne
   rw [hv] at hne
   obtain ⟨μ1,w1,r1,g1,f1,c1⟩:=ih ib hb hv h hE fb hr (.inBlock id::k) cs
   refine ⟨μ1,w1,r1,g1,f1,?_⟩
   cases x with
   | normal=>exact Steps.head st_block (Steps.trans c1 (.one st_inBlock))
   | exit i=>exact absurd rfl (hne _ _ _)
   | ret=>obtain ⟨k',h2⟩:=c1;exact ⟨k',Steps.head st_block h2⟩
   | panic c=>exact c1
 | loop b ih=>
  intro ic hc e σ x e' σ' hv μ w h hE fb hr k cs
  simp only [cCode,Option.map_eq_some_iff] at hc
  obtain ⟨ib,hb,rfl⟩:=hc
  simp only [evC] at hv
  obtain ⟨μ1,w1,r1,g1,f1,c1⟩:=loop_sound (fun {e σ x e' σ'} hh=>ih ib hb hh) fuel hv h hE fb hr k cs
  exact ⟨μ1,w1,r1,g1,f1,c1.head (.one st_loop)⟩
 | exit id=>
  intro ic hc e σ x e' σ' hv μ w h hE b hr k cs
  simp [cCode] at hc;subst hc
  simp [evC] at hv
  obtain ⟨rfl,rfl,rfl⟩:=hv
  exact ⟨μ,w,h,Goes.refl _ _ _,hE,k,rfl,.refl _ _⟩
 | ret=>
  intro ic hc e σ x e' σ' hv μ w h hE b hr k cs
  simp [cCode] at hc;subst hc
  simp [evC] at hv
  obtain ⟨rfl,rfl,rfl⟩:=hv
  exact ⟨μ,w,h,Goes.refl _ _ _,hE,k,.refl _ _⟩
 | refuse s=>
  intro ic hc e σ x e' σ' hv
  simp [cCode] at hc;subst hc
  simp [evC] at hv
 | scope b ih=>intro ic hc;simp [cCode] at hc
 | goto l=>intro ic hc;simp [cCode] at hc
 | rangeFunc f params as bo iha ihb=>
  intro ic hc e σ x e' σ' hv μ w h hE fb hr k cs
  simp only [cCode] at hc
  split at hc
  ·rename_i hok
   split at hc
   ·rename_i ia ib ha hb
    simp at hc;subst hc
    simp only [evC,Option.bind_eq_some_iff,Prod.exists] at hv
    obtain ⟨d,m,σ1,h1,l,σ2,h2,hv⟩:=hv
    obtain ⟨μ2,w2,r2,g2,hl2,f2,hrun⟩:=start_sound h hE hr ha hb h1 h2
    split at hv
    ·rename_i v σ3 hcall
     have hF:=opd_lt h.ngn hE.tm hok
     have hFc:conc μ2 ((cOpd f).ev e.tmps)=evc μ e.tmps f:=by
      rw [opd_conc h.glob e.tmps hok];exact conc_congr (fun i hi=>g2.agr i hi) _ hF
     have hgo:=callV_sound hK r2 (lt_mono g2.next _ hF) (args:=[.func (.yield l) #[] #[]]) (by simp [ltL,lt,ltFn,hl2]) hcall
     rw [hFc] at hgo
     have harg:(⟨concL μ2 [.func (.yield l) #[] #[]]⟩:Array Value) = #[.func (.yield (μ2 l).blk) #[] #[]]:=by simp [concL,conc,cFn]
     rw [harg] at hgo
     have hfr1:{fr fb μ e (.inRangeFunc (μ2 l).blk::k) with defers:=m.map (mark μ2)++e.dfs.map (mark μ) }=fr fb μ2 {e with dfs:=m++e.dfs } (.inRangeFunc (μ2 l).blk::k):=by
      have q1:concL μ2 e.tmps=concL μ e.tmps:=concL_congr (fun i hi=>g2.agr i hi) _ hE.tm
      have q2:e.dfs.map (mark μ2)=e.dfs.map (mark μ):=List.map_congr_left fun d hd=>by simp [mark,g2.agr d (hE.dfs d hd)]
      simp [fr,q1,q2]
     obtain ⟨se,sr⟩:=st_rangeFunc_enter (P:=P) (f:=f) (k:=k) (cs:=cs) (w2:=w2) hrun _ hfr1.symm
     obtain ⟨μ3,w3,r3,g3,l3,s3⟩:∃ μ3 w3,Rep P ng ts N0 μ3 σ3 w3∧Goes μ2 σ2 w2 μ3 σ3 w3∧lt σ3.next v=true∧
       Steps P (lone (fr fb μ e (.code (.rangeFunc f params as bo)::k)) cs w) (lone ((fr fb μ2 {e with dfs:=m++e.dfs } (.inRangeFunc (μ2 l).blk::k)).finish (conc μ3 v)) cs w3):=by
      cases hgo with
      | enter g args hr1 hok1=>
       obtain ⟨μ3,w3,q1,q2,q3,q4⟩:=hok1 (fr fb μ2 {e with dfs:=m++e.dfs } (.inRangeFunc (μ2 l).blk::k)) cs
       exact ⟨μ3,w3,q1,q2,q3,.head (se g args hr1) q4⟩
      | round l2 g tm as2 bo2 hr1 hok1=>
       obtain ⟨μ3,w3,q1,q2,q3,q4⟩:=hok1 (fr fb μ2 {e with dfs:=m++e.dfs } (.inRangeFunc (μ2 l).blk::k)) cs
       exact ⟨μ3,w3,q1,q2,q3,.head (sr l2 g tm as2 bo2 hr1) q4⟩
     split at hv
     ·rename_i r hlr
      split at hv
      ·simp at hv
      ·rename_i hbusy
       simp only [Option.some.injEq,Prod.mk.injEq] at hv
       obtain ⟨hx,rfl,rfl⟩:=hv
       obtain ⟨R,hR1,hR2,hR3,r4,g4⟩:=r3.setLoop hlr .exhausted r.pending
       have hml:(μ3 l).blk=(μ2 l).blk:=by rw [g3.agr l hl2]
       have hend:(Instr.endLoop (μ2 l).blk).run P w3 = .ok R.pending {w3 with heap:=w3.heap.setIfInBounds (μ3 l).blk (.loop {R with state:=.exhausted,pending:=r.pending.bind cExit }) }:=by
        rw [← hml]
        have hst:¬ R.state = .busy:=by rw [hR2];simpa using hbusy
        simp [Instr.endLoop,run_getLoop hR1,run_setObj hR1 (by simp),hR3]
        intro hb;exact absurd hb hst
       have hfr3:((fr fb μ2 {e with dfs:=m++e.dfs } (.inRangeFunc (μ2 l).blk::k)).finish (conc μ3 v))=fr fb μ3 {e with dfs:=m++e.dfs } (.endRangeFunc (μ2 l).blk::k):=by
        rw [← fr_congr f2 g3.agr]
        simp [Frame.finish,fr]
       rw [hfr3] at s3
       have s4:=s3.trans (.one (st_endRangeFunc (P:=P) (f:=fr fb μ3 {e with dfs:=m++e.dfs } (.endRangeFunc (μ2 l).blk::k)) rfl rfl hend))
       refine ⟨μ3,_,r4,(g2.trans g3).trans g4,f2.mono (Nat.le_trans g3.next g4.next),?_⟩
       rw [hR3] at s4
       cases hp:r.pending with
       | none=>
        rw [hp] at hx s4
        simp at hx;subst hx
        exact s4
       | some y=>
        rw [hp] at hx s4
        cases y with
        | normal=>simp at hx;subst hx;exact s4
        | exit i=>simp at hx;subst hx;exact ⟨k,rfl,s4⟩
        | ret=>simp at hx;subst hx;exact ⟨k,s4⟩
        | panic c=>simp at hx;subst hx;exact s4
     ·simp at hv
    ·simp at hv
   ·simp at hc
  ·simp at hc
end
end Go.Proofs.YtnpoloachkcadaaGreatDoor.Ai
namespace Go.Proofs.YtnpoloachkcadaaGreatDoor.Ai
open Go
set_option linter.unusedSimpArgs false
def TabOK (P:Program) (ng:Nat) (ts:List TypeId) (C:Tr IFunc):Prop:=∀ f ifn,C.get f=some ifn→∃ fn,P.funcs[f]? = some fn∧cFunc P ng ts fn=some ifn
section
variable {P:Program} {ng:Nat} {ts:List TypeId} {N0:Bs} {K:Ks} {μ:Nat→Loc} {σ σ':AW} {w w':World}
theorem setParams_sound:∀ {ps:List Nat} {vs e e':List Value},setParams e ps vs=some e'→ps.length=vs.length∧
  ((ps.zip (concL μ vs)).foldl (fun (t:Array Value) (p:Nat × Value)=>t.setIfInBounds p.1 p.2) ⟨concL μ e⟩)=⟨concL μ e'⟩∧∀ n,ltL n e=true→ltL n vs=true→ltL n e'=true:=by
 intro ps
 induction ps with
 | nil=>
  intro vs e e' h
  cases vs with
  | nil=>simp [setParams] at h;subst h;exact ⟨rfl,rfl,fun n h _=>h⟩
  | cons v vs=>simp [setParams] at h
 | cons p ps ih=>
  intro vs e e' h
  cases vs with
  | nil=>simp [setParams] at h
  | cons v vs=>
   simp only [setParams] at h
   obtain ⟨h1,h2,h3⟩:=ih h
   refine ⟨by simp [h1],?_,fun n he hv=>?_⟩
   ·simp only [concL,List.zip_cons_cons,List.foldl_cons]
    rw [← h2]
    congr 1
    rw [setV_eq,concL_eq,concL_eq]
    apply Array.ext'
    simp [List.map_set]
   ·simp [ltL] at hv
    exact h3 n (ltL_setV he p hv.1) hv.2
theorem endRound_run {l:Nat} {R:Loop} (h:w.heap[l]? = some (.loop R)) (jump:Option Code) :
  (Instr.endRound l jump).run P w = .ok (.bool jump.isNone) {w with heap:=w.heap.setIfInBounds l (.loop {R with state:=if jump.isNone then .ready else .done,pending:=jump }) }:=by
 simp [Instr.endRound,run_getLoop h,run_setObj h (by simp)]
theorem yieldF_sound (hK:KSound P ng ts N0 K) (hD:DrawOK P ng ts N0 K) (fuel:Nat) {l:Nat} {args:List Value} {v:Value} (hv:yieldF K fuel l args σ=some (.ret v,σ')) (h:Rep P ng ts N0 μ σ w) (ha:ltL σ.next args=true) :
  ∃ fn tm as bo,(Instr.yield (μ l).blk ⟨concL μ args⟩).run P w = .ok (.round (μ l).blk fn tm as bo) w∧CallOK P ng ts N0 (fun μ=>Frame.round (μ l).blk fn tm as bo .normal) σ v σ' μ w:=by
 unfold yieldF at hv
 split at hv
 ·rename_i r hl
  have hll:=(h.blk l _ hl).1
  obtain ⟨q1,q2,fn,as,bo,q3,q4,q5⟩:=(h.blk l _ hl).2.2
  simp only [Option.bind_eq_some_iff] at hv
  obtain ⟨e,he,hv⟩:=hv
  obtain ⟨hlen,hfold,hlt⟩:=setParams_sound (μ:=μ) he
  refine ⟨fn,⟨concL μ e⟩,as,bo,?_,?_⟩
  ·have hsz:¬ ((⟨concL μ args⟩:Array Value).size ≠ (⟨r.params⟩:Array Nat).size):=by simp [concL_length,hlen]
   simp only [Instr.yield,Sem.run_bind,run_getLoop q3,Result.andThen_ok]
   rw [if_neg hsz]
   simp only [Sem.run_pure]
   congr 2
   have:((⟨r.params⟩:Array Nat).zip (⟨concL μ args⟩:Array Value)).foldl (fun (tmps:Array Value) (x:Nat × Value)=>tmps.setIfInBounds x.1 x.2) (⟨concL μ r.tmps⟩:Array Value)=⟨concL μ e⟩:=by
    rw [← hfold,← Array.foldl_toList];simp
   exact this
  ·intro c cs
   have hE:FrOK σ.next {tmps:=e,dfs:=[] }:=⟨hlt _ q1 ha,by simp⟩
   let b:Frame:={fn:=fn,tmps:=#[],todo:=[],defers:=[],mode:=.run,kind:=.normal,roundOf:=some (μ l).blk }
   have hstart:Frame.round (μ l).blk fn ⟨concL μ e⟩ as bo .normal=fr b μ {tmps:=e,dfs:=[] } (.code as::.beginRound::[.code bo]):=rfl
   split at hv
   ·rename_i e1 σ1 h1
    obtain ⟨μ1,w1,r1,g1,f1,c1⟩:=evC_sound hK hD fuel (some l) as _ q4 h1 h hE b ⟨hll,rfl⟩ (.beginRound::[.code bo]) (c::cs)
    have hb1:(μ1 l).blk=(μ l).blk:=by rw [g1.agr l hll]
    split at hv
    ·rename_i r1' hl1
     split at hv
     ·rename_i hready
      obtain ⟨R1,hR1,hR2,hR3,r2,g2⟩:=r1.setLoop hl1 .busy r1'.pending
      have hbeg:(Instr.beginRound (μ l).blk).run P w1 = .ok () {w1 with heap:=w1.heap.setIfInBounds (μ1 l).blk (.loop {R1 with state:=.busy,pending:=r1'.pending.bind cExit }) }:=by
       rw [← hb1]
       have hst:R1.state = .ready:=by rw [hR2];simpa using hready
       simp only [Instr.beginRound,Sem.run_bind,run_getLoop hR1,Result.andThen_ok,run_setObj hR1 (by simp),hst,Sem.run_pure,hR3]
      split at hv
      ·rename_i x e2 σ2 h2
       obtain ⟨μ2,w2,r3,g3,f2,c2⟩:=evC_sound hK hD fuel (some l) bo _ q5 h2 r2 f1 b ⟨Nat.lt_of_lt_of_le hll (Nat.le_trans g1.next g2.next),by rw [hb1]⟩ [] (c::cs)
       have hl2:l < (setLoop σ1 l {r1' with state:=.busy,pending:=r1'.pending }).next:=Nat.lt_of_lt_of_le hll (Nat.le_trans g1.next g2.next)
       have hb2:(μ2 l).blk=(μ l).blk:=by rw [g3.agr l hl2,hb1]
       have hsteps:Steps P (lone (Frame.round (μ l).blk fn ⟨concL μ e⟩ as bo .normal) (c::cs) w) (lone (fr b μ1 e1 [.code bo]) (c::cs) {w1 with heap:=w1.heap.setIfInBounds (μ1 l).blk (.loop {R1 with state:=.busy,pending:=r1'.pending.bind cExit }) }):=by
        rw [hstart]
        exact Steps.trans c1 (.one (st_beginRound rfl hbeg))
       split at hv
       ·rename_i r2' hl2'
        have fin:∀ (st:LoopState) (pd:Option IExit) (jump:Option Code),pd.bind cExit=jump→st=(if jump.isNone then .ready else .done)→v = .bool jump.isNone→σ'=setLoop σ2 l {r2' with state:=st,pending:=pd }→
          (∃ F:Frame,F.mode = .run∧F.roundOf=some (μ l).blk∧F.kind = .normal∧((F.todo=[]∧jump=none)∨(∃ k,F.todo = .code .ret::k∧jump=some .ret)∨∃ id k,F.todo = .code (.exit id)::k∧exitTo id k=none∧jump=some (.exit id))∧
           Steps P (lone (fr b μ1 e1 [.code bo]) (c::cs) {w1 with heap:=w1.heap.setIfInBounds (μ1 l).blk (.loop {R1 with state:=.busy,pending:=r1'.pending.bind cExit }) }) (lone F (c::cs) w2))→
          ∃ μ' w',Rep P ng ts N0 μ' σ' w'∧Goes μ σ w μ' σ' w'∧lt σ'.next v=true∧Steps P (lone (Frame.round (μ l).blk fn ⟨concL μ e⟩ as bo .normal) (c::cs) w) (lone (c.finish (conc μ' v)) cs w'):=by
         intro st pd jump hpd hst hvv hσ ⟨F,hF1,hF2,hF3,hF4,hF5⟩
         obtain ⟨R2,hR21,hR22,hR23,r4,g4⟩:=r3.setLoop hl2' st pd
         rw [hb2] at hR21 r4 g4
         refine ⟨μ2,_,by rw [hσ];exact r4,by rw [hσ];exact ((g1.trans g2).trans g3).trans g4,by rw [hvv];simp,?_⟩
         refine hsteps.trans (hF5.trans (.one ?_))
         have hend:=endRound_run (P:=P) hR21 jump
         rw [hvv,conc_bool]
         refine st_endRound hF1 hF2 hF3 hF4 ?_
         rw [hend,hpd,hst]
        cases x with
        | normal=>
         simp only [Option.some.injEq,Prod.mk.injEq,IRet.ret.injEq] at hv
         exact fin .ready none none rfl rfl hv.1.symm hv.2.symm ⟨_,rfl,rfl,rfl,.inl ⟨rfl,rfl⟩,c2⟩
        | exit i=>
         simp only [Option.some.injEq,Prod.mk.injEq,IRet.ret.injEq] at hv
         obtain ⟨k',hk1,hk2⟩:=c2
         exact fin .done (some (.exit i)) (some (.exit i)) rfl rfl hv.1.symm hv.2.symm ⟨_,rfl,rfl,rfl,.inr (.inr ⟨i,k',rfl,by rw [hk1];rfl,rfl⟩),hk2⟩
        | ret=>
         simp only [Option.some.injEq,Prod.mk.injEq,IRet.ret.injEq] at hv
         obtain ⟨k',hk2⟩:=c2
         exact fin .done (some .ret) (some .ret) rfl rfl hv.1.symm hv.2.symm ⟨_,rfl,rfl,rfl,.inr (.inl ⟨k',rfl,rfl⟩),hk2⟩
        | panic p=>simp at hv
       ·simp at hv
      ·simp at hv
     ·simp at hv
    ·simp at hv
   ·simp at hv
 ·simp at hv
def resSem (μ:Nat→Loc) (e:List Value):ResultVar→Sem Value
 | .tmp t=>pure ((⟨concL μ e⟩:Array Value).getD t undef)
 | .cell a t=>do loadVar t (← asAddr ((⟨concL μ e⟩:Array Value).getD a undef))
theorem resV_sound (h:Rep P ng ts N0 μ σ w) {e:List Value} (he:ltL σ.next e=true) {r:ResultVar} {ir:IRes} (hc:cRes P r=some ir) {v:Value} (hv:resV e σ ir=some v) :
  (resSem μ e r).run P w = .ok (conc μ v) w∧lt σ.next v=true:=by
 cases r with
 | tmp t=>
  simp [cRes] at hc;subst hc
  simp [resV] at hv;subst hv
  exact ⟨by simp only [resSem,getD_conc,Sem.run_pure],ltL_getV he t⟩
 | cell a t=>
  simp only [cRes,Option.map_eq_some_iff] at hc
  obtain ⟨m,hm,rfl⟩:=hc
  simp only [resV] at hv
  have hl:=ltL_getV he a
  simp only [resSem,getD_conc]
  split at hv
  ·rename_i ad hg
   rw [hg] at hl ⊢
   rw [lt_psome] at hl
   rcases partOf_some hm with ⟨rfl,hag,_⟩ | ⟨k,rfl,hag,hs⟩
   ·have hr:=rd_sound h hl.2 hv
    exact ⟨by simp [asAddr,run_load1 hag hr.1],hr.2⟩
   ·simp only [Option.map_eq_some_iff] at hv
    obtain ⟨l,hl',rfl⟩:=hv
    have hr:=rdN_sound h hl.2 hl'
    exact ⟨by simp [asAddr,run_loadN hag hs hr.1],by simpa using hr.2.1⟩
  ·simp at hv
theorem resVs_sound (h:Rep P ng ts N0 μ σ w) {e:List Value} (he:ltL σ.next e=true):∀ {rs:List ResultVar} {irs:List IRes},rs.mapM (cRes P)=some irs→∀ {vs:List Value},resVs e σ irs=some vs→
  (rs.mapM (resSem μ e)).run P w = .ok (concL μ vs) w∧ltL σ.next vs=true:=by
 intro rs
 induction rs with
 | nil=>
  intro irs hc vs hv
  simp at hc;subst hc
  simp [resVs] at hv;subst hv
  exact ⟨by simp [concL],by simp [ltL]⟩
 | cons r rs ih=>
  intro irs hc vs hv
  simp only [List.mapM_cons,Option.bind_eq_bind,Option.bind_eq_some_iff] at hc
  obtain ⟨ir,h1,irs',h2,hc⟩:=hc
  simp at hc;subst hc
  simp only [resVs] at hv
  split at hv
  ·rename_i v vs' hv1 hv2
   simp at hv;subst hv
   obtain ⟨a1,a2⟩:=resV_sound h he h1 hv1
   obtain ⟨b1,b2⟩:=ih h2 hv2
   exact ⟨by simp only [List.mapM_cons,Sem.run_bind,a1,Result.andThen_ok,b1,Sem.run_pure,concL],by simp [ltL,a2,b2]⟩
  ·simp at hv
theorem results_sound (h:Rep P ng ts N0 μ σ w) {e:List Value} (he:ltL σ.next e=true) {fn:Func} {irs:List IRes} (hc:fn.results.toList.mapM (cRes P)=some irs) {vs:List Value} (hv:resVs e σ irs=some vs) :
  (results fn ⟨concL μ e⟩).run P w = .ok (conc μ (tupleOf vs)) w∧lt σ.next (tupleOf vs)=true:=by
 obtain ⟨h1,h2⟩:=resVs_sound h he hc hv
 constructor
 ·have hres:results fn ⟨concL μ e⟩=(do let vs ← fn.results.mapM (resSem μ e);pure (if h:vs.size=1 then vs[0] else .tuple vs)):=by
   unfold results
   congr 2
  rw [hres,Array.mapM_eq_mapM_toList]
  simp only [Sem.run_bind,Sem.run_map,h1,Result.andThen_ok,Sem.run_pure]
  congr 1
  cases vs with
  | nil=>simp [tupleOf,concL]
  | cons v vs=>
   cases vs with
   | nil=>simp [tupleOf,concL]
   | cons v2 vs=>simp [tupleOf,concL]
 ·cases vs with
  | nil=>simp [tupleOf,ltL]
  | cons v vs=>
   cases vs with
   | nil=>simpa [tupleOf,ltL] using h2
   | cons v2 vs=>simpa [tupleOf] using h2
theorem runDfs_sound:∀ {ds:List Nat} {σ σ':AW} {μ:Nat→Loc} {w:World},runDfs ds σ=some σ'→Rep P ng ts N0 μ σ w→(∀ d∈ds,d < σ.next)→∀ (F:Frame) (cs:List Frame),F.mode = .returning→F.defers=ds.map (mark μ)→
  ∃ w',Rep P ng ts N0 μ σ' w'∧Goes μ σ w μ σ' w'∧Steps P (lone F cs w) (lone {F with defers:=[] } cs w'):=by
 intro ds
 induction ds with
 | nil=>
  intro σ σ' μ w hv h _ F cs hm hd
  simp [runDfs] at hv;subst hv
  refine ⟨w,h,Goes.refl _ _ _,?_⟩
  have:{F with defers:=[] }=F:=by cases F;simp at hd ⊢;exact hd
  rw [this];exact .refl _ _
 | cons d ds ih=>
  intro σ σ' μ w hv h hlt F cs hm hd
  simp only [runDfs] at hv
  split at hv
  ·rename_i hg
   have hb:w.heap[(μ d).blk]? = some (.deferred (some [])):=(h.blk d _ hg).2.2
   obtain ⟨r1,g1⟩:=h.updObj (w':={w with heap:=w.heap.setIfInBounds (μ d).blk (.deferred none) }) hg (by simp) (bn:=.deferred true) (by simp) rfl rfl rfl (by simp) (fun j hj=>setIf_get hj) (by
    show _=_;rw [setIf_same hb];rfl)
   obtain ⟨w2,r2,g2,s2⟩:=ih hv r1 (fun x hx=>hlt x (by simp [hx])) {F with defers:=ds.map (mark μ) } cs hm rfl
   exact ⟨w2,r2,g1.trans g2,.head (st_mark hm (by rw [hd];rfl) hb) s2⟩
  ·simp at hv
theorem concL_replicate (μ:Nat→Loc) (n:Nat):concL μ (List.replicate n undef)=List.replicate n undef:=by
 simp [concL_eq,conc_undef]
theorem callF_sound (hK:KSound P ng ts N0 K) (hD:DrawOK P ng ts N0 K) {C:Tr IFunc} (hC:TabOK P ng ts C) (fuel:Nat) {f:FuncId} {args:List Value} {v:Value} (hv:callF K C fuel f args σ=some (.ret v,σ')) :
  (∃ fn,P.funcs[f]? = some fn∧fn.body.isNone=false∧(fn.name == "runtime.NumGoroutine")=false)∧
  ∀ {μ w},Rep P ng ts N0 μ σ w→ltL σ.next args=true→CallOK P ng ts N0 (fun μ=>Frame.enter P f ⟨concL μ args⟩ .normal) σ v σ' μ w:=by
 unfold callF at hv
 split at hv
 ·simp at hv
 ·rename_i ifn hf
  obtain ⟨fn,hfn,hcf⟩:=hC f ifn hf
  unfold cFunc at hcf
  split at hcf
  ·rename_i c rs hbody hrs
   split at hcf
   ·simp at hcf
   ·rename_i hname
    simp only [Option.map_eq_some_iff] at hcf
    obtain ⟨ib,hib,rfl⟩:=hcf
    refine ⟨⟨fn,hfn,by rw [hbody];rfl,by simpa using hname⟩,?_⟩
    intro μ w h ha c' cs
    let b:Frame:={fn:=f,tmps:=#[],todo:=[],defers:=[],mode:=.run,kind:=.normal,roundOf:=none }
    have hE:FrOK σ.next {tmps:=args++List.replicate (fn.ntmps - args.length) undef,dfs:=[] }:=by
     refine ⟨ltL_append.2 ⟨ha,(ltL_iff _ _).2 fun v hv=>?_⟩,by simp⟩
     rw [(List.mem_replicate.1 hv).2];exact lt_undef _
    have hstart:Frame.enter P f ⟨concL μ args⟩ .normal=fr b μ {tmps:=args++List.replicate (fn.ntmps - args.length) undef,dfs:=[] } [.code c]:=by
     simp only [Frame.enter,fr,hfn,hbody]
     simp [concL_append,concL_replicate,concL_length,b,hbody]
    have fin:∀ (x:IExit) (e:Fr) (σ1:AW),(x = .normal∨x = .ret)→evC K fuel none ib {tmps:=args++List.replicate (fn.ntmps - args.length) undef,dfs:=[] } σ=some (x,e,σ1)→
      ((runDfs e.dfs σ1).bind fun σ=>(resVs e.tmps σ rs).map fun vs=>(IRet.ret (tupleOf vs),σ))=some (.ret v,σ')→
      ∃ μ' w',Rep P ng ts N0 μ' σ' w'∧Goes μ σ w μ' σ' w'∧lt σ'.next v=true∧Steps P (lone (Frame.enter P f ⟨concL μ args⟩ .normal) (c'::cs) w) (lone (c'.finish (conc μ' v)) cs w'):=by
     intro x e σ1 hx hev hr
     simp only [Option.bind_eq_some_iff,Option.map_eq_some_iff,Prod.mk.injEq,IRet.ret.injEq] at hr
     obtain ⟨σ2,hdf,vs,hvs,rfl,rfl⟩:=hr
     obtain ⟨μ1,w1,r1,g1,f1,c1⟩:=evC_sound hK hD fuel none c ib hib hev h hE b rfl [] (c'::cs)
     obtain ⟨F,hF1,hF2,hF3,hF4,hF5,hF6⟩:∃ F:Frame,F.mode = .returning∧F.defers=e.dfs.map (mark μ1)∧F.kind = .normal∧F.fn=f∧F.tmps=⟨concL μ1 e.tmps⟩∧
       Steps P (lone (fr b μ {tmps:=args++List.replicate (fn.ntmps - args.length) undef,dfs:=[] } [.code c]) (c'::cs) w) (lone F (c'::cs) w1):=by
      rcases hx with rfl | rfl
      ·exact ⟨_,rfl,rfl,rfl,rfl,rfl,Steps.trans c1 (.one (st_end rfl))⟩
      ·obtain ⟨k',hk⟩:=c1
       exact ⟨_,rfl,rfl,rfl,rfl,rfl,Steps.trans hk (.one (st_ret rfl))⟩
     obtain ⟨w2,r2,g2,s2⟩:=runDfs_sound hdf r1 f1.dfs F (c'::cs) hF1 hF2
     obtain ⟨hres,hlv⟩:=results_sound (fn:=fn) r2 (ltL_mono g2.next _ f1.tm) hrs hvs
     refine ⟨μ1,w2,r2,g1.trans g2,hlv,?_⟩
     rw [hstart]
     refine hF6.trans (s2.trans (.one ?_))
     exact st_leave (fn:=fn) hF1 rfl hF3 (by simp only;rw [hF4];exact hfn) (by simp only;rw [hF5];exact hres)
    simp only at hv
    split at hv
    ·rename_i e σ1 hev
     exact fin .normal e σ1 (.inl rfl) hev hv
    ·rename_i e σ1 hev
     exact fin .ret e σ1 (.inr rfl) hev hv
    ·simp at hv
  ·simp at hcf
theorem ksN_sound {C:Tr IFunc} (hC:TabOK P ng ts C) (hD:∀ K,KSound P ng ts N0 K→DrawOK P ng ts N0 K):∀ n,KSound P ng ts N0 (ksN C n)
 | 0=>⟨fun h=>by simp [ksN] at h,fun h=>by simp [ksN] at h⟩
 | n + 1=>by
  have ih:=ksN_sound hC hD n
  exact ⟨fun h=>callF_sound ih (hD _ ih) hC n h,fun {l args σ v σ'} h {μ w} hr ha=>yieldF_sound ih (hD _ ih) n h hr ha⟩
end
end Go.Proofs.YtnpoloachkcadaaGreatDoor.Ai
namespace Go.Proofs.YtnpoloachkcadaaGreatDoor.Ai
open Go
set_option linter.unusedSimpArgs false
theorem nthO_eq (l:List IOper):∀ n,nthO l n=l[n]?:=by
 induction l with
 | nil=>intro n;simp [nthO]
 | cons v l ih=>intro n;cases n <;> simp [nthO,ih]
theorem nthN_eq (l:List Nat):∀ n,nthN l n=l.getD n 0:=by
 induction l with
 | nil=>intro n;simp [nthN]
 | cons v l ih=>intro n;cases n <;> simp [nthN,ih]
def dstOf (l:List IOper) (i:Nat):Option Nat:=(nthO l i).bind (·.dst)
def tm (l:List IOper) (v:Nat→Value) (e0:List Value):List Nat→List Value
 | []=>e0
 | i::C=>put (tm l v e0 C) (dstOf l i) (v i)
theorem put_length (e:List Value) (d:Option Nat) (v:Value):(put e d v).length=e.length:=by
 cases d <;> simp [put,setV_eq]
theorem tm_length (l:List IOper) (v:Nat→Value) (e0:List Value):∀ C,(tm l v e0 C).length=e0.length
 | []=>rfl
 | i::C=>by rw [tm,put_length,tm_length l v e0 C]
theorem tm_congr {l:List IOper} {v v':Nat→Value} {e0:List Value}:∀ {C:List Nat},(∀ i∈C,v' i=v i)→tm l v' e0 C=tm l v e0 C
 | [],_=>rfl
 | i::C,h=>by rw [tm,tm,tm_congr (C:=C) fun j hj=>h j (by simp [hj]),h i (by simp)]
theorem getV_put_ne {e:List Value} {d:Option Nat} {x:Value} {t:Nat} (h:d ≠ some t):getV (put e d x) t=getV e t:=by
 cases d with
 | none=>rfl
 | some d=>
  have:d ≠ t:=fun he=>h (by rw [he])
  simp [put,getV_eq,setV_eq,List.getD_eq_getElem?_getD,List.getElem?_set,this]
theorem getV_put_eq {e:List Value} {x:Value} {t:Nat}:getV (put e (some t) x) t=if t < e.length then x else undef:=by
 simp [put,getV_eq,setV_eq,List.getD_eq_getElem?_getD,List.getElem?_set]
 split <;> simp_all
theorem tm_none {l:List IOper} {v:Nat→Value} {e0:List Value} {t:Nat}:∀ {C:List Nat},(∀ j∈C,dstOf l j ≠ some t)→getV (tm l v e0 C) t=getV e0 t
 | [],_=>rfl
 | i::C,h=>by rw [tm,getV_put_ne (h i (by simp)),tm_none fun j hj=>h j (by simp [hj])]
theorem tm_some {l:List IOper} {v:Nat→Value} {e0:List Value} {t j:Nat} (hd:dstOf l j=some t) (hu:∀ i,dstOf l i=some t→i=j):∀ {C:List Nat},j∈C→getV (tm l v e0 C) t=if t < e0.length then v j else undef
 | [],h=>by simp at h
 | i::C,h=>by
  rw [tm]
  by_cases hi:dstOf l i=some t
  ·rw [hi,getV_put_eq,hu i hi,tm_length]
  ·rw [getV_put_ne hi]
   refine tm_some hd hu ?_
   rcases List.mem_cons.1 h with rfl | h
   ·exact absurd hd hi
   ·exact h
theorem tm_agree {l:List IOper} {v:Nat→Value} {e0:List Value} {t:Nat} (hu:∀ i j,dstOf l i=some t→dstOf l j=some t→i=j) {S C:List Nat} (h:∀ j,dstOf l j=some t→(j∈S↔j∈C)):getV (tm l v e0 S) t=getV (tm l v e0 C) t:=by
 by_cases hj:∃ j∈S,dstOf l j=some t
 ·obtain ⟨j,hj,hd⟩:=hj
  rw [tm_some hd (fun i hi=>hu i j hi hd) hj,tm_some hd (fun i hi=>hu i j hi hd) ((h j hd).1 hj)]
 ·have h1:∀ j∈S,dstOf l j ≠ some t:=fun j hj' hd=>hj ⟨j,hj',hd⟩
  have h2:∀ j∈C,dstOf l j ≠ some t:=fun j hj' hd=>hj ⟨j,(h j hd).2 hj',hd⟩
  rw [tm_none h1,tm_none h2]
theorem tm_eq_all {l:List IOper} {v:Nat→Value} {e0:List Value} (hu:∀ t i j,dstOf l i=some t→dstOf l j=some t→i=j) {S C:List Nat} (h:∀ j,j < l.length→(j∈S↔j∈C)):tm l v e0 S=tm l v e0 C:=by
 apply List.ext_getElem
 ·rw [tm_length,tm_length]
 ·intro t h1 h2
  have:=tm_agree (v:=v) (e0:=e0) (hu t) (S:=S) (C:=C) fun j hd=>h j (by
   unfold dstOf at hd
   rw [nthO_eq] at hd
   cases hl:l[j]? with
   | none=>rw [hl] at hd;simp at hd
   | some o=>exact (List.getElem?_eq_some_iff.1 hl).1)
  rw [getV_eq,getV_eq,List.getD_eq_getElem?_getD,List.getD_eq_getElem?_getD,List.getElem?_eq_getElem h1,List.getElem?_eq_getElem h2] at this
  simpa using this
theorem vDst_inj:∀ {l:List IOper},vDst (dsts l)=true→∀ {t i j:Nat},dstOf l i=some t→dstOf l j=some t→i=j:=by
 have mem:∀ (l:List IOper) (i t:Nat),dstOf l i=some t→t∈dsts l:=by
  intro l
  induction l with
  | nil=>intro i t h;simp [dstOf,nthO] at h
  | cons o l ih=>
   intro i t h
   cases i with
   | zero=>
    simp [dstOf,nthO] at h
    simp [dsts,h]
   | succ i=>
    have:=ih i t (by simpa [dstOf,nthO] using h)
    unfold dsts
    split
    ·simp [this]
    ·exact this
 intro l
 induction l with
 | nil=>intro _ t i j h;simp [dstOf,nthO] at h
 | cons o l ih=>
  intro hv t i j hi hj
  have hv':vDst (dsts l)=true:=by
   unfold dsts at hv
   split at hv
   ·simp [vDst] at hv;exact hv.2
   ·exact hv
  have hno:∀ k,o.dst=some t→dstOf l k=some t→False:=by
   intro k ho hk
   have hm:=mem l k t hk
   simp [dsts,ho,vDst] at hv
   exact hv.1 hm
  cases i with
  | zero=>
   cases j with
   | zero=>rfl
   | succ j=>
    exact (hno j (by simpa [dstOf,nthO] using hi) (by simpa [dstOf,nthO] using hj)).elim
  | succ i=>
   cases j with
   | zero=>exact (hno i (by simpa [dstOf,nthO] using hj) (by simpa [dstOf,nthO] using hi)).elim
   | succ j=>
    have:=ih hv' (t:=t) (i:=i) (j:=j) (by simpa [dstOf,nthO] using hi) (by simpa [dstOf,nthO] using hj)
    omega
theorem vWr_spec {bf:List Nat} {i:Nat} {r:Bool} {t:Nat}:∀ {l:List IOper} {k:Nat},vWr bf i r t k l=true→∀ m,dstOf l m=some t→(nthN bf i).testBit (k + m)=true∨(r=false∧(k + m=i∨(nthN bf (k + m)).testBit i=true)):=by
 intro l
 induction l with
 | nil=>intro k _ m h;simp [dstOf,nthO] at h
 | cons o l ih=>
  intro k hv m hm
  simp only [vWr,Bool.and_eq_true] at hv
  cases m with
  | zero=>
   have hd:o.dst=some t:=by simpa [dstOf,nthO] using hm
   have:=hv.1
   simp [hd] at this
   simpa using this
  | succ m=>
   have:=ih hv.2 m (by simpa [dstOf,nthO] using hm)
   rwa [show k + 1 + m=k + (m + 1) by omega] at this
theorem vSees_spec {L:List IOper} {bf:List Nat}:∀ {os:List Oper} {l:List IOper} {k:Nat},vSees L bf k os l=true→∀ m o io,os[m]? = some o→l[m]? = some io→∀ t∈seesT o io,∀ j,dstOf L j=some t→
  (nthN bf (k + m)).testBit j=true∨(isR io.op=false∧(j=k + m∨(nthN bf j).testBit (k + m)=true)):=by
 intro os
 induction os with
 | nil=>intro l k _ m o io h;simp at h
 | cons o os ih=>
  intro l k hv m o' io' ho hio t ht j hj
  cases l with
  | nil=>simp at hio
  | cons io ios=>
   simp only [vSees,Bool.and_eq_true,List.all_eq_true] at hv
   cases m with
   | zero=>
    simp at ho hio;subst ho hio
    have:=vWr_spec (hv.1 t ht) j hj
    simpa using this
   | succ m=>
    have:=ih hv.2 m o' io' (by simpa using ho) (by simpa using hio) t ht j hj
    rwa [show k + 1 + m=k + (m + 1) by omega] at this
theorem sub_bits {a b:Nat} (h:subMask a b=true) {j:Nat} (hj:a.testBit j=true):b.testBit j=true:=by
 have h1:a &&& b=a:=by simpa [subMask] using h
 have h2:(a &&& b).testBit j=true:=by rw [h1];exact hj
 rw [Nat.testBit_and] at h2
 simp at h2;exact h2.2
theorem bit_or {d i j:Nat}:(d ||| 2 ^ i).testBit j=true↔d.testBit j=true∨j=i:=by
 rw [Nat.testBit_or,Nat.testBit_two_pow,Bool.or_eq_true,decide_eq_true_eq]
 constructor
 ·rintro (h | h)
  ·exact .inl h
  ·exact .inr h.symm
 ·rintro (h | h)
  ·exact .inl h
  ·exact .inr h.symm
theorem one_bits (look:Nat→Nat) (o:Oper) (j:Nat):(CheckFast.one look o).testBit j=true↔∃ e∈o.after,Region.binds .any e=true∧(j=e.on∨(look e.on).testBit j=true):=by
 unfold CheckFast.one
 rw [← Array.foldl_toList]
 have h:∀ (es:List Edge) (s:Nat),(es.foldl (fun s e=>if Region.binds .any e then s ||| 2 ^ e.on ||| look e.on else s) s).testBit j=true↔s.testBit j=true∨∃ e∈es,Region.binds .any e=true∧(j=e.on∨(look e.on).testBit j=true):=by
  intro es
  induction es with
  | nil=>intro s;simp
  | cons e es ih=>
   intro s
   rw [List.foldl_cons,ih]
   by_cases hb:Region.binds .any e=true
   ·simp only [hb,if_true,Nat.testBit_or,Nat.testBit_two_pow,Bool.or_eq_true,decide_eq_true_eq,List.mem_cons,exists_eq_or_imp,true_and]
    constructor
    ·rintro ((h | h) | h)
     ·rcases h with h | h
      ·exact .inl h
      ·exact .inr (.inl (.inl h.symm))
     ·exact .inr (.inl (.inr h))
     ·exact .inr (.inr h)
    ·rintro (h | (h | h) | h)
     ·exact .inl (.inl (.inl h))
     ·exact .inl (.inl (.inr h.symm))
     ·exact .inl (.inr h)
     ·exact .inr h
   ·simp [hb]
 rw [h]
 simp
theorem before_bits (ops:Array Oper) {i:Nat} {o:Oper} (ho:ops[i]? = some o) :
  (∀ e∈o.after,Region.binds .any e=true→(nthN (Region.before ops).toList i).testBit e.on=true)∧
  (∀ j,(nthN (Region.before ops).toList i).testBit j=true→∃ e∈o.after,Region.binds .any e=true∧(j=e.on∨(nthN (Region.before ops).toList e.on).testBit j=true)):=by
 have h:∀ (os:List Oper) (A:Array Nat) (m:Nat) (o:Oper),os[m]? = some o→
   ∃ A1:Array Nat,A1.size=A.size + m∧(∀ k,k < A1.size→(os.foldl (fun acc o=>acc.push (CheckFast.one (fun i=>acc.getD i 0) o)) A).getD k 0=A1.getD k 0)∧(os.foldl (fun acc o=>acc.push (CheckFast.one (fun i=>acc.getD i 0) o)) A).getD (A.size + m) 0=CheckFast.one (fun i=>A1.getD i 0) o:=by
  intro os
  induction os with
  | nil=>intro A m o h;simp at h
  | cons o os ih=>
   intro A m o' h
   have keep:∀ (os:List Oper) (A:Array Nat) (k:Nat),k < A.size→(os.foldl (fun acc o=>acc.push (CheckFast.one (fun i=>acc.getD i 0) o)) A).getD k 0=A.getD k 0:=by
    intro os
    induction os with
    | nil=>intro A k _;simp
    | cons o os ih=>
     intro A k hk
     rw [List.foldl_cons,ih _ k (by simp;omega)]
     simp [Array.getElem?_push,Nat.ne_of_lt hk]
   cases m with
   | zero=>
    simp at h;subst h
    refine ⟨A,by simp,?_,?_⟩
    ·intro k hk
     rw [List.foldl_cons,keep _ _ k (by simp;omega)]
     simp [Array.getElem?_push,Nat.ne_of_lt hk]
    ·rw [List.foldl_cons,keep _ _ _ (by simp)]
     simp
   | succ m=>
    obtain ⟨A1,h1,h2,h3⟩:=ih (A.push (CheckFast.one (fun i=>A.getD i 0) o)) m o' (by simpa using h)
    refine ⟨A1,by rw [h1];simp;omega,h2,?_⟩
    rw [List.foldl_cons,← h3]
    simp;congr 2;omega
 have hb:Region.before ops=ops.toList.foldl (fun acc o=>acc.push (CheckFast.one (fun i=>acc.getD i 0) o)) #[]:=by
  unfold Region.before;rw [← Array.foldl_toList];rfl
 obtain ⟨A1,h1,h2,h3⟩:=h ops.toList #[] i o (by simpa using ho)
 rw [← hb] at h2 h3
 simp only [Array.size_empty,Nat.zero_add] at h1 h3
 have hn:∀ k,nthN (Region.before ops).toList k=(Region.before ops).getD k 0:=fun k=>by
  rw [nthN_eq,List.getD_eq_getElem?_getD,Array.getD_eq_getD_getElem?];simp
 have hi:nthN (Region.before ops).toList i=CheckFast.one (fun k=>A1.getD k 0) o:=by rw [hn,h3]
 constructor
 ·intro e he hbd
  rw [hi,one_bits]
  exact ⟨e,he,hbd,.inl rfl⟩
 ·intro j hj
  rw [hi,one_bits] at hj
  obtain ⟨e,he,hbd,h4⟩:=hj
  refine ⟨e,he,hbd,?_⟩
  rcases h4 with h4 | h4
  ·exact .inl h4
  ·right
   by_cases hlt:e.on < A1.size
   ·rw [hn,h2 _ hlt];exact h4
   ·simp [Array.getD,hlt] at h4
end Go.Proofs.YtnpoloachkcadaaGreatDoor.Ai
namespace Go.Proofs.YtnpoloachkcadaaGreatDoor.Ai
open Go
set_option linter.unusedSimpArgs false
section
variable {P:Program} {ng:Nat} {ts:List TypeId} {N0:Bs} {K:Ks} {μ:Nat→Loc} {σ σ':AW} {w w':World} {cs:List Frame}
theorem stX_oper {F:Frame} {ops:Array Oper} {i:Nat} {rest:List Nat} {k:List Item} {o:Oper} (hm:F.mode = .run) (ht:F.todo = .inRegion ops (i::rest)::k) (ho:ops[i]? = some o)
  (hw:Region.wanted o (yielded ops F.tmps)=true) (hnd:∀ c,o.op ≠ .defer c) :
  stepG P true {frame:=F,callers:=cs,status:=.running,dying:=none } w=stepG.apply P true F cs none (execOp F.eval o) w:=by
 obtain ⟨fn,tmps,todo,defers,mode,kind,ro⟩:=F
 simp only at hm ht hw
 subst hm ht
 have h1:stepG P true {frame:={fn,tmps,todo:=.inRegion ops (i::rest)::k,defers,mode:=.run,kind,roundOf:=ro },callers:=cs,status:=.running,dying:=none } w =
   stepG.oper P true {fn,tmps,todo:=.inRegion ops (i::rest)::k,defers,mode:=.run,kind,roundOf:=ro } cs none w:=by
  simp [stepG,stepG.exec,ho,hw]
 rw [h1]
 unfold stepG.oper
 have h2:({fn,tmps,todo:=.inRegion ops (i::rest)::k,defers,mode:=.run,kind,roundOf:=ro }:Frame).oper? = some o:=by simp [Frame.oper?,ho]
 rw [h2]
 simp only
 split
 ·rename_i hop;exact absurd hop (hnd _)
 ·rfl
section
variable {F:Frame} {ops:Array Oper} {i:Nat} {rest:List Nat} {k:List Item} {o:Oper} (hm:F.mode = .run) (ht:F.todo = .inRegion ops (i::rest)::k) (ho:ops[i]? = some o)
  (hw:Region.wanted o (yielded ops F.tmps)=true) (hnd:∀ c,o.op ≠ .defer c)
include hm ht ho hw hnd
theorem stX_value {v:Value} (hr:(execOp F.eval o).run P w = .ok (.value v) w'):step P (lone F cs w) = .next (lone (F.finish v) cs w'):=
 step_lone_go (by rw [stX_oper hm ht ho hw hnd];simp [stepG.apply,hr])
theorem stX_unit (hr:(execOp F.eval o).run P w = .ok .skip w'):step P (lone F cs w) = .next (lone (F.finish undef) cs w'):=
 step_lone_go (by rw [stX_oper hm ht ho hw hnd];simp [stepG.apply,hr])
theorem stX_enter {f:FuncId} {args:Array Value} (hr:(execOp F.eval o).run P w = .ok (.enter f args) w'):step P (lone F cs w) = .next (lone (Frame.enter P f args .normal) (F::cs) w'):=
 step_lone_go (by rw [stX_oper hm ht ho hw hnd];simp [stepG.apply,hr,ht])
theorem stX_round {l f:Nat} {tm:Array Value} {as bo:Code} (hr:(execOp F.eval o).run P w = .ok (.round l f tm as bo) w'):step P (lone F cs w) = .next (lone (Frame.round l f tm as bo .normal) (F::cs) w'):=
 step_lone_go (by rw [stX_oper hm ht ho hw hnd];simp [stepG.apply,hr])
end
theorem stX_unwanted {F:Frame} {ops:Array Oper} {i:Nat} {rest:List Nat} {k:List Item} {o:Oper} (hm:F.mode = .run) (ht:F.todo = .inRegion ops (i::rest)::k) (ho:ops[i]? = some o)
  (hw:Region.wanted o (yielded ops F.tmps)=false):step P (lone F cs w) = .next (lone (F.finish undef) cs w):=
 step_lone_go (by
  obtain ⟨fn,tmps,todo,defers,mode,kind,ro⟩:=F
  simp only at hm ht hw
  subst hm ht
  simp [stepG,stepG.exec,ho,hw])
theorem cOper_op {ops:Array Oper} {o:Oper} {io:IOper} (hc:cOper P ng ts ops o=some io):io.op = .bad∨(okOp ng o.op=true∧cOp P ts o.op=some io.op):=by
 unfold cOper at hc
 split at hc
 ·simp at hc;subst hc
  simp only
  split
  ·rename_i hok
   cases hq:cOp P ts o.op with
   | none=>exact .inl rfl
   | some q=>exact .inr ⟨hok,rfl⟩
  ·exact .inl rfl
 ·simp at hc
theorem execE_sound (hK:KSound P ng ts N0 K) (h:Rep P ng ts N0 μ σ w) {e:List Value} (he:ltL σ.next e=true) {ops:Array Oper} {i:Nat} {rest:List Nat} {k:List Item} {o:Oper} {q:EOp} (ho:ops[i]? = some o)
  (hcop:cOp P ts o.op=some (.e q)) (hok:okOp ng o.op=true) {v:Value} (hv:runE K e σ q=some (.ret v,σ')) {F:Frame} (hm:F.mode = .run) (ht:F.todo = .inRegion ops (i::rest)::k)
  (hw:Region.wanted o (yielded ops F.tmps)=true) (hρ:execOp F.eval o=execOp (evc μ e) o) :
  ∃ μ' w',Rep P ng ts N0 μ' σ' w'∧Goes μ σ w μ' σ' w'∧lt σ'.next v=true∧Steps P (lone F cs w) (lone (F.finish (conc μ' v)) cs w'):=by
 have hnd:=cOp_nodefer hcop
 cases hcall:isCallE q with
 | false=>
  obtain ⟨μ',w',nx,hr,hg,hl,hrun,hnx⟩:=evE_sound h he hcop hcall hok hv
  rw [← hρ] at hrun
  refine ⟨μ',w',hr,hg,hl,.one ?_⟩
  rcases hnx with rfl | ⟨rfl,rfl⟩
  ·exact stX_value hm ht ho hw hnd hrun
  ·rw [conc_undef];exact stX_unit hm ht ho hw hnd hrun
 | true=>
  have main:∀ {s:Sem Next},execOp (evc μ e) o=s→Goes1 P ng ts N0 σ v σ' μ w s→∃ μ' w',Rep P ng ts N0 μ' σ' w'∧Goes μ σ w μ' σ' w'∧lt σ'.next v=true∧
    Steps P (lone F cs w) (lone (F.finish (conc μ' v)) cs w'):=by
   intro s hs hg1
   cases hg1 with
   | enter f args hr hok=>
    obtain ⟨μ',w',h1,h2,h3,h4⟩:=hok F cs
    exact ⟨μ',w',h1,h2,h3,.head (stX_enter hm ht ho hw hnd (by rw [hρ,hs];exact hr)) h4⟩
   | round l f tm as bo hr hok=>
    obtain ⟨μ',w',h1,h2,h3,h4⟩:=hok F cs
    exact ⟨μ',w',h1,h2,h3,.head (stX_round hm ht ho hw hnd (by rw [hρ,hs];exact hr)) h4⟩
  have hshape:∃ c,o.op = .call c∧((∃ f,c.callee = .value (.func f)∧q = .call f (c.args.toList.map cOpd))∨(∃ x,c.callee = .value x∧(∀ f,x ≠ .func f)∧q = .callv (cOpd x) (c.args.toList.map cOpd))∨(∃ x name,c.callee = .invoke x name∧q = .invoke (cMethods P name ts) (cOpd x) (c.args.toList.map cOpd))):=by
   have hne:q ≠ .panic (.t 0):=by intro hq;subst hq;simp [runE] at hv
   have hnp:∀ x,q ≠ .panic x:=by intro x hq;subst hq;simp [runE] at hv
   generalize hop:o.op=op at hcop hok
   cases op with
   | call c=>
    refine ⟨c,rfl,?_⟩
    obtain ⟨callee,args,ats⟩:=c
    simp only [cOp] at hcop
    cases callee with
    | builtin b=>
     exfalso
     simp only at hcop
     unfold cBuiltin at hcop
     (repeat' split at hcop) <;> simp at hcop <;> subst hcop <;> simp [isCallE] at hcall
     exact hnp _ rfl
    | value f=>
     cases f with
     | func f=>
      left
      simp only at hcop
      (repeat' split at hcop) <;> simp at hcop
      exact ⟨f,rfl,hcop.symm⟩
     | _=>right;left;simp at hcop;exact ⟨_,rfl,by simp,hcop.symm⟩
    | invoke x name=>right;right;simp at hcop;exact ⟨x,name,rfl,hcop.symm⟩
   | panic x=>simp [cOp] at hcop;exact absurd hcop.symm (hnp _)
   | store t a x=>exfalso;simp only [cOp] at hcop;split at hcop <;> simp at hcop;subst hcop;simp [isCallE] at hcall
   | build t parts=>
    exfalso
    simp only [cOp] at hcop
    split at hcop
    ·simp only [Option.bind_eq_bind,Option.bind_eq_some_iff] at hcop
     obtain ⟨_,_,_,_,hcop⟩:=hcop
     split at hcop <;> simp at hcop
    ·simp only [Option.bind_eq_bind,Option.bind_eq_some_iff] at hcop
     obtain ⟨_,_,_,_,hcop⟩:=hcop
     split at hcop <;> simp at hcop
    ·simp at hcop
   | buildSlice t len parts=>
    exfalso
    simp only [cOp] at hcop
    split at hcop
    ·simp only [Option.bind_eq_bind,Option.bind_eq_some_iff] at hcop
     obtain ⟨z,_,hcop⟩:=hcop
     split at hcop
     ·simp at hcop
     ·simp only [Option.bind_eq_some_iff] at hcop
      obtain ⟨_,_,hcop⟩:=hcop
      simp at hcop
    ·simp at hcop
   | binOp op t x y u=>
    exfalso
    simp only [cOp] at hcop
    split at hcop
    ·simp at hcop
    ·simp at hcop
    ·split at hcop
     ·unfold cEqOp at hcop;(repeat' split at hcop) <;> simp at hcop
     ·unfold cEqOp at hcop;(repeat' split at hcop) <;> simp at hcop
     ·simp at hcop
    ·simp at hcop
   | field t x f=>
    exfalso
    simp only [cOp] at hcop
    split at hcop
    ·split at hcop
     ·simp only [Option.map_eq_some_iff] at hcop
      obtain ⟨_,_,hcop⟩:=hcop
      simp at hcop
     ·simp at hcop
    ·simp at hcop
   | typeAssert x xt t ok=>
    exfalso
    simp only [cOp] at hcop
    split at hcop
    ·simp at hcop
    ·split at hcop <;> simp at hcop
    ·simp at hcop
   | makeMap t r=>exfalso;cases r <;> simp [cOp] at hcop
   | convert src dst x=>
    exfalso
    simp only [cOp] at hcop
    (repeat' split at hcop) <;> simp at hcop
    subst hcop
    simp [isCallE] at hcall
   | mapUpdate t m k x=>
    exfalso
    simp only [cOp] at hcop
    split at hcop
    ·simp only [Option.map_eq_some_iff,IOp.e.injEq] at hcop
     obtain ⟨_,_,rfl⟩:=hcop
     simp [isCallE] at hcall
    ·simp at hcop
   | insert t m k x=>
    exfalso
    simp only [cOp] at hcop
    split at hcop
    ·simp only [Option.map_eq_some_iff,IOp.e.injEq] at hcop
     obtain ⟨_,_,rfl⟩:=hcop
     simp [isCallE] at hcall
    ·simp at hcop
   | mapEntry t m k=>
    exfalso
    simp only [cOp] at hcop
    split at hcop
    ·split at hcop
     ·simp at hcop;subst hcop;simp [isCallE] at hcall
     ·simp at hcop
    ·simp at hcop
   | entryStore t m s x=>exfalso;simp [cOp] at hcop;subst hcop;simp [isCallE] at hcall
   | _=>exfalso;simp only [cOp] at hcop;(repeat' split at hcop) <;> simp at hcop
  obtain ⟨c,hop,hcs⟩:=hshape
  have h':=ok_arr hok rfl
  rw [hop] at h'
  have h'':∀ x∈c.args.toList,okOpd ng x=true:=fun x hx=>h' x (by simp [Op.operands,Call.operands];exact .inr (by simpa using hx))
  have hmap:=opers_map (e:=e) h.glob h''
  have hlta:=evs_lt h.ngn he c.args.toList h''
  rcases hcs with ⟨f,hcal,rfl⟩ | ⟨x,hcal,hxf,rfl⟩ | ⟨x,name,hcal,rfl⟩
  ·simp only [runE] at hv
   refine main (s:=do let d ← Deferred.ofValue (conc μ (.func (.func f) #[] #[])) ⟨concL μ (evs e (c.args.toList.map cOpd))⟩;invoke d.target d.args) ?_ (callV_sound hK h (by simp [lt,ltFn,ltL]) hlta (by simpa [callV] using hv))
   simp only [execOp,hop,resolve,hcal,hmap,evc,bind_assoc]
   simp [conc,cFn,concL]
  ·simp only [runE] at hv
   have hxok:okOpd ng x=true:=h' x (by simp [Op.operands,Call.operands,hcal])
   have hx:=opV (e:=e) h.glob h.ngn he hxok
   refine main (s:=do let d ← Deferred.ofValue (conc μ ((cOpd x).ev e)) ⟨concL μ (evs e (c.args.toList.map cOpd))⟩;invoke d.target d.args) ?_ (callV_sound hK h hx.l hlta hv)
   simp only [execOp,hop,resolve,hcal,hmap,hx.c]
  ·simp only [runE] at hv
   have hxok:okOpd ng x=true:=h' x (by simp [Op.operands,Call.operands,hcal])
   have hx:=opV (e:=e) h.glob h.ngn he hxok
   obtain ⟨_,hcx,hlx⟩:=hx
   generalize (cOpd x).ev e=X at hv hcx hlx
   split at hv
   ·rename_i t V
    split at hv
    ·rename_i f hm
     refine main (s:=invoke (.fn (.method name) #[]) (#[conc μ (.iface t V)]++⟨concL μ (evs e (c.args.toList.map cOpd))⟩)) ?_ (invoke_sound hK h hlx hlta hm hv)
     simp only [execOp,hop,resolve,hcal,hmap,hcx]
     rfl
    ·simp at hv
   ·simp at hv
end
end Go.Proofs.YtnpoloachkcadaaGreatDoor.Ai
namespace Go.Proofs.YtnpoloachkcadaaGreatDoor.Ai
open Go
set_option linter.unusedSimpArgs false
set_option linter.unusedSectionVars false
def Clo (bf:List Nat) (S:List Nat):Prop:=∀ i∈S,∀ j,(nthN bf i).testBit j=true→j∈S
structure Pos (bf:List Nat) (i:Nat) (C:List Nat):Prop where
 clo:Clo bf C
 ahead:∀ j,(nthN bf i).testBit j=true→j∈C
 out:i∉C
theorem Pos.next {bf:List Nat} {i:Nat} {C:List Nat} (h:Pos bf i C):Clo bf (i::C):=by
 intro k hk j hj
 rcases List.mem_cons.1 hk with rfl | hk
 ·exact List.mem_cons_of_mem _ (h.ahead j hj)
 ·exact List.mem_cons_of_mem _ (h.clo k hk j hj)
abbrev NEnt:=Nat × Nat × Blk
def AW.add (σ:AW) (b:Blk):AW:={next:=σ.next + 1,heap:=σ.heap.set σ.next b }
section
variable (l:List IOper) (bf:List Nat) (e0:List Value) (K:Ks) (fin:DStage)
def XS (v:Nat→Value) (β:AW) (prev nx:Option Nat):List Nat→List Nat→AW→List NEnt→AW→Prop
 | [],_,σ,A,σ'=>A=[]∧σ'=σ
 | i::xs,C,σ,A,σ'=>∃ io,nthO l i=some io∧ltL σ.next (tm l v e0 C)=true∧Pos bf i C∧isE io.op=false∧
   (isR io.op=true→∀ p,prev=some p→(nthN bf i).testBit p=true)∧(isN io.op=true→∀ e,nx=some e→(nthN bf e).testBit i=true)∧
   ((io.wanted (tm l v e0 C)=false∧v i=undef∧XS v β prev nx xs (i::C) σ A σ')∨
    (io.wanted (tm l v e0 C)=true∧∃ q,io.op = .p q∧evP (tm l v e0 C) q=some (v i)∧XS v β prev nx xs (i::C) σ A σ')∨
    (io.wanted (tm l v e0 C)=true∧∃ q,io.op = .r q∧evR (tm l v e0 C) β q=some (v i)∧XS v β prev nx xs (i::C) σ A σ')∨
    (io.wanted (tm l v e0 C)=true∧∃ q b f A',io.op = .n q∧A=(i,σ.next,b)::A'∧evN (tm l v e0 C) q=some (b,f)∧v i=f σ.next∧σ.next < most σ.next∧XS v β prev nx xs (i::C) (σ.add b) A' σ'))
structure CK (v:Nat→Value) (β:AW) (prev:Option Nat) (chk:List Nat) (C:List Nat):Prop where
 lt:ltL β.next (tm l v e0 C)=true
 run:chkR l (tm l v e0 C) β chk=true
 clo:Clo bf C
 all:∀ i io,nthO l i=some io→i∈C→isR io.op=true→i∈chk∨∃ p,prev=some p∧(nthN bf p).testBit i=true
def DS (v:Nat→Value) (t':List Value) (σ':AW):List DStage→Option Nat→List Nat→AW→List NEnt→Prop
 | [],prev,C,β,L=>CK l bf e0 v β prev fin.chk C∧XS l bf e0 v β prev none fin.xs C β L σ'∧t'=tm l v e0 (fin.xs.reverse++C)∧(∀ j,j < l.length→j∈fin.xs.reverse++C)∧ltL σ'.next t'=true
 | s::st,prev,C,β,L=>CK l bf e0 v β prev s.chk C∧∃ γ β' A L' io,L=A++L'∧XS l bf e0 v β prev (some s.e) s.xs C β A γ∧nthO l s.e=some io∧isE io.op=true∧
   ltL γ.next (tm l v e0 (s.xs.reverse++C))=true∧Pos bf s.e (s.xs.reverse++C)∧(∀ p,prev=some p→(nthN bf s.e).testBit p=true)∧
   ((io.wanted (tm l v e0 (s.xs.reverse++C))=false∧v s.e=undef∧β'=γ)∨
    (io.wanted (tm l v e0 (s.xs.reverse++C))=true∧∃ q,io.op = .e q∧runE K (tm l v e0 (s.xs.reverse++C)) γ q=some (.ret (v s.e),β')))∧γ.next≤β'.next∧
   DS v t' σ' st (some s.e) (s.e::(s.xs.reverse++C)) β' L'
end
section
variable {P:Program} {ng:Nat} {ts:List TypeId} {N0:Bs} {K:Ks} {ops:Array Oper} {l:List IOper} {bf:List Nat} {e0:List Value} {fin:DStage}
theorem cOps_get:∀ {os:List Oper} {l:List IOper},cOps P ng ts ops os=some l→∀ i io,nthO l i=some io→∃ o,os[i]? = some o∧cOper P ng ts ops o=some io
 | [],l,h,i,io,hi=>by simp [cOps] at h;subst h;simp [nthO] at hi
 | o::os,l,h,i,io,hi=>by
  simp only [cOps] at h
  split at h
  ·rename_i io' ios h1 h2
   simp at h;subst h
   cases i with
   | zero=>simp [nthO] at hi;subst hi;exact ⟨o,by simp,h1⟩
   | succ i=>obtain ⟨o',h3,h4⟩:=cOps_get h2 i io (by simpa [nthO] using hi);exact ⟨o',by simpa using h3,h4⟩
  ·simp at h
theorem cOps_length:∀ {os:List Oper} {l:List IOper},cOps P ng ts ops os=some l→l.length=os.length
 | [],l,h=>by simp [cOps] at h;subst h;rfl
 | o::os,l,h=>by
  simp only [cOps] at h
  split at h
  ·rename_i io' ios h1 h2
   simp at h;subst h
   simp [cOps_length h2]
  ·simp at h
theorem Rep.raise {μ:Nat→Loc} {σ:AW} {w:World} (h:Rep P ng ts N0 μ σ w) {n:Nat} (hn:σ.next≤n):Rep P ng ts N0 μ {σ with next:=n } w:=
 ⟨h.glob,Nat.le_trans h.ngn hn,fun i b hi=>⟨Nat.lt_of_lt_of_le (h.blk i b hi).1 hn,(h.blk i b hi).2.1,(h.blk i b hi).2.2.mono (fun _ _=>rfl) (h.blk i b hi).1 hn rfl⟩,h.own,h.ro,h.dis,h.al,h.big⟩
theorem evR_raise (e:List Value) (σ:AW) (n:Nat) (q:ROp):evR e {σ with next:=n } q=evR e σ q:=by
 cases q <;> rfl
def Masks (d:Nat) (C:List Nat):Prop:=∀ j,d.testBit j=true↔j∈C
theorem Masks.add {d i:Nat} {C:List Nat} (h:Masks d C):Masks (d ||| 2 ^ i) (i::C):=by
 intro j
 rw [bit_or,h j,List.mem_cons]
 exact Or.comm
theorem runX_canon {μ:Nat→Loc} {β:AW} {w:World} (hl:cOps P ng ts ops ops.toList=some l) (hβ:Rep P ng ts N0 μ β w) {prev nx:Option Nat} {Rest:(Nat→Value)→Prop} :
  ∀ (xs:List Nat) {C:List Nat} {d d':Nat} {σ σ':AW} {e':List Value} {v0:Nat→Value} {μ1:Nat→Loc} {w1:World},runX l β xs (tm l v0 e0 C) σ=some (e',σ')→
   vX l bf prev nx xs d=some d'→Masks d C→Clo bf C→Rep P ng ts N0 μ1 σ w1→β.next≤σ.next→ltL σ.next (tm l v0 e0 C)=true→
   (∀ v1 μ2 w2,(∀ i∈C,v1 i=v0 i)→e'=tm l v1 e0 (xs.reverse++C)→Masks d' (xs.reverse++C)→Clo bf (xs.reverse++C)→Rep P ng ts N0 μ2 σ' w2→σ.next≤σ'.next→ltL σ'.next e'=true→∃ v,(∀ i∈xs.reverse++C,v i=v1 i)∧Rest v)→
   ∃ v A,(∀ i∈C,v i=v0 i)∧XS l bf e0 v β prev nx xs C σ A σ'∧Rest v:=by
 intro xs
 induction xs with
 | nil=>
  intro C d d' σ σ' e' v0 μ1 w1 hv hx hm hcl h1 hn hlt k
  simp [runX] at hv
  obtain ⟨rfl,rfl⟩:=hv
  simp [vX] at hx;subst hx
  obtain ⟨v,h2,h3⟩:=k v0 μ1 w1 (fun _ _=>rfl) rfl hm hcl h1 (Nat.le_refl _) hlt
  exact ⟨v,[],by simpa using h2,⟨rfl,rfl⟩,h3⟩
 | cons i xs ih=>
  intro C d d' σ σ' e' v0 μ1 w1 hv hx hm hcl h1 hn hlt k
  simp only [runX] at hv
  simp only [vX] at hx
  cases hio:nthO l i with
  | none=>rw [hio] at hv;simp at hv
  | some io=>
   rw [hio] at hv hx
   simp only at hv hx
   split at hx
   ·rename_i hok
    simp only [vOne,Bool.and_eq_true] at hok
    obtain ⟨⟨⟨⟨hd,hsub⟩,hE⟩,hR⟩,hN⟩:=hok
    have hpos:Pos bf i C:=⟨hcl,fun j hj=>(hm j).1 (sub_bits hsub hj),fun hi=>by rw [(hm i).2 hi] at hd;simp at hd⟩
    have hE':isE io.op=false:=by simpa using hE
    have hR':isR io.op=true→∀ p,prev=some p→(nthN bf i).testBit p=true:=by
     intro hr p hp;rw [hr,hp] at hR;simpa using hR
    have hN':isN io.op=true→∀ e,nx=some e→(nthN bf e).testBit i=true:=by
     intro hr p hp;rw [hr,hp] at hN;simpa using hN
    obtain ⟨o,ho,hco⟩:=cOps_get hl i io hio
    have hdst:dstOf l i=io.dst:=by simp [dstOf,hio]
    have step:∀ (x:Value) (σ1:AW) (μ1':Nat→Loc) (w1':World),runX l β xs (put (tm l v0 e0 C) io.dst x) σ1=some (e',σ')→Rep P ng ts N0 μ1' σ1 w1'→σ.next≤σ1.next→lt σ1.next x=true→
      ∃ v A,(∀ i∈C,v i=v0 i)∧v i=x∧XS l bf e0 v β prev nx xs (i::C) σ1 A σ'∧Rest v:=by
     intro x σ1 μ1' w1' hv hrep hnx hxl
     have hcg:tm l (fun j=>if j=i then x else v0 j) e0 C=tm l v0 e0 C:=tm_congr fun j hj=>by
      have:j ≠ i:=fun h=>hpos.out (h ▸ hj)
      simp [this]
     have he:tm l (fun j=>if j=i then x else v0 j) e0 (i::C)=put (tm l v0 e0 C) io.dst x:=by
      rw [tm,hcg,hdst];simp
     have hlt1:ltL σ1.next (tm l (fun j=>if j=i then x else v0 j) e0 (i::C))=true:=by
      rw [he]
      cases io.dst with
      | none=>exact ltL_mono hnx _ hlt
      | some d=>exact ltL_setV (ltL_mono hnx _ hlt) d hxl
     obtain ⟨v,A,q1,q2,q3⟩:=ih (C:=i::C) (v0:=fun j=>if j=i then x else v0 j) (by rw [he];exact hv) hx hm.add hpos.next hrep (Nat.le_trans hn hnx) hlt1 (by
      intro v1 μ2 w2 r1 r2 r3 r4 r5 r6 r7
      have e1:xs.reverse++i::C=(i::xs).reverse++C:=by simp
      rw [e1] at r2 r3 r4 ⊢
      refine k v1 μ2 w2 (fun j hj=>?_) r2 r3 r4 r5 (Nat.le_trans hnx r6) r7
      rw [r1 j (by simp [hj])]
      have:j ≠ i:=fun h=>hpos.out (h ▸ hj)
      simp [this])
     refine ⟨v,A,fun j hj=>?_,?_,q2,q3⟩
     ·rw [q1 j (by simp [hj])]
      have:j ≠ i:=fun h=>hpos.out (h ▸ hj)
      simp [this]
     ·rw [q1 i (by simp)];simp
    split at hv
    ·rename_i hw
     split at hv
     ·rename_i q hq
      split at hv
      ·rename_i x hx1
       rcases cOper_op hco with hbad | ⟨hok,hcop⟩
       ·rw [hq] at hbad;simp at hbad
       rw [hq] at hcop
       have hs:=evP_sound h1.glob h1.ngn hlt hcop hok hx1 w1
       obtain ⟨v,A,q1,q2,q3,q4⟩:=step x σ μ1 w1 hv h1 (Nat.le_refl _) hs.2
       have hc:tm l v e0 C=tm l v0 e0 C:=tm_congr q1
       exact ⟨v,A,q1,⟨io,hio,by rw [hc];exact hlt,hpos,hE',hR',hN',.inr (.inl ⟨by rw [hc];exact hw,q,hq,by rw [hc,q2];exact hx1,q3⟩)⟩,q4⟩
      ·simp at hv
     ·rename_i q hq
      split at hv
      ·rename_i x hx1
       rcases cOper_op hco with hbad | ⟨hok,hcop⟩
       ·rw [hq] at hbad;simp at hbad
       rw [hq] at hcop
       have hs:=evR_sound (hβ.raise hn) (e:=tm l v0 e0 C) hlt hcop hok (by rw [evR_raise];exact hx1)
       obtain ⟨v,A,q1,q2,q3,q4⟩:=step x σ μ1 w1 hv h1 (Nat.le_refl _) hs.2
       have hc:tm l v e0 C=tm l v0 e0 C:=tm_congr q1
       exact ⟨v,A,q1,⟨io,hio,by rw [hc];exact hlt,hpos,hE',hR',hN',.inr (.inr (.inl ⟨by rw [hc];exact hw,q,hq,by rw [hc,q2];exact hx1,q3⟩))⟩,q4⟩
      ·simp at hv
     ·rename_i q hq
      split at hv
      ·rename_i b f hbf
       split at hv
       ·rename_i hm'
        rcases cOper_op hco with hbad | ⟨hok,hcop⟩
        ·rw [hq] at hbad;simp at hbad
        rw [hq] at hcop
        obtain ⟨ob,hrun,hro,hal,hb,hlt'⟩:=evN_sound h1.glob h1.ngn hlt hcop hok hbf w1
        have hp:σ.push b=some (σ.next,σ.add b):=by unfold AW.push;rw [if_pos hm'];rfl
        obtain ⟨_,hnx,hr2,hg2⟩:=h1.push hp (w':={w1 with heap:=w1.heap.push ob }) (ob:=ob) (ex:=0) hro (fun c hc j hj=>by rw [hal c hc] at hj;simp at hj) rfl rfl rfl rfl hb
        obtain ⟨v,A,q1,q2,q3,q4⟩:=step (f σ.next) (σ.add b) _ _ hv hr2 (by rw [hnx];omega) (by rw [hnx];exact hlt')
        have hc:tm l v e0 C=tm l v0 e0 C:=tm_congr q1
        exact ⟨v,(i,σ.next,b)::A,q1,⟨io,hio,by rw [hc];exact hlt,hpos,hE',hR',hN',.inr (.inr (.inr ⟨by rw [hc];exact hw,q,b,f,A,hq,rfl,by rw [hc];exact hbf,q2,hm',q3⟩))⟩,q4⟩
       ·simp at hv
      ·simp at hv
     ·simp at hv
    ·rename_i hw
     have hw':io.wanted (tm l v0 e0 C)=false:=by simpa using hw
     obtain ⟨v,A,q1,q2,q3,q4⟩:=step undef σ μ1 w1 hv h1 (Nat.le_refl _) (lt_undef _)
     have hc:tm l v e0 C=tm l v0 e0 C:=tm_congr q1
     exact ⟨v,A,q1,⟨io,hio,by rw [hc];exact hlt,hpos,hE',hR',hN',.inl ⟨by rw [hc];exact hw',q2,q3⟩⟩,q4⟩
   ·simp at hx
theorem vChk_spec {prev:Option Nat} {chk:List Nat} {d:Nat}:∀ {os:List IOper} {k:Nat},vChk l bf prev chk d k os=true→∀ m io,nthO os m=some io→d.testBit (k + m)=true→isR io.op=true→
  k + m∈chk∨∃ p,prev=some p∧(nthN bf p).testBit (k + m)=true:=by
 intro os
 induction os with
 | nil=>intro k _ m io h;simp [nthO] at h
 | cons o os ih=>
  intro k hv m io hm hd hr
  simp only [vChk,Bool.and_eq_true] at hv
  cases m with
  | zero=>
   simp [nthO] at hm;subst hm
   have h1:=hv.1
   simp only [Nat.add_zero] at hd
   rw [hd,hr] at h1
   simp at h1
   rcases h1 with h1 | h1
   ·exact .inl h1
   ·right
    cases prev with
    | none=>simp at h1
    | some p=>exact ⟨p,rfl,h1⟩
  | succ m=>
   have:=ih hv.2 m io (by simpa [nthO] using hm) (by rwa [show k + 1 + m=k + (m + 1) by omega]) hr
   rwa [show k + 1 + m=k + (m + 1) by omega] at this
theorem runDraw_canon (hl:cOps P ng ts ops ops.toList=some l) (hK:KSound P ng ts N0 K) {t':List Value} {σ':AW} :
  ∀ (st:List DStage) {prev:Option Nat} {C:List Nat} {d:Nat} {β:AW} {v0:Nat→Value} {μ:Nat→Loc} {w:World},runDraw K l fin st (tm l v0 e0 C) β=some (t',σ')→
   vSt l bf fin st prev d=true→Masks d C→Clo bf C→Rep P ng ts N0 μ β w→ltL β.next (tm l v0 e0 C)=true→
   ∃ v L,(∀ i∈C,v i=v0 i)∧DS l bf e0 K fin v t' σ' st prev C β L:=by
 intro st
 induction st with
 | nil=>
  intro prev C d β v0 μ w hv hs hm hcl hr hlt
  simp only [runDraw] at hv
  split at hv
  ·rename_i hck
   simp only [vSt,Bool.and_eq_true] at hs
   obtain ⟨hvc,hs⟩:=hs
   split at hs
   ·rename_i d' hx
    obtain ⟨v,A,q1,q2,q3⟩:=runX_canon hl hr (Rest:=fun v=>t'=tm l v e0 (fin.xs.reverse++C)∧(∀ j,j < l.length→j∈fin.xs.reverse++C)∧ltL σ'.next t'=true) fin.xs hv hx hm hcl hr (Nat.le_refl _) hlt (by
     intro v1 μ2 w2 r1 r2 r3 r4 r5 r6 r7
     refine ⟨v1,fun _ _=>rfl,r2,fun j hj=>(r3 j).1 (sub_bits hs ?_),r7⟩
     rw [Nat.testBit_two_pow_sub_one];simpa using hj)
    have hc:tm l v e0 C=tm l v0 e0 C:=tm_congr q1
    exact ⟨v,A,q1,⟨by rw [hc];exact hlt,by rw [hc];exact hck,hcl,fun i io hio hi hR=>by simpa using vChk_spec hvc i io hio (by simpa using (hm i).2 hi) hR⟩,q2,q3.1,q3.2.1,q3.2.2⟩
   ·simp at hs
  ·simp at hv
 | cons s st ih=>
  intro prev C d β v0 μ w hv hs hm hcl hr hlt
  simp only [runDraw] at hv
  split at hv
  ·rename_i hck
   simp only [vSt,Bool.and_eq_true] at hs
   obtain ⟨hvc,hs⟩:=hs
   split at hs
   ·rename_i d' io hx hio
    simp only [Bool.and_eq_true] at hs
    obtain ⟨⟨⟨⟨hd,hsub⟩,hE⟩,hprev⟩,hs⟩:=hs
    have hprev':∀ p,prev=some p→(nthN bf s.e).testBit p=true:=by intro p hp;rw [hp] at hprev;simpa using hprev
    split at hv
    ·rename_i e1 γ hv1
     obtain ⟨v,A,q1,q2,q3⟩:=runX_canon hl hr (nx:=some s.e) (Rest:=fun v=>∃ β' L',ltL γ.next (tm l v e0 (s.xs.reverse++C))=true∧Pos bf s.e (s.xs.reverse++C)∧
       ((io.wanted (tm l v e0 (s.xs.reverse++C))=false∧v s.e=undef∧β'=γ)∨
        (io.wanted (tm l v e0 (s.xs.reverse++C))=true∧∃ q,io.op = .e q∧runE K (tm l v e0 (s.xs.reverse++C)) γ q=some (.ret (v s.e),β')))∧γ.next≤β'.next∧
       DS l bf e0 K fin v t' σ' st (some s.e) (s.e::(s.xs.reverse++C)) β' L') s.xs hv1 hx hm hcl hr (Nat.le_refl _) hlt (by
      intro v1 μ2 w2 r1 r2 r3 r4 r5 r6 r7
      have hpos:Pos bf s.e (s.xs.reverse++C):=⟨r4,fun j hj=>(r3 j).1 (sub_bits hsub hj),fun hi=>by rw [(r3 s.e).2 hi] at hd;simp at hd⟩
      rw [hio] at hv
      simp only at hv
      obtain ⟨o,ho,hco⟩:=cOps_get hl s.e io hio
      have hdst:dstOf l s.e=io.dst:=by simp [dstOf,hio]
      have step:∀ (x:Value) (β':AW) (μ':Nat→Loc) (w':World),runDraw K l fin st (put e1 io.dst x) β'=some (t',σ')→Rep P ng ts N0 μ' β' w'→γ.next≤β'.next→lt β'.next x=true→
        ∃ v L',(∀ i∈s.xs.reverse++C,v i=v1 i)∧v s.e=x∧DS l bf e0 K fin v t' σ' st (some s.e) (s.e::(s.xs.reverse++C)) β' L':=by
       intro x β' μ' w' hv hrep hnx hxl
       have hne:∀ j∈s.xs.reverse++C,j ≠ s.e:=fun j hj h=>hpos.out (h ▸ hj)
       have hcg:tm l (fun j=>if j=s.e then x else v1 j) e0 (s.xs.reverse++C)=tm l v1 e0 (s.xs.reverse++C):=tm_congr fun j hj=>by simp [hne j hj]
       have he:tm l (fun j=>if j=s.e then x else v1 j) e0 (s.e::(s.xs.reverse++C))=put e1 io.dst x:=by
        rw [tm,hcg,hdst,← r2];simp
       obtain ⟨v,L',p1,p2⟩:=ih (C:=s.e::(s.xs.reverse++C)) (v0:=fun j=>if j=s.e then x else v1 j) (by rw [he];exact hv) hs r3.add hpos.next hrep (by
        rw [he]
        cases io.dst with
        | none=>exact ltL_mono hnx _ r7
        | some d=>exact ltL_setV (ltL_mono hnx _ r7) d hxl)
       exact ⟨v,L',fun j hj=>by rw [p1 j (List.mem_cons_of_mem _ hj)];simp [hne j hj],by rw [p1 s.e (by simp)];simp,p2⟩
      split at hv
      ·rename_i hw
       split at hv
       ·rename_i q hq
        split at hv
        ·rename_i x β' hx1
         rcases cOper_op hco with hbad | ⟨hok,hcop⟩
         ·rw [hq] at hbad;simp at hbad
         have hE1:FrOK γ.next {tmps:=e1,dfs:=[] }:=⟨r7,by simp⟩
         obtain ⟨μ',w',h1,h2,h3,_⟩:=runOp_sound hK r5 hE1 (ops:=ops) (i:=s.e) (by simpa using ho) hco hw (v:=x) (σ':=β') (by rw [hq];exact hx1) default [] [] []
         obtain ⟨v,L',p1,p2,p3⟩:=step x β' μ' w' hv h1 h2.next h3
         have hc:tm l v e0 (s.xs.reverse++C)=e1:=by rw [r2];exact tm_congr p1
         exact ⟨v,p1,β',L',by rw [hc];exact r7,hpos,.inr ⟨by rw [hc];exact hw,q,hq,by rw [hc,p2];exact hx1⟩,h2.next,p3⟩
        ·simp at hv
       ·simp at hv
      ·rename_i hw
       obtain ⟨v,L',p1,p2,p3⟩:=step undef γ μ2 w2 hv r5 (Nat.le_refl _) (lt_undef _)
       have hc:tm l v e0 (s.xs.reverse++C)=e1:=by rw [r2];exact tm_congr p1
       exact ⟨v,p1,γ,L',by rw [hc];exact r7,hpos,.inl ⟨by rw [hc];simpa using hw,p2,rfl⟩,Nat.le_refl _,p3⟩)
     obtain ⟨β',L',z1,z2,z3,z4,z5⟩:=q3
     have hc:tm l v e0 C=tm l v0 e0 C:=tm_congr q1
     exact ⟨v,A++L',q1,⟨by rw [hc];exact hlt,by rw [hc];exact hck,hcl,fun i io hio hi hR=>by simpa using vChk_spec hvc i io hio (by simpa using (hm i).2 hi) hR⟩,
      γ,β',A,L',io,rfl,q2,hio,hE,z1,z2,hprev',z3,z4,z5⟩
    ·simp at hv
   ·simp at hs
  ·simp at hv
end
end Go.Proofs.YtnpoloachkcadaaGreatDoor.Ai
namespace Go.Proofs.YtnpoloachkcadaaGreatDoor.Ai
open Go
set_option linter.unusedSimpArgs false
set_option linter.unusedSectionVars false
section
variable {P:Program} {ng:Nat} {ts:List TypeId} {N0:Bs} {K:Ks} {ops:Array Oper} {l:List IOper} {bf:List Nat} {e0:List Value} {fin:DStage} {v:Nat→Value} {β:AW} {prev nx:Option Nat}
def Chain:AW→List NEnt→AW→Prop
 | σ,[],σ'=>σ'=σ
 | σ,a::A,σ'=>a.2.1=σ.next∧σ.next < most σ.next∧Chain (σ.add a.2.2) A σ'
def NF (l:List IOper) (bf:List Nat) (e0:List Value) (v:Nat→Value) (a:NEnt):Prop:=
 ∃ C io q f,nthO l a.1=some io∧Pos bf a.1 C∧io.op = .n q∧io.wanted (tm l v e0 C)=true∧evN (tm l v e0 C) q=some (a.2.2,f)∧v a.1=f a.2.1∧ltL a.2.1 (tm l v e0 C)=true
def OF (l:List IOper) (bf:List Nat) (e0:List Value) (v:Nat→Value) (L:List NEnt) (i:Nat):Prop:=
 ∃ C io n,nthO l i=some io∧Pos bf i C∧ltL n (tm l v e0 C)=true∧
  ((io.wanted (tm l v e0 C)=false∧v i=undef)∨
   (io.wanted (tm l v e0 C)=true∧((∃ q,io.op = .p q∧evP (tm l v e0 C) q=some (v i))∨(∃ q,io.op = .r q)∨(∃ q id b,io.op = .n q∧(i,id,b)∈L)∨isE io.op=true)))
theorem OF.mono {L L':List NEnt} {i:Nat} (h:OF l bf e0 v L i) (hs:∀ a∈L,a∈L'):OF l bf e0 v L' i:=by
 obtain ⟨C,io,n,h1,h2,h3,h4⟩:=h
 refine ⟨C,io,n,h1,h2,h3,?_⟩
 rcases h4 with h4 | ⟨hw,h4⟩
 ·exact .inl h4
 ·refine .inr ⟨hw,?_⟩
  rcases h4 with h4 | h4 | ⟨q,id,b,h5,h6⟩ | h4
  ·exact .inl h4
  ·exact .inr (.inl h4)
  ·exact .inr (.inr (.inl ⟨q,id,b,h5,hs _ h6⟩))
  ·exact .inr (.inr (.inr h4))
structure XF (l:List IOper) (bf:List Nat) (e0:List Value) (v:Nat→Value) (β:AW) (prev nx:Option Nat) (xs C:List Nat) (σ:AW) (A:List NEnt) (σ':AW):Prop where
 chain:Chain σ A σ'
 nf:∀ a∈A,NF l bf e0 v a
 of:∀ i∈xs,OF l bf e0 v A i
 key:∀ a∈A,a.1∈xs∧a.1∉C
 uniq:∀ a∈A,∀ b∈A,a.1=b.1→a=b
 ids:∀ a∈A,σ.next≤a.2.1∧a.2.1 < σ'.next
 nxt:σ.next≤σ'.next
 ne:∀ i∈xs,∀ io,nthO l i=some io→isE io.op=false
 rp:∀ i∈xs,∀ io,nthO l i=some io→isR io.op=true→∀ p,prev=some p→(nthN bf i).testBit p=true
 np:∀ a∈A,∀ e,nx=some e→(nthN bf e).testBit a.1=true
 rd:∀ i∈xs,∀ io,nthO l i=some io→isR io.op=true→∃ C' n,Pos bf i C'∧σ.next≤n∧ltL n (tm l v e0 C')=true∧(io.wanted (tm l v e0 C')=true→∃ q,io.op = .r q∧evR (tm l v e0 C') β q=some (v i))
theorem XS.facts:∀ {xs C:List Nat} {σ σ':AW} {A:List NEnt},XS l bf e0 v β prev nx xs C σ A σ'→XF l bf e0 v β prev nx xs C σ A σ':=by
 intro xs
 induction xs with
 | nil=>
  rintro C σ σ' A ⟨rfl,rfl⟩
  exact ⟨rfl,by simp,by simp,by simp,by simp,by simp,Nat.le_refl _,by simp,by simp,by simp,by simp⟩
 | cons i xs ih=>
  intro C σ σ' A h
  obtain ⟨io,hio,hlt,hpos,hE,hR,hN,h⟩:=h
  have plain:XS l bf e0 v β prev nx xs (i::C) σ A σ'→OF l bf e0 v A i→(isR io.op=true→io.wanted (tm l v e0 C)=true→∃ q,io.op = .r q∧evR (tm l v e0 C) β q=some (v i))→XF l bf e0 v β prev nx (i::xs) C σ A σ':=by
   intro hx hof hrd
   have f:=ih hx
   refine ⟨f.chain,f.nf,?_,fun a ha=>⟨List.mem_cons_of_mem _ (f.key a ha).1,fun hc=>(f.key a ha).2 (List.mem_cons_of_mem _ hc)⟩,f.uniq,f.ids,f.nxt,?_,?_,f.np,?_⟩
   ·intro j hj
    rcases List.mem_cons.1 hj with rfl | hj
    ·exact hof
    ·exact f.of j hj
   ·intro j hj io' hio'
    rcases List.mem_cons.1 hj with rfl | hj
    ·rw [hio] at hio';simp at hio';subst hio';exact hE
    ·exact f.ne j hj io' hio'
   ·intro j hj io' hio'
    rcases List.mem_cons.1 hj with rfl | hj
    ·rw [hio] at hio';simp at hio';subst hio';exact hR
    ·exact f.rp j hj io' hio'
   ·intro j hj io' hio' hr
    rcases List.mem_cons.1 hj with rfl | hj
    ·rw [hio] at hio';simp at hio';subst hio'
     exact ⟨C,σ.next,hpos,Nat.le_refl _,hlt,hrd hr⟩
    ·exact f.rd j hj io' hio' hr
  rcases h with ⟨hw,hv,h⟩ | ⟨hw,q,hq,hv,h⟩ | ⟨hw,q,hq,hv,h⟩ | ⟨hw,q,b,f,A',hq,rfl,hev,hv,hm,h⟩
  ·exact plain h ⟨C,io,σ.next,hio,hpos,hlt,.inl ⟨hw,hv⟩⟩ (fun _ hw'=>by rw [hw] at hw';simp at hw')
  ·exact plain h ⟨C,io,σ.next,hio,hpos,hlt,.inr ⟨hw,.inl ⟨q,hq,hv⟩⟩⟩ (fun hr=>by rw [hq] at hr;simp [isR] at hr)
  ·exact plain h ⟨C,io,σ.next,hio,hpos,hlt,.inr ⟨hw,.inr (.inl ⟨q,hq⟩)⟩⟩ (fun _ _=>⟨q,hq,hv⟩)
  ·have g:=ih h
   have hadd:(σ.add b).next=σ.next + 1:=rfl
   refine ⟨⟨rfl,hm,g.chain⟩,?_,?_,?_,?_,?_,?_,?_,?_,?_,?_⟩
   ·intro a ha
    rcases List.mem_cons.1 ha with rfl | ha
    ·exact ⟨C,io,q,f,hio,hpos,hq,hw,hev,hv,hlt⟩
    ·exact g.nf a ha
   ·intro j hj
    rcases List.mem_cons.1 hj with rfl | hj
    ·exact ⟨C,io,σ.next,hio,hpos,hlt,.inr ⟨hw,.inr (.inr (.inl ⟨q,σ.next,b,hq,by simp⟩))⟩⟩
    ·exact (g.of j hj).mono fun a ha=>List.mem_cons_of_mem _ ha
   ·intro a ha
    rcases List.mem_cons.1 ha with rfl | ha
    ·exact ⟨by simp,hpos.out⟩
    ·exact ⟨List.mem_cons_of_mem _ (g.key a ha).1,fun hc=>(g.key a ha).2 (List.mem_cons_of_mem _ hc)⟩
   ·intro a ha c hc he
    rcases List.mem_cons.1 ha with rfl | ha
    ·rcases List.mem_cons.1 hc with rfl | hc
     ·rfl
     ·exact absurd (by rw [← he];simp) (g.key c hc).2
    ·rcases List.mem_cons.1 hc with rfl | hc
     ·exact absurd (by rw [he];simp) (g.key a ha).2
     ·exact g.uniq a ha c hc he
   ·intro a ha
    have:=g.nxt
    rcases List.mem_cons.1 ha with rfl | ha
    ·simp only;omega
    ·have:=g.ids a ha;omega
   ·have:=g.nxt;omega
   ·intro j hj io' hio'
    rcases List.mem_cons.1 hj with rfl | hj
    ·rw [hio] at hio';simp at hio';subst hio';exact hE
    ·exact g.ne j hj io' hio'
   ·intro j hj io' hio'
    rcases List.mem_cons.1 hj with rfl | hj
    ·rw [hio] at hio';simp at hio';subst hio';exact hR
    ·exact g.rp j hj io' hio'
   ·intro a ha e he
    rcases List.mem_cons.1 ha with rfl | ha
    ·exact hN (by rw [hq];rfl) e he
    ·exact g.np a ha e he
   ·intro j hj io' hio' hr
    rcases List.mem_cons.1 hj with rfl | hj
    ·rw [hio] at hio';simp at hio';subst hio'
     rw [hq] at hr;simp [isR] at hr
    ·obtain ⟨C',n,q1,q2,q3⟩:=g.rd j hj io' hio' hr
     exact ⟨C',n,q1,by omega,q3⟩
def opsOf (fin:DStage):List DStage→List Nat
 | []=>fin.xs
 | s::st=>s.xs++s.e::opsOf fin st
structure DF (l:List IOper) (bf:List Nat) (e0:List Value) (fin:DStage) (v:Nat→Value) (st:List DStage) (prev:Option Nat) (C:List Nat) (β:AW) (L:List NEnt):Prop where
 nf:∀ a∈L,NF l bf e0 v a
 of:∀ i∈opsOf fin st,OF l bf e0 v L i
 key:∀ a∈L,a.1∉C
 uniq:∀ a∈L,∀ b∈L,a.1=b.1→a=b
 ids:∀ a∈L,β.next≤a.2.1
 idu:∀ a∈L,∀ b∈L,a.2.1=b.2.1→a=b
 all:∀ j,j < l.length→j∈C∨j∈opsOf fin st
 late:∀ p,prev=some p→∀ i∈opsOf fin st,∀ io,nthO l i=some io→isE io.op=true∨isR io.op=true→∀ S,Clo bf S→(∀ j,(nthN bf i).testBit j=true→j∈S)→p∈S
theorem Chain.idu:∀ {A:List NEnt} {σ σ':AW},Chain σ A σ'→(∀ a∈A,σ.next≤a.2.1∧a.2.1 < σ'.next)∧(∀ a∈A,∀ b∈A,a.2.1=b.2.1→a=b)∧σ.next≤σ'.next
 | [],σ,σ',h=>by simp only [Chain] at h;subst h;simp
 | a::A,σ,σ',h=>by
  obtain ⟨h1,h2,h3⟩:=h
  obtain ⟨g1,g2,g3⟩:=Chain.idu h3
  have hadd:(σ.add a.2.2).next=σ.next + 1:=rfl
  rw [hadd] at g1 g3
  refine ⟨?_,?_,by omega⟩
  ·intro c hc
   rcases List.mem_cons.1 hc with rfl | hc
   ·omega
   ·have:=g1 c hc;omega
  ·intro c hc d hd he
   rcases List.mem_cons.1 hc with h4 | h4
   ·rcases List.mem_cons.1 hd with h5 | h5
    ·rw [h4,h5]
    ·have:=g1 d h5;rw [h4] at he;omega
   ·rcases List.mem_cons.1 hd with h5 | h5
    ·have:=g1 c h4;rw [h5] at he;omega
    ·exact g2 c h4 d h5 he
theorem DS.facts {t':List Value} {σ':AW}:∀ {st:List DStage} {prev:Option Nat} {C:List Nat} {β:AW} {L:List NEnt},DS l bf e0 K fin v t' σ' st prev C β L→DF l bf e0 fin v st prev C β L:=by
 intro st
 induction st with
 | nil=>
  rintro prev C β L ⟨hck,hx,ht,hall,hlt⟩
  have f:=hx.facts
  refine ⟨f.nf,f.of,fun a ha=>(f.key a ha).2,f.uniq,fun a ha=>(f.ids a ha).1,f.chain.idu.2.1,?_,?_⟩
  ·intro j hj
   rcases List.mem_append.1 (hall j hj) with h | h
   ·exact .inr (by simpa [opsOf] using h)
   ·exact .inl h
  ·intro p hp i hi io hio hk S hS hb
   rcases hk with hk | hk
   ·rw [f.ne i hi io hio] at hk;simp at hk
   ·exact hb p (f.rp i hi io hio hk p hp)
 | cons s st ih=>
  rintro prev C β L ⟨hck,γ,β',A,L',io,rfl,hx,hio,hE,hlt,hpos,hpv,hrun,hnx,hds⟩
  have f:=hx.facts
  have g:=ih hds
  have hgC:∀ a∈L',a.1∉s.xs.reverse++C∧a.1 ≠ s.e:=fun a ha=>⟨fun hc=>g.key a ha (List.mem_cons_of_mem _ hc),fun hc=>g.key a ha (by simp [hc])⟩
  refine ⟨?_,?_,?_,?_,?_,?_,?_,?_⟩
  ·intro a ha
   rcases List.mem_append.1 ha with ha | ha
   ·exact f.nf a ha
   ·exact g.nf a ha
  ·intro i hi
   rcases List.mem_append.1 hi with hi | hi
   ·exact (f.of i hi).mono fun a ha=>List.mem_append_left _ ha
   ·rcases List.mem_cons.1 hi with rfl | hi
    ·refine ⟨_,io,γ.next,hio,hpos,hlt,?_⟩
     rcases hrun with ⟨hw,hv,_⟩ | ⟨hw,q,hq,hv⟩
     ·exact .inl ⟨hw,hv⟩
     ·exact .inr ⟨hw,.inr (.inr (.inr hE))⟩
    ·exact (g.of i hi).mono fun a ha=>List.mem_append_right _ ha
  ·intro a ha
   rcases List.mem_append.1 ha with ha | ha
   ·exact (f.key a ha).2
   ·exact fun hc=>(hgC a ha).1 (List.mem_append_right _ hc)
  ·intro a ha c hc he
   rcases List.mem_append.1 ha with ha | ha <;> rcases List.mem_append.1 hc with hc | hc
   ·exact f.uniq a ha c hc he
   ·exact absurd (List.mem_append_left _ (by rw [← he];simpa using (f.key a ha).1)) (hgC c hc).1
   ·exact absurd (List.mem_append_left _ (by rw [he];simpa using (f.key c hc).1)) (hgC a ha).1
   ·exact g.uniq a ha c hc he
  ·intro a ha
   have h1:=f.nxt
   rcases List.mem_append.1 ha with ha | ha
   ·exact (f.ids a ha).1
   ·have:=g.ids a ha;omega
  ·intro a ha c hc he
   rcases List.mem_append.1 ha with ha | ha <;> rcases List.mem_append.1 hc with hc | hc
   ·exact f.chain.idu.2.1 a ha c hc he
   ·have:=(f.ids a ha).2;have:=g.ids c hc;omega
   ·have:=(f.ids c hc).2;have:=g.ids a ha;omega
   ·exact g.idu a ha c hc he
  ·intro j hj
   rcases g.all j hj with h | h
   ·rcases List.mem_cons.1 h with rfl | h
    ·exact .inr (by simp [opsOf])
    ·rcases List.mem_append.1 h with h | h
     ·exact .inr (by simp only [opsOf];exact List.mem_append_left _ (by simpa using h))
     ·exact .inl h
   ·exact .inr (by simp only [opsOf];exact List.mem_append_right _ (List.mem_cons_of_mem _ h))
  ·intro p hp i hi io' hio' hk S hS hb
   rcases List.mem_append.1 hi with hi | hi
   ·rcases hk with hk | hk
    ·rw [f.ne i hi io' hio'] at hk;simp at hk
    ·exact hb p (f.rp i hi io' hio' hk p hp)
   ·rcases List.mem_cons.1 hi with rfl | hi
    ·exact hb p (hpv p hp)
    ·have:=g.late s.e rfl i hi io' hio' hk S hS hb
     exact hS s.e this p (hpv p hp)
end
end Go.Proofs.YtnpoloachkcadaaGreatDoor.Ai
