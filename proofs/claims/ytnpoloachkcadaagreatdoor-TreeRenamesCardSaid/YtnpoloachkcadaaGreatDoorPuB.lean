/- A PART OF THE PROOF: a step of the proof that the law's code does what its contracts say, by an interpreter of the program's functions that is proved to be sound. -/
import Derived.Test.YtnpoloachkcadaaGreatDoorPuA
import Derived.Test.YtnpoloachkcadaaGreatDoorPv4
namespace Go.Proofs.YtnpoloachkcadaaGreatDoor.Ai
set_option linter.unusedSimpArgs false
open Go
set_option linter.unusedSimpArgs false
set_option linter.unusedVariables false
set_option linter.unusedSectionVars false
set_option maxRecDepth 10000
set_option maxHeartbeats 1000000
def mkPuB1:List Bool:=(false::false::true::true::false::false::false::false::false::false::false::false::true::true::true::false::false::false::false::false::false::false::false::false::false::false::false::[])
def mkPuB2:List Bool:=(true::false::false::true::true::false::false::false::false::false::false::false::false::false::false::false::false::false::false::false::false::false::false::false::false::false::false::false::false::false::false::false::[])
def mkPuB3:List Bool:=(true::true::false::false::false::true::false::false::false::false::false::false::false::false::false::false::false::false::false::false::false::false::false::false::false::false::false::[])
theorem ltN_t:∀ {a b:Nat},a < b→ltN a b=true
 | _,0,h=>by omega
 | 0,b + 1,h=>rfl
 | a + 1,b + 1,h=>by simp only [ltN];exact ltN_t (by omega)
theorem look_ne {i j:Nat} {o:PObj} {H:List (Nat × PObj)} (h:¬ i=j):look ((j,o)::H) i=look H i:=by simp only [look];rw [if_neg h]
theorem look_set_ne {H:List (Nat × PObj)} {id c:Nat} {o x:PObj} (h:look H id=some x) (hl:¬ id=c):look (setO H c o) id=some x:=by
 rw [look_setO,if_neg hl];exact h
inductive Mt where
 | mk (rm:Bool) (op:Nat) (nm:ByteArray) (id:Nat) (ks:List Mt)
def slt (rm:Bool) (id n:Nat):PV:=if rm=true then .loc id 0 n (n + 1) else if n=0 then .lit (.slice none 0 0) else .loc id 0 n n
def exC (rm:Bool):List PV:=if rm=true then ownC else []
mutual
def mC:Mt→List PV
 | .mk rm o n id ks=>[.lit (.int .u8 (o:Nat)),.lit (.string n),slt rm id ks.length]
def mL:List Mt→List PV
 | []=>[]
 | k::ks=>mC k++mL ks
end
def mtP (t:Mt):PV:=.agg (mC t)
mutual
def Mt.fm:Mt→Fm
 | .mk _ o n _ ks=>.mk o n (fms ks)
def fms:List Mt→List Fm
 | []=>[]
 | k::ks=>k.fm::fms ks
end
mutual
def Mt.ids:Mt→List Nat
 | .mk rm _ _ id ks=>(if rm=true∨ks ≠ [] then [id] else [])++idsL ks
def idsL:List Mt→List Nat
 | []=>[]
 | k::ks=>k.ids++idsL ks
end
mutual
def InH (H:List (Nat × PObj)) (nx:Nat):Mt→Prop
 | .mk rm _ _ id ks=>(rm=true∨ks ≠ []→id < nx∧∃ ex,(rm=true→ex=true)∧look H id=some (.cells (mL ks++exC rm) 27 3 ex false []))∧InHL H nx ks
def InHL (H:List (Nat × PObj)) (nx:Nat):List Mt→Prop
 | []=>True
 | k::ks=>InH H nx k∧InHL H nx ks
end
mutual
def Mt.rmI (b:Bool):Mt→Prop
 | .mk rm _ _ _ ks=>rm=b∧rmIL b ks
def rmIL (b:Bool):List Mt→Prop
 | []=>True
 | k::ks=>k.rmI b∧rmIL b ks
end
mutual
def Mt.sh (k:Nat):Mt→Mt
 | .mk rm o n id ks=>.mk rm o n (id + k) (shsL k ks)
def shsL (k:Nat):List Mt→List Mt
 | []=>[]
 | t::ts=>t.sh k::shsL k ts
end
theorem mC_len (t:Mt):(mC t).length=3:=by cases t;simp [mC]
theorem mL_len:∀ ks:List Mt,(mL ks).length=ks.length * 3
 | []=>by simp [mL]
 | k::ks=>by simp [mL,mC_len,mL_len ks];omega
theorem mL_app:∀ a b:List Mt,mL (a++b)=mL a++mL b
 | [],b=>by simp [mL]
 | k::a,b=>by simp [mL,mL_app a b,List.append_assoc]
theorem idsL_app:∀ a b:List Mt,idsL (a++b)=idsL a++idsL b
 | [],b=>by simp [idsL]
 | k::a,b=>by simp [idsL,idsL_app a b,List.append_assoc]
theorem fms_app:∀ a b:List Mt,fms (a++b)=fms a++fms b
 | [],b=>by simp [fms]
 | k::a,b=>by simp [fms,fms_app a b]
theorem fms_len:∀ ks:List Mt,(fms ks).length=ks.length
 | []=>by simp [fms]
 | k::ks=>by simp [fms,fms_len ks]
theorem shsL_len (k:Nat):∀ ks:List Mt,(shsL k ks).length=ks.length
 | []=>by simp [shsL]
 | t::ks=>by simp [shsL,shsL_len k ks]
theorem InHL_app {H:List (Nat × PObj)} {nx:Nat}:∀ {a b:List Mt},InHL H nx (a++b)↔InHL H nx a∧InHL H nx b
 | [],b=>by simp [InHL]
 | k::a,b=>by simp [InHL,InHL_app (a:=a) (b:=b),and_assoc]
theorem rmIL_app {r:Bool}:∀ {a b:List Mt},rmIL r (a++b)↔rmIL r a∧rmIL r b
 | [],b=>by simp [rmIL]
 | k::a,b=>by simp [rmIL,rmIL_app (a:=a) (b:=b),and_assoc]
mutual
theorem sh_rm {r:Bool} (k:Nat):∀ {t:Mt},t.rmI r→(t.sh k).rmI r
 | .mk _ _ _ _ _,h=>by simp only [Mt.sh,Mt.rmI] at h ⊢;exact ⟨h.1,sh_rmL k h.2⟩
theorem sh_rmL {r:Bool} (k:Nat):∀ {ts:List Mt},rmIL r ts→rmIL r (shsL k ts)
 | [],_=>trivial
 | _::_,h=>by simp only [shsL,rmIL] at h ⊢;exact ⟨sh_rm k h.1,sh_rmL k h.2⟩
end
mutual
theorem sh_fm (k:Nat):∀ t:Mt,(t.sh k).fm=t.fm
 | .mk rm o n id ks=>by simp only [Mt.sh,Mt.fm,sh_fms k ks]
theorem sh_fms (k:Nat):∀ ts:List Mt,fms (shsL k ts)=fms ts
 | []=>rfl
 | t::ts=>by simp only [shsL,fms,sh_fm k t,sh_fms k ts]
end
theorem shsL_nil {k:Nat} {ts:List Mt}:shsL k ts=[]↔ts=[]:=by cases ts <;> simp [shsL]
mutual
theorem sh_ids (k:Nat):∀ t:Mt,(t.sh k).ids=t.ids.map (· + k)
 | .mk rm o n id ks=>by
  simp only [Mt.sh,Mt.ids,List.map_append,sh_idsL k ks,ne_eq,shsL_nil]
  split <;> simp
theorem sh_idsL (k:Nat):∀ ts:List Mt,idsL (shsL k ts)=(idsL ts).map (· + k)
 | []=>rfl
 | t::ts=>by simp only [shsL,idsL,List.map_append,sh_ids k t,sh_idsL k ts]
end
theorem sh_slt (k:Nat) (rm:Bool) (id n:Nat):shP k (slt rm id n)=slt rm (id + k) n:=by
 unfold slt
 split
 ·rfl
 ·split <;> rfl
theorem shL_app (k:Nat):∀ a b:List PV,shL k (a++b)=shL k a++shL k b
 | [],b=>rfl
 | x::a,b=>by simp only [List.cons_append,shL,shL_app k a b]
theorem sh_ex (k:Nat) (rm:Bool):shL k (exC rm)=exC rm:=by cases rm <;> rfl
mutual
theorem sh_mC (k:Nat):∀ t:Mt,shL k (mC t)=mC (t.sh k)
 | .mk rm o n id ks=>by simp only [mC,Mt.sh,shL,shP,sh_slt,shsL_len]
theorem sh_mL (k:Nat):∀ ts:List Mt,shL k (mL ts)=mL (shsL k ts)
 | []=>rfl
 | t::ts=>by simp only [mL,shsL,shL_app,sh_mC k t,sh_mL k ts]
end
theorem sh_mtP (k:Nat) (t:Mt):shP k (mtP t)=mtP (t.sh k):=by simp only [mtP,shP,sh_mC]
mutual
theorem InH.keep {H H':List (Nat × PObj)} {nx nx':Nat}:∀ {t:Mt},InH H nx t→nx≤nx'→(∀ id∈t.ids,∀ o,look H id=some o→look H' id=some o)→InH H' nx' t
 | .mk rm o n id ks,h,hn,hk=>by
  simp only [InH,Mt.ids] at h hk ⊢
  refine ⟨fun hp=>?_,InHL.keep h.2 hn fun i hi=>hk i (List.mem_append_right _ hi)⟩
  obtain ⟨h1,ex,h2,h3⟩:=h.1 hp
  exact ⟨by omega,ex,h2,hk id (by rw [if_pos hp];simp) _ h3⟩
theorem InHL.keep {H H':List (Nat × PObj)} {nx nx':Nat}:∀ {ts:List Mt},InHL H nx ts→nx≤nx'→(∀ id∈idsL ts,∀ o,look H id=some o→look H' id=some o)→InHL H' nx' ts
 | [],_,_,_=>trivial
 | t::ts,h,hn,hk=>by
  simp only [InHL,idsL] at h hk ⊢
  exact ⟨h.1.keep hn fun i hi=>hk i (List.mem_append_left _ hi),InHL.keep h.2 hn fun i hi=>hk i (List.mem_append_right _ hi)⟩
end
mutual
theorem InH.lt {H:List (Nat × PObj)} {nx:Nat}:∀ {t:Mt},InH H nx t→∀ i∈t.ids,i < nx
 | .mk rm o n id ks,h,i,hi=>by
  simp only [InH,Mt.ids,List.mem_append] at h hi
  rcases hi with hi | hi
  ·split at hi
   ·rename_i hp;simp only [List.mem_singleton] at hi;subst hi;exact (h.1 hp).1
   ·simp at hi
  ·exact InHL.lt h.2 i hi
theorem InHL.lt {H:List (Nat × PObj)} {nx:Nat}:∀ {ts:List Mt},InHL H nx ts→∀ i∈idsL ts,i < nx
 | [],_,i,hi=>by simp [idsL] at hi
 | t::ts,h,i,hi=>by
  simp only [InHL,idsL,List.mem_append] at h hi
  rcases hi with hi | hi
  ·exact h.1.lt i hi
  ·exact InHL.lt h.2 i hi
end
mutual
theorem InH.obj {H:List (Nat × PObj)} {nx:Nat}:∀ {t:Mt},InH H nx t→∀ i∈t.ids,∃ (rm:Bool) (ks:List Mt) (ex:Bool),look H i=some (.cells (mL ks++exC rm) 27 3 ex false [])
 | .mk rm o n id ks,h,i,hi=>by
  simp only [InH,Mt.ids,List.mem_append] at h hi
  rcases hi with hi | hi
  ·split at hi
   ·rename_i hp;simp only [List.mem_singleton] at hi;subst hi
    obtain ⟨_,ex,_,h3⟩:=h.1 hp
    exact ⟨rm,ks,ex,h3⟩
   ·simp at hi
  ·exact InHL.obj h.2 i hi
theorem InHL.obj {H:List (Nat × PObj)} {nx:Nat}:∀ {ts:List Mt},InHL H nx ts→∀ i∈idsL ts,∃ (rm:Bool) (ks:List Mt) (ex:Bool),look H i=some (.cells (mL ks++exC rm) 27 3 ex false [])
 | [],_,i,hi=>by simp [idsL] at hi
 | t::ts,h,i,hi=>by
  simp only [InHL,idsL,List.mem_append] at h hi
  rcases hi with hi | hi
  ·exact h.1.obj i hi
  ·exact InHL.obj h.2 i hi
end
theorem free_slt (rm:Bool) (id n:Nat):freePv (slt rm id n)=true:=by
 unfold slt
 split
 ·rfl
 ·split <;> rfl
theorem freeLv_app:∀ a b:List PV,freeLv (a++b)=(freeLv a && freeLv b)
 | [],b=>by simp [freeLv]
 | p::a,b=>by simp [freeLv,freeLv_app a b,Bool.and_assoc]
theorem free_mC (t:Mt):freeLv (mC t)=true:=by
 obtain ⟨rm,o,n,id,ks⟩:=t
 simp only [mC,freeLv,freePv,free_slt,Bool.and_self]
theorem free_mL:∀ ts:List Mt,freeLv (mL ts)=true
 | []=>rfl
 | t::ts=>by simp only [mL,freeLv_app,free_mC,free_mL ts,Bool.and_self]
theorem free_ex (rm:Bool):freeLv (exC rm)=true:=by cases rm <;> rfl
theorem slt_or (rm:Bool) (id n:Nat):slt rm id n = .lit (.slice none 0 0)∨slt rm id n = .loc id 0 n n∨slt rm id n = .loc id 0 n (n + 1):=by
 unfold slt
 split
 ·exact .inr (.inr rfl)
 ·split
  ·exact .inl rfl
  ·exact .inr (.inl rfl)
theorem plain_mC (t:Mt):allPlain (mC t)=true:=by
 obtain ⟨rm,o,n,id,ks⟩:=t
 rcases slt_or rm id ks.length with h | h | h <;> simp only [mC,h] <;> rfl
theorem ex_pure (rm:Bool):pureL (exC rm)=true:=by cases rm <;> rfl
theorem fC_fm_len (t:Mt):(mC t).length=(fC t.fm).length:=by rw [mC_len,fC_len]
mutual
theorem lends_mC {π:PW}:∀ {t:Mt},InH π.heap π.next t→LendsL π (mC t) (fC t.fm)
 | .mk rm o n id ks,h=>by
  simp only [InH] at h
  simp only [mC,Mt.fm,fC,fms_len]
  refine .cons (.pure rfl) (.cons (.pure rfl) (.cons ?_ .nil))
  have hL:=lends_mL h.2
  unfold slt
  split
  ·rename_i hr;subst hr
   obtain ⟨_,ex,h2,h3⟩:=h.1 (.inl rfl)
   rw [h2 rfl] at h3
   have:=(hL.append (by rw [mL_len,fL_len,fms_len]) (.pure (ex_pure true)))
   have h4:=(Lends.locX h3 this (n:=ks.length) (cap:=ks.length + 1) (by omega)).wk (Wk.sp_sz (ds:=fL (fms ks)) (ext:=exC true) (.refl _))
   exact h4
  ·rename_i hr
   have hr:rm=false:=by cases rm <;> simp_all
   subst hr
   by_cases hk:ks=[]
   ·subst hk
    exact (Lends.pure rfl).wk .nil_sz
   ·rw [if_neg (fun e=>hk (List.length_eq_zero_iff.1 e))]
    obtain ⟨_,ex,h2,h3⟩:=h.1 (.inr hk)
    simp only [exC,Bool.false_eq_true,if_false,List.append_nil] at h3
    exact (Lends.loc h3 hL (Nat.le_refl _)).wk .sl_sz
theorem lends_mL {π:PW}:∀ {ts:List Mt},InHL π.heap π.next ts→LendsL π (mL ts) (fL (fms ts))
 | [],_=>.nil
 | t::ts,h=>by
  simp only [InHL] at h
  simp only [mL,fms,fL]
  exact (lends_mC h.1).append (fC_fm_len t) (lends_mL h.2)
end
theorem lends_mtP {π:PW} {t:Mt} (h:InH π.heap π.next t):Lends π (mtP t) (fP t.fm):=.agg (lends_mC h)
mutual
theorem lends_mCl {π:PW}:∀ {t:Mt},t.rmI true→InH π.heap π.next t→LendsL π (mC t) (lC t.fm)
 | .mk rm o n id ks,hA,h=>by
  simp only [InH,Mt.rmI] at h hA
  obtain ⟨rfl,hA⟩:=hA
  simp only [mC,Mt.fm,lC,fms_len]
  refine .cons (.pure rfl) (.cons (.pure rfl) (.cons ?_ .nil))
  have hL:=lends_mLl hA h.2
  obtain ⟨_,ex,h2,h3⟩:=h.1 (.inl rfl)
  rw [h2 rfl] at h3
  have:=(hL.append (by rw [mL_len,lL_len,fms_len]) (.pure (ex_pure true)))
  exact Lends.locX h3 this (n:=ks.length) (cap:=ks.length + 1) (by omega)
theorem lends_mLl {π:PW}:∀ {ts:List Mt},rmIL true ts→InHL π.heap π.next ts→LendsL π (mL ts) (lL (fms ts))
 | [],_,_=>.nil
 | t::ts,hA,h=>by
  simp only [InHL,rmIL] at h hA
  simp only [mL,fms,lL]
  exact (lends_mCl hA.1 h.1).append (by rw [mC_len,lC_len]) (lends_mLl hA.2 h.2)
end
theorem lends_mtPl {π:PW} {t:Mt} (hA:t.rmI true) (h:InH π.heap π.next t):Lends π (mtP t) (lP t.fm):=.agg (lends_mCl hA h)
def MkT (rb:Bool) (f:Fm) (r:PV) (π1:PW):Prop:=∃ t:Mt,t.rmI rb∧t.fm=f∧r=mtP t∧InH π1.heap π1.next t∧t.ids.Nodup∧∀ i o,look π1.heap i=some o→i∈t.ids
theorem mkT_free {rb:Bool} {f:Fm} {r:PV} {π1:PW} (h:MkT rb f r π1):FreeW r π1:=by
 obtain ⟨t,_,_,rfl,h1,_,h2⟩:=h
 refine ⟨by simp only [mtP,freePv,free_mC],fun i o hi=>?_⟩
 obtain ⟨rm,ks,ex,h3⟩:=h1.obj i (h2 i o hi)
 rw [hi] at h3;cases h3
 simp only [freeOb,freeLv_app,free_mL,free_ex,Bool.and_self]
theorem look_sh_old {nx id:Nat} {H:List (Nat × PObj)} (h:id < nx):∀ l:List (Nat × PObj),look (shH nx H l) id=look H id
 | []=>rfl
 | (j,o)::l=>by simp only [shH,look];rw [if_neg (by omega)];exact look_sh_old h l
theorem look_sh_new {nx i:Nat} {H:List (Nat × PObj)} {o:PObj}:∀ {l:List (Nat × PObj)},look l i=some o→look (shH nx H l) (i + nx)=some (shO nx o)
 | [],h=>by simp [look] at h
 | (j,x)::l,h=>by
  simp only [shH,look] at h ⊢
  by_cases e:i=j
  ·subst e
   rw [if_pos rfl] at h ⊢
   rw [Option.some.inj h]
  ·rw [if_neg e] at h
   rw [if_neg (by omega)];exact look_sh_new h
mutual
theorem InH.sh {H h:List (Nat × PObj)} {n nx:Nat}:∀ {t:Mt},InH h n t→InH (shH nx H h) (n + nx) (t.sh nx)
 | .mk rm o nm id ks,g=>by
  simp only [InH,Mt.sh,ne_eq,shsL_nil] at g ⊢
  refine ⟨fun hp=>?_,g.2.sh⟩
  obtain ⟨h1,ex,h2,h3⟩:=g.1 hp
  refine ⟨by omega,ex,h2,?_⟩
  rw [look_sh_new h3]
  simp only [shO,shL_app,sh_mL,sh_ex,shA]
theorem InHL.sh {H h:List (Nat × PObj)} {n nx:Nat}:∀ {ts:List Mt},InHL h n ts→InHL (shH nx H h) (n + nx) (shsL nx ts)
 | [],_=>trivial
 | t::ts,g=>by
  simp only [InHL,shsL] at g ⊢
  exact ⟨g.1.sh,g.2.sh⟩
end
structure NewT (rb:Bool) (f:Fm) (nx:Nat) (H:List (Nat × PObj)) (t:Mt) (nx':Nat) (H':List (Nat × PObj)):Prop where
 rm:t.rmI rb
 fm:t.fm=f
 inn:InH H' nx' t
 nd:t.ids.Nodup
 lo:∀ i∈t.ids,nx≤i
 nn:nx≤nx'
 old:∀ i,i < nx→look H' i=look H i
theorem MkT.new {rb:Bool} {f:Fm} {r:PV} {π1 π:PW} (h:MkT rb f r π1):∃ t,shP π.next r=mtP t∧NewT rb f π.next π.heap t (π.with π1).next (π.with π1).heap:=by
 obtain ⟨t,h0,h1,rfl,h2,h3,h4⟩:=h
 refine ⟨t.sh π.next,sh_mtP _ _,sh_rm _ h0,by rw [sh_fm,h1],h2.sh,?_,?_,by simp only [PW.with];omega,fun i hi=>look_sh_old hi _⟩
 ·rw [sh_ids]
  exact List.Pairwise.map _ (fun a b hab e=>hab (by omega)) h3
 ·intro i hi
  rw [sh_ids] at hi
  obtain ⟨j,_,rfl⟩:=List.mem_map.1 hi
  omega
theorem PMk.tree {rb:Bool} {C:Ctx} {fn:FuncId} {args args0:List PV} {f:Fm} {π:PW} {b:Nat} {e:List PV} (h:PMk C fn args0 (MkT rb f)) (hp:pureL args0=true) (hl:LendsL π args args0) {B:PV→PW→Prop}
  (hB:∀ t nx' H',NewT rb f π.next π.heap t nx' H'→B (mtP t) ⟨nx',H'⟩) (hb:b≤π.next:=by exact Nat.zero_le _):PToE C b e fn args π B:=
 h.lent (fun _ _=>mkT_free) hp (Gh.lends hl) (fun r π1 hr=>by
  obtain ⟨t,e,hn⟩:=hr.new (π:=π)
  rw [e];exact hB t _ _ hn) hb
theorem PDE.tree {rb:Bool} {C:Ctx} {fn:FuncId} {args0:List PV} {f:Fm} {π:PW} {b:Nat} {l:List IOper} {fin:DStage} {st:List DStage} {S:List Nat} {e:List PV} {Q:List PV→PW→Prop} {as:List Opd} {d:Option Nat} (h:PMk C fn args0 (MkT rb f)) (hp:pureL args0=true) (hl:LendsL π (evsP C.G e as) args0)
  (hB:∀ t nx' H',NewT rb f π.next π.heap t nx' H'→PDraw C b l fin st (S.filter (freeJ l d)) (putP e d (mtP t)) ⟨nx',H'⟩ Q) (hb:b≤π.next:=by exact Nat.zero_le _):PDE C b l fin st S (.call fn as) d e π Q:=
 PDE.mk h (fun _ _=>mkT_free) hp (Gh.lends hl) (fun r π1 hr=>by
  obtain ⟨t,e,hn⟩:=hr.new (π:=π)
  rw [e];exact hB t _ _ hn) hb
theorem Gh.treeEnd {C:Ctx} {b:Nat} {e:List PV} {π:PW} {A:List PV→PW→Prop} {t:Mt} (h:InH π.heap π.next t) (hA:∀ H',InH H' π.next t→(∀ i o,look H' i=some o→i∈t.ids)→A e ⟨π.next,H'⟩):Gh C b e π A:=by
 refine Gh.pick (fun i=>decide (i∈t.ids)) (hA _ (h.keep (Nat.le_refl _) fun i hi o ho=>?_) fun i o hi=>?_)
 ·rw [look_pick,if_pos (by simpa using hi),ho]
  obtain ⟨rm,ks,ex,h3⟩:=h.obj i hi
  rw [ho] at h3;cases h3
  rfl
 ·obtain ⟨h1,_⟩:=pick_some hi
  simpa using h1
structure GL (lo:Nat) (H:List (Nat × PObj)) (nx lid:Nat) (ts:List Mt):Prop where
 lst:ts ≠ []→lo≤lid∧lid < nx∧look H lid=some (.cells (mL ts) 27 3 false false [])
 trs:InHL H nx ts
 rm:rmIL false ts
 nd:(idsL ts).Nodup
 lo:∀ i∈idsL ts,lo≤i∧i ≠ lid
theorem GL.nil (lo:Nat) (H:List (Nat × PObj)) (nx lid:Nat):GL lo H nx lid []:=⟨fun h=>absurd rfl h,trivial,trivial,List.Pairwise.nil,fun i hi=>by simp [idsL] at hi⟩
theorem GL.keep {lo:Nat} {H H':List (Nat × PObj)} {nx nx' lid:Nat} {ts:List Mt} (h:GL lo H nx lid ts) (hn:nx≤nx') (hk:∀ i o,lo≤i→i < nx→look H i=some o→look H' i=some o):GL lo H' nx' lid ts:=
 ⟨fun h0=>by
  obtain ⟨h1,h2,h3⟩:=h.lst h0
  exact ⟨h1,by omega,hk _ _ h1 h2 h3⟩,h.trs.keep hn fun i hi o ho=>hk i o (h.lo i hi).1 (h.trs.lt i hi) ho,h.rm,h.nd,h.lo⟩
theorem GL.snoc {lo:Nat} {H H1 H':List (Nat × PObj)} {nx nx1 nx' lid lid':Nat} {ts:List Mt} {t:Mt} {f:Fm} (h:GL lo H nx lid ts) (hlo:lo≤nx) (ht:NewT false f nx H t nx1 H1) (hl:nx1≤lid') (hl':lid' < nx')
  (hc:look H' lid'=some (.cells (mL (ts++[t])) 27 3 false false [])) (hk:∀ i o,lo≤i→i < nx1→(ts ≠ []→i ≠ lid)→look H1 i=some o→look H' i=some o):GL lo H' nx' lid' (ts++[t]):=by
 have hn:=ht.nn
 have hold:∀ i∈idsL ts,i < nx:=h.trs.lt
 refine ⟨fun _=>⟨by omega,hl',hc⟩,InHL_app.2 ⟨h.trs.keep (by omega) fun i hi o ho=>hk i o (h.lo i hi).1 (by have:=hold i hi;omega) (fun _=>(h.lo i hi).2) (by rw [ht.old i (hold i hi)];exact ho),⟨ht.inn.keep (by omega) fun i hi o ho=>hk i o (by have:=ht.lo i hi;omega) (ht.inn.lt i hi) (fun h0 e=>by
  obtain ⟨_,h2,_⟩:=h.lst h0
  have:=ht.lo i hi;omega) ho,trivial⟩⟩,rmIL_app.2 ⟨h.rm,ht.rm,trivial⟩,?_,fun i hi=>?_⟩
 ·rw [idsL_app]
  refine List.nodup_append.2 ⟨h.nd,by simpa [idsL] using ht.nd,fun a ha c hc e=>?_⟩
  subst e
  simp only [idsL,List.append_nil] at hc
  have:=hold a ha;have:=ht.lo a hc;omega
 ·rw [idsL_app,List.mem_append] at hi
  rcases hi with hi | hi
  ·have:=hold i hi
   exact ⟨(h.lo i hi).1,by omega⟩
  ·simp only [idsL,List.append_nil] at hi
   have:=ht.lo i hi;have:=ht.inn.lt i hi
   exact ⟨by omega,by omega⟩
end Go.Proofs.YtnpoloachkcadaaGreatDoor.Ai
namespace Go.Proofs.YtnpoloachkcadaaGreatDoor.Ai
set_option linter.unusedSimpArgs false
open Go
set_option linter.unusedVariables false
set_option linter.unusedSectionVars false
set_option maxRecDepth 10000
open Classical in
mutual
noncomputable def Fm.gs (nm:ByteArray) (s:Nat):Fm→Nat
 | .mk o n ks=>if o=3∧n=nm then s else 1 + gss nm s ks
noncomputable def gss (nm:ByteArray) (s:Nat):List Fm→Nat
 | []=>0
 | k::ks=>k.gs nm s + gss nm s ks
end
open Classical in
mutual
noncomputable def Fm.gd (nm:ByteArray) (d:Nat):Fm→Nat
 | .mk o n ks=>if o=3∧n=nm then d else gds nm d ks + 1
noncomputable def gds (nm:ByteArray) (d:Nat):List Fm→Nat
 | []=>0
 | k::ks=>max (k.gd nm d) (gds nm d ks)
end
mutual
theorem gs_le (nm:ByteArray) (s:Nat):∀ f:Fm,f.gs nm s≤f.size * (s + 1)
 | .mk o n ks=>by
  have h:=gss_le nm s ks
  simp only [Fm.gs,Fm.size]
  rw [Nat.add_mul]
  split <;> omega
theorem gss_le (nm:ByteArray) (s:Nat):∀ ks:List Fm,gss nm s ks≤sizes ks * (s + 1)
 | []=>by simp [gss]
 | k::ks=>by
  have h1:=gs_le nm s k
  have h2:=gss_le nm s ks
  simp only [gss,sizes,Nat.add_mul];omega
end
mutual
theorem gd_le (nm:ByteArray) (s:Nat):∀ f:Fm,f.gd nm s≤f.depth + s
 | .mk o n ks=>by
  have h:=gds_le nm s ks
  simp only [Fm.gd,Fm.depth]
  split <;> omega
theorem gds_le (nm:ByteArray) (s:Nat):∀ ks:List Fm,gds nm s ks≤depths ks + s
 | []=>by simp [gds]
 | k::ks=>by
  have h1:=gd_le nm s k
  have h2:=gds_le nm s ks
  simp only [gds,depths];omega
end
section
variable {C:Ctx} (hm:C.P.follows .mixedOrders=true) (hC:TabOK C.P C.ng C.ts Tryz.tab)
include hm hC
end
end Go.Proofs.YtnpoloachkcadaaGreatDoor.Ai
namespace Go.Proofs.YtnpoloachkcadaaGreatDoor.Ai
set_option linter.unusedSimpArgs false
open Go
set_option linter.unusedVariables false
set_option linter.unusedSectionVars false
set_option maxRecDepth 10000
mutual
noncomputable def Fm.repl (g:Fm→Fm):Fm→Fm
 | .mk o n ks=>if o=3 then g (.mk o n ks) else .mk o ⟨#[]⟩ (repls g ks)
noncomputable def repls (g:Fm→Fm):List Fm→List Fm
 | []=>[]
 | k::ks=>k.repl g::repls g ks
end
theorem repls_len (g:Fm→Fm):∀ ks:List Fm,(repls g ks).length=ks.length
 | []=>by simp [repls]
 | k::ks=>by simp [repls,repls_len g ks]
theorem repls_app (g:Fm→Fm):∀ a b:List Fm,repls g (a++b)=repls g a++repls g b
 | [],b=>by simp [repls]
 | k::a,b=>by simp [repls,repls_app g a b]
section
variable {C:Ctx} (hm:C.P.follows .mixedOrders=true) (hC:TabOK C.P C.ng C.ts Tryz.tab)
include hm hC
end
end Go.Proofs.YtnpoloachkcadaaGreatDoor.Ai
namespace Go.Proofs.YtnpoloachkcadaaGreatDoor.Ai
set_option linter.unusedSimpArgs false
open Go
set_option linter.unusedVariables false
set_option linter.unusedSectionVars false
set_option maxRecDepth 10000
open Classical in
noncomputable def putG (nm:ByteArray) (b p:Fm):Fm:=if p.name=nm then b else p
noncomputable def putE (f:Fm) (nm:ByteArray) (b:Fm):Fm × Int:=
 if yesB (f.formed fun _=>true)=true∧yesB (b.formed fun _=>true)=true∧yesB (nameOK nm)=true then
  (if ltB 1000 (f.gs nm b.size:Nat)=true∨ltB 100 (f.gd nm b.depth:Nat)=true then (.mk 0 ⟨#[]⟩ [],31) else (f.repl (putG nm b),0)) else (.mk 0 ⟨#[]⟩ [],30)
section
variable {C:Ctx} (hm:C.P.follows .mixedOrders=true) (hC:TabOK C.P C.ng C.ts Tryz.tab)
include hm hC
theorem any_ok (o:Nat):PFun C 99 [.lit (.int .u8 (o:Nat))] (.lit (.bool true)):=by
 refine PFun.body hm hC (show Tryz.tab.get 99=some Tryz.c99 from rfl) rfl ?_
 simp only [SW,Tryz.c99,startP,Nat.reduceAdd,Nat.reduceSub,List.replicate]
 repeat (refine PRun.wpn rfl ?_;simp only [SW,reduceCtorEq])
 exact .refl ⟨_,rfl,.refl _⟩
end
end Go.Proofs.YtnpoloachkcadaaGreatDoor.Ai
namespace Go.Proofs.YtnpoloachkcadaaGreatDoor.Ai
set_option linter.unusedSimpArgs false
open Go
set_option linter.unusedVariables false
set_option linter.unusedSectionVars false
set_option maxRecDepth 10000
set_option maxHeartbeats 1000000
theorem slt0 (id:Nat):slt false id 0 = .lit (.slice none 0 0):=rfl
theorem sltN {id n:Nat} (h:n ≠ 0):slt false id n = .loc id 0 n n:=by
 unfold slt;rw [if_neg (by simp),if_neg h]
theorem fms_take {ks:List Fm} {ts:List Mt} {i:Nat} {k:Fm} {t:Mt} (h:fms ts=ks.take i) (hk:ks[i]? = some k) (ht:t.fm=k):fms (ts++[t])=ks.take (i + 1):=by
 rw [fms_app,h,List.take_add_one,hk];simp [fms,ht]
theorem fms_take_len {ks:List Fm} {ts:List Mt} {i:Nat} (h:fms ts=ks.take i) (hi:i≤ks.length):ts.length=i:=by
 rw [← fms_len,h,List.length_take,Nat.min_eq_left hi]
def zF:List PV:=[.lit (.int .u8 0),.lit (.string ⟨#[]⟩),.lit (.slice none 0 0)]
theorem GL.done {lo:Nat} {H:List (Nat × PObj)} {nx lid:Nat} {ts:List Mt} (h:GL lo H nx lid ts) (o:Nat) (nm:ByteArray):InH H nx (.mk false o nm lid ts)∧(Mt.mk false o nm lid ts).rmI false∧(Mt.mk false o nm lid ts).ids.Nodup:=by
 refine ⟨?_,⟨rfl,h.rm⟩,?_⟩
 ·simp only [InH]
  refine ⟨fun hp=>?_,h.trs⟩
  obtain ⟨_,h2,h3⟩:=h.lst (by simpa using hp)
  exact ⟨h2,false,fun e=>by simp at e,by simp only [SW,exC];exact h3⟩
 ·simp only [Mt.ids]
  split
  ·refine List.nodup_cons.2 ⟨fun hi=>(h.lo _ hi).2 rfl,h.nd⟩
  ·exact h.nd
section
variable {C:Ctx} (hm:C.P.follows .mixedOrders=true) (hC:TabOK C.P C.ng C.ts Tryz.tab)
include hm hC
theorem copy_m:∀ (n:Nat) (f:Fm),f.size≤n→n < 2 ^ 38→PMk C 28 [fP f] (MkT false f):=by
 intro n
 induction n with
 | zero=>intro f h;have:=f.size_pos;omega
 | succ n ih=>
  intro f hf hn
  obtain ⟨o,nm,ks⟩:=f
  simp only [Fm.size] at hf
  have hlen:=len_sizes ks
  refine PMk.body2 hm hC (show Tryz.tab.get 28=some Tryz.c28 from rfl) ?_
  simp only [SW,Tryz.c28,startP,Nat.reduceAdd,Nat.reduceSub,List.replicate,fP,fC]
  repeat (refine PRun.wpn rfl ?_;simp only [SW,↓reduceIte,reduceCtorEq,Nat.reduceAdd])
  refine PRun.gh (Gh.mr mkPuB1 [(1,0),(2,1)] 2 rfl ?_)
  simp only [mkPuB1,SW,↓reduceIte,reduceCtorEq,Nat.reduceEqDiff]
  refine PRun.loopG (fun m t π=>∃ (i nx lid:Nat) (H:List (Nat × PObj)) (ts:List Mt),t=(.junk::.junk::.ptr 0 0::.ptr 1 0::.junk::.junk::.junk::.junk::.junk::.junk::.junk::.junk::.sz (fL ks) ks.length::.lit (.int .i64 (ks.length:Nat))::.lit (.int .i64 (i:Nat))::.junk::.junk::.junk::.junk::.junk::.junk::.junk::.junk::.junk::.junk::.junk::.junk::[])∧i≤ks.length∧m=ks.length - i∧π=⟨nx,H⟩∧2≤nx∧fms ts=ks.take i∧GL 2 H nx lid ts∧look H 1=some (.cells [.lit (.int .u8 (o:Nat)),.lit (.string nm),slt false lid i] 27 3 true false [])∧look H 0=some (.cells zF 27 3 true false [])) ?_ ks.length _ _ ⟨0,2,0,_,[],rfl,by omega,rfl,rfl,by omega,rfl,.nil _ _ _ _,rfl,rfl⟩
  rintro m t π ⟨i,nx,lid,H,ts,rfl,hi,rfl,rfl,hnx,hts,hG,ho,hz⟩
  have htl:=fms_take_len hts hi
  by_cases hlt:(i:Int) < (ks.length:Nat)
  ·obtain ⟨k,hk⟩:∃ k,ks[i]? = some k:=⟨ks[i]'(by omega),List.getElem?_eq_getElem (by omega)⟩
   have h1:=size_kid hk
   have hcut:=fL_cut hk
   have hrec:=ih k (by omega) (by omega)
   have w1:IntKind.i64.wrap (((i:Nat):Int) + 1)=((i + 1:Nat):Int):=by rw [wrap64 (by omega) (by omega)];omega
   have e0:¬ (1:Nat)=nx:=by omega
   have hkf:∀ t:Mt,t.fm=k→fms (ts++[t])=ks.take (i + 1):=fun t ht=>fms_take hts hk ht
   obtain ⟨o',nm',ks'⟩:=k
   simp only [fP,fC] at hrec hcut
   by_cases hi0:i=0
   ·rw [hi0,slt0] at ho
    have htn:ts=[]:=List.length_eq_zero_iff.1 (by omega)
    repeat (refine PRun.wpn rfl ?_;simp only [SW,↓reduceIte,Nat.reduceAdd,ltB_t hlt,hlt,hcut])
    refine PDraw.stage (Nat.zero_le _) rfl ?_
    try dsimp only
    simp only [SW,↓reduceIte,Nat.reduceAdd,e0,ho,ltN_t (show 0 < nx by omega),ltN_t (show nx < nx + 1 by omega)]
    refine PDE.tree hrec rfl ?_ fun t nx1 H1 ht=>?_
    ·exact LendsL.pure rfl
    have hnn:=ht.nn
    dsimp only at ht hnn
    have ho1:=(ht.old 1 (by omega)).trans ((look_ne e0).trans ho)
    have hz1:=(ht.old 0 (by omega)).trans ((look_ne (by omega)).trans hz)
    have e1:¬ (1:Nat)=nx1:=by omega
    have e2:¬ (1:Nat)=nx1 + 1:=by omega
    have hG1:GL 2 ((nx,.cells [.lit (.int .u8 (o':Nat)),.lit (.string nm'),.sz (fL ks') ks'.length] 27 3 true false [])::H) (nx + 1) lid ts:=hG.keep (by omega) fun j x h1 h2 h3=>by simp only [look];rw [if_neg (by omega)];exact h3
    have hfm:=hkf t ht.fm
    have hpl:=plain_mC t
    have hml:mL (ts++[t])=mL ts++mC t:=by rw [mL_app];simp [mL]
    have hq3:(mL ts).length=i * 3:=by rw [mL_len,htl]
    have hq3':(mC t).length=3:=mC_len t
    have hmt0:mtP t = .agg (mC t):=rfl
    rw [hmt0]
    have hsn:=fun lid' nx' H'=>hG1.snoc (lid':=lid') (nx':=nx') (H':=H') (by omega) ht
    rw [hml] at hsn
    generalize mC t=mc at hpl hml hq3' hsn ⊢
    match mc,hq3' with
    | [c0,c1,c2],_=>
    simp only [allPlain,Bool.and_true,Bool.and_eq_true] at hpl
    obtain ⟨p0,p1,p2⟩:=hpl
    simp only [plainP,isCell] at p0 p1 p2
    refine PDraw.stage (Nat.zero_le _) rfl ?_
    try dsimp only
    simp only [SW,↓reduceIte,Nat.reduceAdd]
    refine PDE.ev (Nat.zero_le _) ?_
    simp only [pv_t,pevE,getP,lenP,srcP,appendP,plainP,isCell,look,PW.cs?,PW.push,cut0,cutS,List.drop_zero,Option.map_some,Option.bind_some,Nat.mul_one,Bool.and_true,↓reduceIte,Nat.reduceAdd,Nat.reduceMul,Nat.reduceLeDiff,Nat.reduceLT,Nat.zero_add,allPlain,Bool.false_or,Bool.not_true,gt_iff_lt,p0,p1,p2]
    simp only [put_some,onDE_s,setP,↓reduceIte,Bool.false_eq_true,bne_self_eq_false]
    refine PDraw.stage (Nat.zero_le _) rfl ?_
    try dsimp only
    simp only [SW]
    refine PDE.ev (Nat.zero_le _) ?_
    simp only [SW,↓reduceIte,ho1,e1,e2]
    refine PDraw.last (Nat.zero_le _) rfl ?_
    try dsimp only
    simp only [wx_nil]
    repeat (refine PRun.wpn rfl ?_;simp only [SW,w1])
    refine Gh.mask mkPuB1 ?_
    subst hi0
    refine ⟨ks.length - 1,by omega,1,nx1 + 1 + 1,nx1 + 1,_,ts++[t],rfl,by omega,rfl,rfl,by omega,hfm,hsn _ _ _ (by omega) (by omega) (by simp only [look,if_true];rw [htn];rfl) (fun j x a1 a2 a3 a4=>?_),?_,?_⟩
    ·rw [look_ne (by omega),look_ne (by omega),look_setO,if_neg (by omega)];exact a4
    ·rw [look_ne (by omega),look_ne (by omega),look_setO,if_pos rfl,ho1,sltN (by omega)];rfl
    ·rw [look_ne (by omega),look_ne (by omega),look_setO,if_neg (by omega)];exact hz1
   ·rw [sltN hi0] at ho
    have q1:¬ i + 1≤i:=by omega
    have q2:¬ 140737488355328 < (2 * (i + 1) + 768) * 48:=by omega
    repeat (refine PRun.wpn rfl ?_;simp only [SW,↓reduceIte,Nat.reduceAdd,ltB_t hlt,hlt,hcut])
    refine PDraw.stage (Nat.zero_le _) rfl ?_
    try dsimp only
    simp only [SW,↓reduceIte,Nat.reduceAdd,e0,ho,ltN_t (show 0 < nx by omega),ltN_t (show nx < nx + 1 by omega)]
    refine PDE.tree hrec rfl ?_ fun t nx1 H1 ht=>?_
    ·exact LendsL.pure rfl
    have hnn:=ht.nn
    dsimp only at ht hnn
    have ho1:=(ht.old 1 (by omega)).trans ((look_ne e0).trans ho)
    have hz1:=(ht.old 0 (by omega)).trans ((look_ne (by omega)).trans hz)
    have e1:¬ (1:Nat)=nx1:=by omega
    have e2:¬ (1:Nat)=nx1 + 1:=by omega
    have hG1:GL 2 ((nx,.cells [.lit (.int .u8 (o':Nat)),.lit (.string nm'),.sz (fL ks') ks'.length] 27 3 true false [])::H) (nx + 1) lid ts:=hG.keep (by omega) fun j x h1 h2 h3=>by simp only [look];rw [if_neg (by omega)];exact h3
    have hfm:=hkf t ht.fm
    have hpl:=plain_mC t
    have hml:mL (ts++[t])=mL ts++mC t:=by rw [mL_app];simp [mL]
    have hq3:(mL ts).length=i * 3:=by rw [mL_len,htl]
    have hq3':(mC t).length=3:=mC_len t
    have hmt0:mtP t = .agg (mC t):=rfl
    rw [hmt0]
    have hsn:=fun lid' nx' H'=>hG1.snoc (lid':=lid') (nx':=nx') (H':=H') (by omega) ht
    rw [hml] at hsn
    generalize mC t=mc at hpl hml hq3' hsn ⊢
    match mc,hq3' with
    | [c0,c1,c2],_=>
    simp only [allPlain,Bool.and_true,Bool.and_eq_true] at hpl
    obtain ⟨p0,p1,p2⟩:=hpl
    simp only [plainP,isCell] at p0 p1 p2
    have hts0:ts ≠ []:=fun e=>hi0 (by rw [← htl,e];rfl)
    obtain ⟨l1,l2,l3⟩:=hG.lst hts0
    have l4:=(ht.old lid (by omega)).trans ((look_ne (by omega)).trans l3)
    have q4:=cut_all hq3
    have e3:¬ lid=nx1:=by omega
    have e4:¬ lid=nx1 + 1:=by omega
    have e5:¬ (1:Nat)=lid:=by omega
    refine PDraw.stage (Nat.zero_le _) rfl ?_
    try dsimp only
    simp only [SW,↓reduceIte,Nat.reduceAdd]
    refine PDE.ev (Nat.zero_le _) ?_
    simp only [pv_t,pevE,getP,lenP,srcP,appendP,plainP,isCell,look,PW.cs?,PW.push,cut0,cutS,List.drop_zero,Option.map_some,Option.bind_some,Bool.and_true,↓reduceIte,Nat.reduceMul,Bool.false_eq_true,Nat.zero_add,allPlain,setO,Bool.false_or,gt_iff_lt,l4,q1,q2,hq3,q4,e3]
    simp only [p0,p1,p2,put_some,onDE_s,setP,Bool.and_true,↓reduceIte,Bool.false_eq_true,Bool.or_self,Bool.not_true,bne_self_eq_false]
    have ho2:=fun o=>(look_set_ne (c:=lid) (o:=o) ho1 e5)
    refine PDraw.stage (Nat.zero_le _) rfl ?_
    try dsimp only
    simp only [SW]
    refine PDE.ev (Nat.zero_le _) ?_
    simp only [SW,↓reduceIte,ho2,e1,e2]
    refine PDraw.last (Nat.zero_le _) rfl ?_
    try dsimp only
    simp only [wx_nil]
    repeat (refine PRun.wpn rfl ?_;simp only [SW,w1])
    refine Gh.retire (fun e=>e4 e.symm) (Gh.mask mkPuB1 ?_)
    refine ⟨ks.length - (i + 1),by omega,i + 1,nx1 + 1 + 1,nx1 + 1,_,ts++[t],rfl,by omega,rfl,rfl,by omega,hfm,hsn _ _ _ (by omega) (by omega) (by simp only [look,if_true]) (fun j x a1 a2 a3 a4=>?_),?_,?_⟩
    ·rw [look_ne (by omega),dropO_ne (a3 hts0),look_ne (by omega),look_setO,if_neg (by omega),look_setO,if_neg (a3 hts0)];exact a4
    ·rw [look_ne (by omega),dropO_ne e5,look_ne (by omega),look_setO,if_pos rfl,look_setO,if_neg e5,ho1,sltN (by omega)];rfl
    ·rw [look_ne (by omega),dropO_ne (by omega),look_ne (by omega),look_setO,if_neg (by omega),look_setO,if_neg (by omega)];exact hz1
  ·have hil:i=ks.length:=by omega
   subst hil
   obtain ⟨g1,g0,g2⟩:=hG.done o nm
   have hend:∀ H',InH H' nx (.mk false o nm lid ts)→(∀ i o',look H' i=some o'→i∈(Mt.mk false o nm lid ts).ids)→MkT false (.mk o nm ks) (.agg [.lit (.int .u8 (o:Nat)),.lit (.string nm),slt false lid ks.length]) ⟨nx,H'⟩:=fun H' q1 q2=>
    ⟨.mk false o nm lid ts,g0,by simp only [Mt.fm];rw [hts,List.take_length],by simp only [mtP,mC,htl],q1,g2,q2⟩
   simp only [zF] at hz
   have hst:∀ x,InH (setO H 0 x) nx (.mk false o nm lid ts):=fun x=>g1.keep (Nat.le_refl _) fun j hj y hy=>by
    rw [look_setO,if_neg (fun e=>by
     subst e
     simp only [Mt.ids,List.mem_append] at hj
     rcases hj with hj | hj
     ·split at hj
      ·rename_i h0
       simp only [List.mem_singleton] at hj
       have:=(hG.lst (by simpa using h0)).1;omega
      ·simp at hj
     ·have:=(hG.lo 0 hj).1;omega)]
    exact hy
   have hz2:∀ x,look (setO H 0 x) 0=some x:=fun x=>by rw [look_setO,if_pos rfl,hz];rfl
   by_cases hk0:ks.length=0
   ·rw [hk0,slt0] at ho hend
    repeat (refine PRun.wpn rfl ?_;simp only [SW,↓reduceIte,reduceCtorEq,Nat.reduceAdd,ltB_f hlt,ho,hz])
    refine .refl ⟨[.agg [.lit (.int .u8 (o:Nat)),.lit (.string nm),.lit (.slice none 0 0)]],by simp only [SW,hz2],Gh.treeEnd (π:=⟨nx,_⟩) (hst _) fun H' q1 q2=>⟨_,rfl,hend H' q1 q2⟩⟩
   ·rw [sltN hk0] at ho hend
    repeat (refine PRun.wpn rfl ?_;simp only [SW,↓reduceIte,reduceCtorEq,Nat.reduceAdd,ltB_f hlt,ho,hz])
    refine .refl ⟨[.agg [.lit (.int .u8 (o:Nat)),.lit (.string nm),.loc lid 0 ks.length ks.length]],by simp only [SW,hz2],Gh.treeEnd (π:=⟨nx,_⟩) (hst _) fun H' q1 q2=>⟨_,rfl,hend H' q1 q2⟩⟩
end
end Go.Proofs.YtnpoloachkcadaaGreatDoor.Ai
namespace Go.Proofs.YtnpoloachkcadaaGreatDoor.Ai
set_option linter.unusedSimpArgs false
open Go
set_option linter.unusedSimpArgs false
set_option linter.unusedVariables false
set_option linter.unusedSectionVars false
mutual
noncomputable def Fm.rput (pl:ByteArray→Option Fm):Fm→Fm
 | .mk o n ks=>if o=3 then (match pl n with | some b=>b | none=>.mk o n (rputs pl ks)) else .mk o n (rputs pl ks)
noncomputable def rputs (pl:ByteArray→Option Fm):List Fm→List Fm
 | []=>[]
 | k::ks=>k.rput pl::rputs pl ks
end
theorem rputs_len (pl:ByteArray→Option Fm):∀ ks:List Fm,(rputs pl ks).length=ks.length
 | []=>by simp [rputs]
 | k::ks=>by simp [rputs,rputs_len pl ks]
theorem rputs_app (pl:ByteArray→Option Fm):∀ a b:List Fm,rputs pl (a++b)=rputs pl a++rputs pl b
 | [],b=>by simp [rputs]
 | k::a,b=>by simp [rputs,rputs_app pl a b]
theorem formed_kids0 {tk:Nat→Bool} {n:ByteArray} {ks:List Fm} (h:(Fm.mk 3 n ks).formed tk):ks=[]:=by
 simp only [Fm.formed] at h
 have:=h.2.2.1
 simp only [kt,List.getD_cons_succ,List.getD_cons_zero] at this
 exact List.length_eq_zero_iff.1 (by omega)
mutual
theorem rput_repl {pl:ByteArray→Option Fm} {tk:Nat→Bool}:∀ f:Fm,f.formed tk→f.rput pl=f.repl (fun p=>match pl p.name with | some b=>b | none=>p)
 | .mk o n ks,h=>by
  by_cases h3:o=3
  ·subst h3
   have:=formed_kids0 h
   subst this
   simp only [Fm.rput,Fm.repl,rputs,if_true,Fm.name]
  ·have hh:=h
   simp only [Fm.formed] at hh
   simp only [Fm.rput,Fm.repl,if_neg h3,hh.2.2.2.2.2.1 h3,rputs_repls ks hh.2.2.2.2.2.2]
theorem rputs_repls {pl:ByteArray→Option Fm} {tk:Nat→Bool}:∀ ks:List Fm,formeds tk ks→rputs pl ks=repls (fun p=>match pl p.name with | some b=>b | none=>p) ks
 | [],_=>rfl
 | k::ks,h=>by
  simp only [formeds] at h
  simp only [rputs,repls,rput_repl k h.1,rputs_repls ks h.2]
end
open Classical in
mutual
noncomputable def Fm.cnt (nm:ByteArray):Fm→Nat
 | .mk o n ks=>(if o=3∧n=nm then 1 else 0) + cnts nm ks
noncomputable def cnts (nm:ByteArray):List Fm→Nat
 | []=>0
 | k::ks=>k.cnt nm + cnts nm ks
end
mutual
theorem gs_cnt {tk:Nat→Bool} (nm:ByteArray) (s:Nat):∀ f:Fm,f.formed tk→((f.gs nm s:Nat):Int)=(f.size:Nat) + (f.cnt nm:Nat) * ((s:Nat) - 1:Int)
 | .mk o n ks,h=>by
  by_cases h3:o=3∧n=nm
  ·obtain ⟨rfl,rfl⟩:=h3
   have:=formed_kids0 h
   subst this
   simp only [Fm.gs,Fm.size,Fm.cnt,cnts,sizes,and_self,if_true]
   simp
   omega
  ·have hh:=h
   simp only [Fm.formed] at hh
   have:=gss_cnt nm s ks hh.2.2.2.2.2.2
   simp only [Fm.gs,Fm.size,Fm.cnt,if_neg h3]
   push_cast
   rw [this,Int.zero_add];omega
theorem gss_cnt {tk:Nat→Bool} (nm:ByteArray) (s:Nat):∀ ks:List Fm,formeds tk ks→((gss nm s ks:Nat):Int)=(sizes ks:Nat) + (cnts nm ks:Nat) * ((s:Nat) - 1:Int)
 | [],_=>by simp [gss,sizes,cnts]
 | k::ks,h=>by
  simp only [formeds] at h
  have h1:=gs_cnt nm s k h.1
  have h2:=gss_cnt nm s ks h.2
  simp only [gss,sizes,cnts]
  push_cast
  rw [h1,h2,Int.add_mul];omega
end
mutual
theorem gd_put {tk:Nat→Bool} (nm:ByteArray) (b:Fm):∀ f:Fm,f.formed tk→f.gd nm b.depth=(f.repl (putG nm b)).depth
 | .mk o n ks,h=>by
  by_cases h3:o=3
  ·subst h3
   have:=formed_kids0 h
   subst this
   by_cases h4:n=nm
   ·subst h4
    simp only [Fm.gd,Fm.repl,putG,Fm.name,and_self,if_true]
   ·simp only [Fm.gd,Fm.repl,putG,Fm.name,if_true,h4,and_false,if_false,Fm.depth,gds,depths]
  ·have hh:=h
   simp only [Fm.formed] at hh
   simp only [Fm.gd,Fm.repl,h3,false_and,if_false,Fm.depth,gds_put nm b ks hh.2.2.2.2.2.2]
theorem gds_put {tk:Nat→Bool} (nm:ByteArray) (b:Fm):∀ ks:List Fm,formeds tk ks→gds nm b.depth ks=depths (repls (putG nm b) ks)
 | [],_=>by simp [gds,repls,depths]
 | k::ks,h=>by
  simp only [formeds] at h
  simp only [gds,repls,depths,gd_put nm b k h.1,gds_put nm b ks h.2]
end
open Classical in
noncomputable def plP (nm:ByteArray) (b:Fm) (n:ByteArray):Option Fm:=if n=nm then some b else none
noncomputable def rputE (f:Fm) (nm:ByteArray) (b:Fm):Fm × Int:=
 if yesB (f.formed fun _=>true)=true∧yesB (b.formed fun _=>true)=true∧yesB (nameOK nm)=true then
  (if ltB 1000 ((f.size:Nat) + (f.cnt nm:Nat) * ((b.size:Nat) - 1))=true then (.mk 0 ⟨#[]⟩ [],31)
   else if ltB 100 ((f.rput (plP nm b)).depth:Nat)=true then (.mk 0 ⟨#[]⟩ [],31) else (f.rput (plP nm b),0)) else (.mk 0 ⟨#[]⟩ [],30)
end Go.Proofs.YtnpoloachkcadaaGreatDoor.Ai
namespace Go.Proofs.YtnpoloachkcadaaGreatDoor.Ai
set_option linter.unusedSimpArgs false
open Go
set_option linter.unusedVariables false
set_option linter.unusedSectionVars false
set_option maxRecDepth 10000
set_option maxHeartbeats 1000000
section
variable {C:Ctx} (hm:C.P.follows .mixedOrders=true) (hC:TabOK C.P C.ng C.ts Tryz.tab)
include hm hC
end
end Go.Proofs.YtnpoloachkcadaaGreatDoor.Ai
namespace Go.Proofs.YtnpoloachkcadaaGreatDoor.Ai
set_option linter.unusedSimpArgs false
open Go
set_option linter.unusedVariables false
set_option linter.unusedSectionVars false
set_option maxRecDepth 10000
set_option maxHeartbeats 1000000
def MkTE (f:Fm) (x:Int) (r:PV) (π1:PW):Prop:=∃ r0,r = .tup [r0,.lit (.int .i64 x)]∧MkT false f r0 π1
theorem mkTE_free {f:Fm} {x:Int} {r:PV} {π1:PW} (h:MkTE f x r π1):FreeW r π1:=by
 obtain ⟨r0,rfl,h⟩:=h
 have:=mkT_free h
 exact ⟨by simp only [freePv,freeLv,this.1,Bool.and_self],this.2⟩
theorem mkT_zero (nx:Nat) (H':List (Nat × PObj)) (h:∀ i o,look H' i=some o→i∈(Mt.mk false 0 ⟨#[]⟩ 0 []).ids):MkT false (.mk 0 ⟨#[]⟩ []) (.agg [.lit (.int .u8 0),.lit (.string ⟨#[]⟩),.lit (.slice none 0 0)]) ⟨nx,H'⟩:=
 ⟨.mk false 0 ⟨#[]⟩ 0 [],⟨rfl,trivial⟩,rfl,rfl,by simp [InH,InHL],by simp [Mt.ids,idsL],h⟩
theorem in_zero (nx:Nat) (H:List (Nat × PObj)):InH H nx (.mk false 0 ⟨#[]⟩ 0 []):=by simp [InH,InHL]
theorem PMk.treeE {C:Ctx} {fn:FuncId} {args args0:List PV} {f:Fm} {x:Int} {π:PW} {b:Nat} {e:List PV} (h:PMk C fn args0 (MkTE f x)) (hp:pureL args0=true) (hl:LendsL π args args0) {B:PV→PW→Prop}
  (hB:∀ t nx' H',NewT false f π.next π.heap t nx' H'→B (.tup [mtP t,.lit (.int .i64 x)]) ⟨nx',H'⟩) (hb:b≤π.next:=by exact Nat.zero_le _):PToE C b e fn args π B:=
 h.lent (fun _ _=>mkTE_free) hp (Gh.lends hl) (fun r π1 hr=>by
  obtain ⟨r0,rfl,hr⟩:=hr
  obtain ⟨t,e,hn⟩:=hr.new (π:=π)
  simp only [shP,shL,e];exact hB t _ _ hn) hb
section
variable {C:Ctx} (hm:C.P.follows .mixedOrders=true) (hC:TabOK C.P C.ng C.ts Tryz.tab)
include hm hC
end
end Go.Proofs.YtnpoloachkcadaaGreatDoor.Ai
namespace Go.Proofs.YtnpoloachkcadaaGreatDoor.Ai
set_option linter.unusedSimpArgs false
open Go
set_option linter.unusedVariables false
set_option linter.unusedSectionVars false
set_option maxRecDepth 10000
set_option maxHeartbeats 2000000
theorem sltT (id n:Nat):slt true id n = .loc id 0 n (n + 1):=rfl
structure GR (lo:Nat) (H:List (Nat × PObj)) (nx lid n:Nat) (ts:List Mt):Prop where
 lst:lo≤lid∧lid < nx∧look H lid=some (.cells (mL ts++zs (n + 1 - ts.length)) 27 3 true false [])
 trs:InHL H nx ts
 rm:rmIL true ts
 nd:(idsL ts).Nodup
 lo:∀ i∈idsL ts,lo≤i∧i ≠ lid
theorem GR.snoc {lo:Nat} {H H1 H':List (Nat × PObj)} {nx nx1 nx' lid n:Nat} {ts:List Mt} {t:Mt} {f:Fm} (h:GR lo H nx lid n ts) (hlo:lo≤nx) (ht:NewT true f nx H t nx1 H1) (hl':nx1≤nx')
  (hc:look H' lid=some (.cells (mL (ts++[t])++zs (n + 1 - (ts.length + 1))) 27 3 true false [])) (hk:∀ i o,i ≠ lid→i < nx1→look H1 i=some o→look H' i=some o):GR lo H' nx' lid n (ts++[t]):=by
 have hn:=ht.nn
 have hold:∀ i∈idsL ts,i < nx:=h.trs.lt
 obtain ⟨l1,l2,l3⟩:=h.lst
 refine ⟨⟨l1,by omega,by rw [List.length_append];exact hc⟩,InHL_app.2 ⟨h.trs.keep (by omega) fun i hi o ho=>hk i o (h.lo i hi).2 (by have:=hold i hi;omega) (by rw [ht.old i (hold i hi)];exact ho),⟨ht.inn.keep (by omega) fun i hi o ho=>hk i o (fun e=>by
  have:=ht.lo i hi;omega) (ht.inn.lt i hi) ho,trivial⟩⟩,rmIL_app.2 ⟨h.rm,ht.rm,trivial⟩,?_,fun i hi=>?_⟩
 ·rw [idsL_app]
  refine List.nodup_append.2 ⟨h.nd,by simpa [idsL] using ht.nd,fun a ha c hc e=>?_⟩
  subst e
  simp only [idsL,List.append_nil] at hc
  have:=hold a ha;have:=ht.lo a hc;omega
 ·rw [idsL_app,List.mem_append] at hi
  rcases hi with hi | hi
  ·exact h.lo i hi
  ·simp only [idsL,List.append_nil] at hi
   have:=ht.lo i hi
   exact ⟨by omega,by omega⟩
theorem GR.keep {lo:Nat} {H H':List (Nat × PObj)} {nx nx' lid n:Nat} {ts:List Mt} (h:GR lo H nx lid n ts) (hn:nx≤nx') (hk:∀ i o,i < nx→look H i=some o→look H' i=some o):GR lo H' nx' lid n ts:=
 ⟨⟨h.lst.1,by have:=h.lst.2.1;omega,hk _ _ h.lst.2.1 h.lst.2.2⟩,h.trs.keep hn fun i hi o ho=>hk i o (h.trs.lt i hi) ho,h.rm,h.nd,h.lo⟩
def MkS (fs:List Fm) (r:PV) (π1:PW):Prop:=MkT true (.mk 0 ⟨#[]⟩ fs) (.agg [.lit (.int .u8 0),.lit (.string ⟨#[]⟩),r]) π1
theorem mkS_free {fs:List Fm} {r:PV} {π1:PW} (h:MkS fs r π1):FreeW r π1:=by
 have:=mkT_free h
 simp only [SW,FreeW,freePv,freeLv] at this
 exact this
theorem MkS.new {fs:List Fm} {r:PV} {π1 π:PW} (h:MkS fs r π1):∃ lid ts,shP π.next r = .loc lid 0 ts.length (ts.length + 1)∧NewT true (.mk 0 ⟨#[]⟩ fs) π.next π.heap (.mk true 0 ⟨#[]⟩ lid ts) (π.with π1).next (π.with π1).heap:=by
 obtain ⟨t,h1,h2⟩:=MkT.new (π:=π) h
 obtain ⟨rm,o,n,lid,ts⟩:=t
 obtain ⟨rfl,h4⟩:=h2.rm
 have h3:=h2.fm
 simp only [Mt.fm,Fm.mk.injEq] at h3
 obtain ⟨rfl,rfl,h5⟩:=h3
 simp only [shP,shL,mtP,mC,PV.agg.injEq,List.cons.injEq,and_true,true_and] at h1
 exact ⟨lid,ts,h1.2,h2⟩
theorem PDE.treeS {C:Ctx} {fn:FuncId} {args0:List PV} {fs:List Fm} {π:PW} {b:Nat} {l:List IOper} {fin:DStage} {st:List DStage} {S:List Nat} {e:List PV} {Q:List PV→PW→Prop} {as:List Opd} {d:Option Nat} (h:PMk C fn args0 (MkS fs)) (hp:pureL args0=true) (hl:LendsL π (evsP C.G e as) args0)
  (hB:∀ lid ts nx' H',NewT true (.mk 0 ⟨#[]⟩ fs) π.next π.heap (.mk true 0 ⟨#[]⟩ lid ts) nx' H'→PDraw C b l fin st (S.filter (freeJ l d)) (putP e d (.loc lid 0 ts.length (ts.length + 1))) ⟨nx',H'⟩ Q) (hb:b≤π.next:=by exact Nat.zero_le _):PDE C b l fin st S (.call fn as) d e π Q:=
 PDE.mk h (fun _ _=>mkS_free) hp (Gh.lends hl) (fun r π1 hr=>by
  obtain ⟨lid,ts,e,hn⟩:=hr.new (π:=π)
  rw [e];exact hB lid ts _ _ hn) hb
theorem NewT.rename {rb:Bool} {o o' lid nx nx':Nat} {n n':ByteArray} {fs:List Fm} {ts:List Mt} {H H':List (Nat × PObj)} (h:NewT rb (.mk o n fs) nx H (.mk rb o n lid ts) nx' H'):NewT rb (.mk o' n' fs) nx H (.mk rb o' n' lid ts) nx' H':=by
 have h3:=h.fm
 simp only [Mt.fm,Fm.mk.injEq,true_and] at h3
 exact ⟨h.rm,by simp only [Mt.fm,h3],h.inn,h.nd,h.lo,h.nn,h.old⟩
section
variable {C:Ctx} (hm:C.P.follows .mixedOrders=true) (hC:TabOK C.P C.ng C.ts Tryz.tab)
include hm hC
theorem lents_m (ks:List Fm) (hl:ks.length < 2 ^ 38) (hk:∀ (i:Nat) (k:Fm),ks[i]? = some k→PMk C 16 [fP k] (MkT true k)):PMk C 57 [.sz (fL ks) ks.length] (MkS ks):=by
 have w0:IntKind.i64.wrap (((ks.length:Nat):Int) + 1)=((ks.length + 1:Nat):Int):=by rw [wrap64 (by omega) (by omega)];omega
 have m1:(0:Int)≤((ks.length + 1:Nat):Int):=by omega
 have m2:((ks.length + 1:Nat):Int) * ((48:Nat):Int)≤140737488355328:=by omega
 have m2':((ks.length + 1:Nat):Int) * 48≤140737488355328:=by omega
 have m3:((ks.length + 1:Nat):Int)≤140737488355328:=by omega
 refine PMk.body2 hm hC (show Tryz.tab.get 57=some Tryz.c57 from rfl) ?_
 simp only [SW,Tryz.c57,startP,Nat.reduceAdd,Nat.reduceSub,List.replicate]
 repeat (refine PRun.wpn rfl ?_;simp only [SW,↓reduceIte,reduceCtorEq,w0,m1,m2,m3])
 refine PRun.gh (Gh.mask mkPuB2 ?_)
 simp only [mkPuB2,↓reduceIte,Bool.false_eq_true,maskP]
 refine PRun.loopG (fun m t π=>∃ (i nx:Nat) (H:List (Nat × PObj)) (ts:List Mt),t=(.sz (fL ks) ks.length::.junk::.junk::.loc 0 0 i (ks.length + 1)::.lit (.int .i64 (i:Nat))::.junk::.junk::.junk::.junk::.junk::.junk::.junk::.junk::.junk::.junk::.junk::.junk::.junk::.junk::.junk::.junk::.junk::.junk::.junk::.junk::.junk::.junk::.junk::.junk::.junk::.junk::.junk::[])∧i≤ks.length∧m=ks.length - i∧π=⟨nx,H⟩∧1≤nx∧fms ts=ks.take i∧GR 0 H nx 0 ks.length ts) ?_ ks.length _ _ ⟨0,1,_,[],rfl,by omega,rfl,rfl,by omega,rfl,⟨by omega,by omega,rfl⟩,trivial,trivial,.nil,fun i hi=>by simp [idsL] at hi⟩
 rintro m t π ⟨i,nx,H,ts,rfl,hi,rfl,rfl,hnx,hts,hG⟩
 have htl:=fms_take_len hts hi
 obtain ⟨_,l2,l3⟩:=hG.lst
 rw [htl] at l3
 have hq3:(mL ts).length=i * 3:=by rw [mL_len,htl]
 by_cases hlt:(i:Int) < (ks.length:Nat)
 ·obtain ⟨k,hki⟩:∃ k,ks[i]? = some k:=⟨ks[i]'(by omega),List.getElem?_eq_getElem (by omega)⟩
  have hcut:=fL_cut hki
  have hc:=hk i k hki
  have hz:zs (ks.length + 1 - i)=zC++zs (ks.length + 1 - (i + 1)):=by rw [← zs_succ];congr 1;omega
  have q1:i + 1≤ks.length + 1:=by omega
  have w1:IntKind.i64.wrap (((i:Nat):Int) + 1)=((i + 1:Nat):Int):=by rw [wrap64 (by omega) (by omega)];omega
  have hkf:∀ t:Mt,t.fm=k→fms (ts++[t])=ks.take (i + 1):=fun t ht=>fms_take hts hki ht
  obtain ⟨o',nm',ks'⟩:=k
  simp only [fP,fC] at hc hcut
  repeat (refine PRun.wpn rfl ?_;simp only [SW,↓reduceIte,ltB_t hlt,hlt,hcut])
  refine .refl (PMk.tree hc rfl (LendsL.pure rfl) fun t nx1 H1 ht=>POps.wp ?_)
  have hnn:=ht.nn
  dsimp only at ht hnn
  have l4:=(ht.old 0 (by omega)).trans l3
  have hsp:=splice_at (mL ts) zC (mC t) (zs (ks.length + 1 - (i + 1))) (i * 3) hq3 (by rw [mC_len];rfl)
  have hml:mL (ts++[t])=mL ts++mC t:=by rw [mL_app];simp [mL]
  rw [← hz,← List.append_assoc,← hml] at hsp
  have hsn:=fun nx' H'=>hG.snoc (nx':=nx') (H':=H') (by omega) ht
  rw [htl] at hsn
  have hfm:=hkf t ht.fm
  have hpl:=plain_mC t
  have hq3':(mC t).length=3:=mC_len t
  have hmt0:mtP t = .agg (mC t):=rfl
  rw [hmt0]
  generalize mC t=mc at hpl hq3' hsp ⊢
  match mc,hq3' with
  | [c0,c1,c2],_=>
  simp only [allPlain,Bool.and_true,Bool.and_eq_true] at hpl
  obtain ⟨p0,p1,p2⟩:=hpl
  simp only [plainP,isCell] at p0 p1 p2
  have e1:¬ (0:Nat)=nx1:=by omega
  simp only [wo_n,wo_append,onN_s,ble0,pv_t,ov_nil,ov_cons,ov_int,ov_str,ov_nilS,put_some,pevN,pevE,getP,setP,lenP,srcP,appendP,fillP,spliceP,overP,plainP,isCell,look,PW.cs?,PW.push,cut0,cutS,List.length_cons,List.length_nil,List.drop_zero,Option.map_some,Option.bind_some,Bool.and_true,↓reduceIte,reduceCtorEq,ltL,lt,Nat.reduceAdd,Nat.reduceMul,Nat.zero_add,allPlain,PW.wr,setO,killO,Bool.false_or,List.length_cons,List.length_nil,q1,l4,e1,hsp,Nat.zero_add]
  simp only [p0,p1,p2,wo_nil,wo_p,onO_s,onE_s,pv_t,put_some,pevP,getP,setP,Option.map_some,Bool.and_true,↓reduceIte,Bool.false_eq_true,Bool.not_true]
  repeat (refine PRun.wpn rfl ?_;simp only [SW,w1])
  refine Gh.mask mkPuB2 ?_
  refine ⟨ks.length - (i + 1),by omega,i + 1,_,_,ts++[t],rfl,by omega,rfl,rfl,by omega,hfm,hsn _ _ (by omega) ?_ fun j x a1 a2 a3=>?_⟩
  ·rw [look_ne (by omega),look_setO,if_pos rfl,l4];rfl
  ·rw [look_ne (by omega),look_setO,if_neg a1];exact a3
 ·have hil:i=ks.length:=by omega
  have hz:zs (ks.length + 1 - i)=zC++[]:=by rw [show ks.length + 1 - i=0 + 1 by omega,zs_succ];rfl
  have hsp:=splice_at (mL ts) zC ownC [] (ks.length * 3) (by rw [hq3,hil]) rfl
  rw [← hz,List.append_nil] at hsp
  have q0:ks.length + 1≤ks.length + 1:=Nat.le_refl _
  have q1:¬ ks.length + 1=0:=by omega
  have q2:((ks.length:Nat):Int)≤((ks.length + 1:Nat):Int):=by omega
  have hown:ownC=[.lit (.int .u8 0),.lit (.string ⟨#[116,104,101,32,111,119,110,101,114,39,115]⟩),.lit (.slice none 0 0)]:=rfl
  rw [hil,List.take_length] at hts
  rw [hown] at hsp
  subst hil
  have e1:¬ (0:Nat)=nx:=by omega
  repeat (refine PRun.wpn rfl ?_;simp only [SW,↓reduceIte,reduceCtorEq,Nat.reduceAdd,Nat.reduceMul,ltB_f hlt,l3,hsp,q0,q1,q2,e1,Nat.zero_mul])
  refine .refl ⟨_,rfl,Gh.treeEnd (t:=.mk true 0 ⟨#[]⟩ 0 ts) (π:=⟨nx + 1,_⟩) ?_ fun H' q1 q2=>⟨_,rfl,.mk true 0 ⟨#[]⟩ 0 ts,⟨rfl,hG.rm⟩,by simp only [Mt.fm,hts],by simp only [mtP,mC,htl];rfl,q1,?_,q2⟩⟩
  ·simp only [InH]
   refine ⟨fun _=>⟨by omega,true,fun _=>rfl,?_⟩,hG.trs.keep (by omega) fun j hj y hy=>?_⟩
   ·rw [look_ne (by omega),look_setO,if_pos rfl,l3];rfl
   ·have:=hG.lo j hj;have:=hG.trs.lt j hj
    rw [look_ne (by omega),look_setO,if_neg (by omega)];exact hy
  ·simp only [Mt.ids,true_or,if_true,List.singleton_append]
   exact List.nodup_cons.2 ⟨fun hi=>(hG.lo _ hi).2 rfl,hG.nd⟩
theorem lent_m:∀ (n:Nat) (f:Fm),f.size≤n→n < 2 ^ 38→PMk C 16 [fP f] (MkT true f):=by
 intro n
 induction n with
 | zero=>intro f h;have:=f.size_pos;omega
 | succ n ih=>
  intro f hf hn
  obtain ⟨o,nm,ks⟩:=f
  simp only [Fm.size] at hf
  have hlen:=len_sizes ks
  have hl:=lents_m hm hC ks (by omega) fun i k hk=>by
   have:=size_kid hk
   exact ih k (by omega) (by omega)
  refine PMk.body2 hm hC (show Tryz.tab.get 16=some Tryz.c16 from rfl) ?_
  simp only [SW,Tryz.c16,startP,Nat.reduceAdd,Nat.reduceSub,List.replicate,fP,fC]
  repeat (refine PRun.wpn rfl ?_;simp only [SW,↓reduceIte,Nat.reduceAdd])
  refine PDraw.stage (Nat.zero_le _) rfl ?_
  try dsimp only
  simp only [SW,↓reduceIte,reduceCtorEq,Nat.reduceAdd]
  refine PDE.treeS hl rfl ?_ fun lid ts nx1 H1 hN=>?_
  ·exact LendsL.pure rfl
  have hN2:=hN.rename (o':=o) (n':=nm)
  dsimp only at hN2
  have hr1:=hN2.old 1 (by omega)
  have hlo:=hN2.lo
  simp only [look,if_true] at hr1
  have hst:∀ x,InH (setO H1 1 x) nx1 (.mk true o nm lid ts):=fun x=>hN2.inn.keep (Nat.le_refl _) fun j hj y hy=>by
   rw [look_setO,if_neg (fun e=>by have:=hlo j hj;omega)];exact hy
  have hz2:∀ x,look (setO H1 1 x) 1=some x:=fun x=>by rw [look_setO,if_pos rfl,hr1];rfl
  refine PDraw.stage (Nat.zero_le _) rfl ?_
  try dsimp only
  simp only [SW,↓reduceIte]
  refine PDE.ev (Nat.zero_le _) ?_
  simp only [SW,↓reduceIte,Nat.reduceAdd,hr1]
  refine PDraw.last (Nat.zero_le _) rfl ?_
  try dsimp only
  simp only [wx_nil]
  repeat (refine PRun.wpn rfl ?_;simp only [wp,or_true,true_and,reduceCtorEq])
  refine .refl ⟨[.agg [.lit (.int .u8 (o:Nat)),.lit (.string nm),.loc lid 0 ts.length (ts.length + 1)]],by simp only [SW,hz2],Gh.treeEnd (π:=⟨nx1,_⟩) (hst _) fun H' q1 q2=>⟨_,rfl,_,hN2.rm,hN2.fm,rfl,q1,hN2.nd,q2⟩⟩
end
end Go.Proofs.YtnpoloachkcadaaGreatDoor.Ai
namespace Go.Proofs.YtnpoloachkcadaaGreatDoor.Ai
set_option linter.unusedSimpArgs false
open Go
set_option linter.unusedVariables false
set_option linter.unusedSectionVars false
set_option maxRecDepth 10000
set_option maxHeartbeats 2000000
def spS:ByteArray:=⟨#[115,112,111,105,108,116]⟩
def spM:Mt:=.mk false 99 spS 0 []
def spC:List PV:=[.lit (.int .u8 99),.lit (.string ⟨#[115,112,111,105,108,116]⟩),.lit (.slice none 0 0)]
theorem spM_C:mC spM=spC:=rfl
def Mt.spoilt:Mt→Mt
 | .mk rm o n id ks=>.mk rm o n id (List.replicate ks.length spM)
def SpPost (nx:Nat) (H:List (Nat × PObj)) (t:Mt) (r:PV) (π':PW):Prop:=
 r=tupP []∧nx≤π'.next∧(∀ j,j < nx→j∉t.ids→look π'.heap j=look H j)∧InH π'.heap π'.next t.spoilt
theorem nm_ptr (b j o:Nat):nmP b (.ptr j o)=Nat.blt j b:=by simp only [nmP]
theorem nm_agg (b:Nat) (l:List PV):nmP b (.agg l)=nmL b l:=by simp only [nmP]
theorem nm_tup (b:Nat) (l:List PV):nmP b (.tup l)=nmL b l:=by simp only [nmP]
theorem nm_junk (b:Nat):nmP b .junk=true:=by simp only [nmP]
theorem nm_lit (b:Nat) (v:Value):nmP b (.lit v)=true:=by simp only [nmP]
theorem fms_map:∀ ks:List Mt,fms ks=ks.map Mt.fm
 | []=>rfl
 | k::ks=>by simp only [fms,List.map_cons,fms_map ks]
theorem nm_loc (b i o n c:Nat):nmP b (.loc i o n c)=Nat.blt i b:=by simp only [nmP]
theorem blt_t {a b:Nat} (h:a < b):Nat.blt a b=true:=by rw [Nat.blt_eq];exact h
theorem nm_mC {H:List (Nat × PObj)} {nx:Nat} {t:Mt} (h:InH H nx t):nmL nx (mC t)=true:=by
 obtain ⟨rm,o,n,id,ks⟩:=t
 simp only [InH] at h
 have hs:nmP nx (slt rm id ks.length)=true:=by
  unfold slt
  split
  ·rename_i hr
   rw [nm_loc];exact blt_t (h.1 (.inl hr)).1
  ·split
   ·rfl
   ·rename_i hk
    rw [nm_loc];exact blt_t (h.1 (.inr fun e=>hk (by rw [e];rfl))).1
 simp only [mC,nmL,hs,Bool.and_true]
 rfl
theorem in_spM (H:List (Nat × PObj)) (nx:Nat):∀ n,InHL H nx (List.replicate n spM)
 | 0=>trivial
 | n + 1=>by
  simp only [List.replicate_succ,InHL]
  exact ⟨by simp [spM,InH,InHL],in_spM H nx n⟩
theorem idsL_get:∀ {ks:List Mt} {i:Nat} {k:Mt},ks[i]? = some k→∀ j∈k.ids,j∈idsL ks
 | [],i,k,h,j,hj=>by simp at h
 | x::ks,0,k,h,j,hj=>by
  simp only [List.getElem?_cons_zero,Option.some.injEq] at h;subst h
  simp only [idsL,List.mem_append];exact .inl hj
 | x::ks,i + 1,k,h,j,hj=>by
  simp only [idsL,List.mem_append]
  exact .inr (idsL_get (i:=i) (by simpa using h) j hj)
theorem inL_get {H:List (Nat × PObj)} {nx:Nat}:∀ {ks:List Mt} {i:Nat} {k:Mt},InHL H nx ks→ks[i]? = some k→InH H nx k
 | [],i,k,_,h=>by simp at h
 | x::ks,0,k,hh,h=>by
  simp only [List.getElem?_cons_zero,Option.some.injEq] at h;subst h
  exact hh.1
 | x::ks,i + 1,k,hh,h=>inL_get (i:=i) hh.2 (by simpa using h)
theorem rmL_get {r:Bool}:∀ {ks:List Mt} {i:Nat} {k:Mt},rmIL r ks→ks[i]? = some k→k.rmI r
 | [],i,k,_,h=>by simp at h
 | x::ks,0,k,hh,h=>by
  simp only [List.getElem?_cons_zero,Option.some.injEq] at h;subst h
  exact hh.1
 | x::ks,i + 1,k,hh,h=>rmL_get (i:=i) hh.2 (by simpa using h)
theorem mL_drop:∀ (ks:List Mt) (i:Nat),(mL ks).drop (i * 3)=mL (ks.drop i)
 | ks,0=>by simp
 | [],i + 1=>by simp [mL]
 | k::ks,i + 1=>by
  simp only [mL,List.drop_succ_cons]
  rw [show (i + 1) * 3=(mC k).length + i * 3 by rw [mC_len];omega,← List.drop_drop,List.drop_left,mL_drop ks i]
theorem drop_get {ks:List Mt} {i:Nat} {k:Mt} (h:ks[i]? = some k):ks.drop i=k::ks.drop (i + 1):=by
 obtain ⟨hi,rfl⟩:=List.getElem?_eq_some_iff.1 h
 exact List.drop_eq_getElem_cons hi
theorem mL_cut {ks:List Mt} {ext:List PV} {i:Nat} {k:Mt} (h:ks[i]? = some k):cutP 3 ((mL ks++ext).drop (i * 3))=some (mC k):=by
 obtain ⟨hi,_⟩:=List.getElem?_eq_some_iff.1 h
 rw [List.drop_append_of_le_length (by rw [mL_len];omega),mL_drop,drop_get h]
 simp only [mL,List.append_assoc]
 exact cut_app (mC_len k)
section
variable {C:Ctx} (hm:C.P.follows .mixedOrders=true) (hC:TabOK C.P C.ng C.ts Tryz.tab)
include hm hC
theorem sames_of (ks:List Fm) (hl:ks.length < 2 ^ 38) (hk:∀ (i:Nat) (k:Fm),ks[i]? = some k→PFun C 31 [fP k,fP k] (.lit (.bool true))):PFun C 30 [.sz (fL ks) ks.length,.sz (fL ks) ks.length] (.lit (.bool true)):=by
 have e0:=neB_f (show ((ks.length:Nat):Int)=((ks.length:Nat):Int) from rfl)
 refine PFun.body hm hC (show Tryz.tab.get 30=some Tryz.c30 from rfl) rfl ?_
 simp only [SW,Tryz.c30,startP,Nat.reduceAdd,Nat.reduceSub,List.replicate]
 repeat (refine PRun.wpn rfl ?_;simp only [SW,↓reduceIte,reduceCtorEq,e0])
 refine PRun.gh (Gh.mask mkPuB3 ?_)
 simp only [mkPuB3,↓reduceIte,Bool.false_eq_true,maskP]
 refine PRun.loopG (fun m t π=>∃ i:Nat,t=(.sz (fL ks) ks.length::.sz (fL ks) ks.length::.junk::.junk::.junk::.lit (.int .i64 (i:Nat))::.junk::.junk::.junk::.junk::.junk::.junk::.junk::.junk::.junk::.junk::.junk::.junk::.junk::.junk::.junk::.junk::.junk::.junk::.junk::.junk::.junk::[])∧i≤ks.length∧m=ks.length - i∧π=⟨0,[]⟩) ?_ ks.length _ _ ⟨0,rfl,by omega,rfl,rfl⟩
 rintro m t π ⟨i,rfl,hi,rfl,rfl⟩
 by_cases hlt:(i:Int) < (ks.length:Nat)
 ·obtain ⟨k,hki⟩:∃ k,ks[i]? = some k:=⟨ks[i]'(by omega),List.getElem?_eq_getElem (by omega)⟩
  have hcut:=fL_cut hki
  have hc:=hk i k hki
  have w1:IntKind.i64.wrap (((i:Nat):Int) + 1)=((i + 1:Nat):Int):=by rw [wrap64 (by omega) (by omega)];omega
  obtain ⟨o',nm',ks'⟩:=k
  simp only [fP,fC] at hc hcut
  repeat (refine PRun.wpn rfl ?_;simp only [SW,↓reduceIte,ltB_t hlt])
  refine PDraw.stage (Nat.zero_le _) rfl ?_
  try dsimp only
  simp only [SW,↓reduceIte,Nat.reduceAdd,hlt,hcut]
  refine PDE.pure hc rfl ?_
  refine PDraw.last (Nat.zero_le _) rfl ?_
  try dsimp only
  simp only [SW]
  repeat (refine PRun.wpn rfl ?_;simp only [SW,↓reduceIte,w1])
  refine Gh.mask mkPuB3 ?_
  exact ⟨ks.length - (i + 1),by omega,i + 1,rfl,by omega,rfl,rfl⟩
 ·repeat (refine PRun.wpn rfl ?_;simp only [SW,↓reduceIte,reduceCtorEq,ltB_f hlt])
  exact .refl ⟨_,rfl,.refl _⟩
theorem same_ok:∀ (n:Nat) (f:Fm),f.size≤n→n < 2 ^ 38→PFun C 31 [fP f,fP f] (.lit (.bool true)):=by
 intro n
 induction n with
 | zero=>intro f h;have:=f.size_pos;omega
 | succ n ih=>
  intro f hf hn
  obtain ⟨o,nm,ks⟩:=f
  simp only [Fm.size] at hf
  have hlen:=len_sizes ks
  have hl:=sames_of hm hC ks (by omega) fun i k hk=>by
   have:=size_kid hk
   exact ih k (by omega) (by omega)
  refine PFun.body hm hC (show Tryz.tab.get 31=some Tryz.c31 from rfl) rfl ?_
  simp only [SW,Tryz.c31,startP,Nat.reduceAdd,Nat.reduceSub,List.replicate,fP,fC]
  repeat (refine PRun.wpn rfl ?_;simp only [SW,↓reduceIte,reduceCtorEq,Nat.reduceAdd,eqB_t (show ((o:Nat):Int)=(o:Nat) from rfl),eqS_t (show nm=nm from rfl)])
  refine .refl (PFun.to (hl) rfl (POps.wp ?_))
  simp only [SW]
  repeat (refine PRun.wpn rfl ?_;simp only [wp,or_true,true_and,reduceCtorEq])
  exact .refl ⟨_,rfl,.refl _⟩
theorem spoils_of (ks:List Mt) (hl:ks.length < 2 ^ 38) (hk:∀ (i:Nat) (k:Mt),ks[i]? = some k→k.rmI true→∀ nx H,InH H nx k→k.ids.Nodup→PToB C nx 45 [mtP k] ⟨nx,H⟩ (SpPost nx H k))
  (o:Nat) (nm:ByteArray) (id nx:Nat) (H:List (Nat × PObj)) (hr:rmIL true ks) (hin:InH H nx (.mk true o nm id ks)) (hnd:(Mt.mk true o nm id ks).ids.Nodup):PToB C nx 94 [.loc id 0 ks.length (ks.length + 1)] ⟨nx,H⟩ (SpPost nx H (.mk true o nm id ks)):=by
 have hin0:=hin
 simp only [InH] at hin
 obtain ⟨hid,ex,hex,hlist⟩:=hin.1 (.inl trivial)
 rw [hex trivial] at hlist
 have hids:(Mt.mk true o nm id ks).ids=id::idsL ks:=by simp only [Mt.ids,true_or,if_true,List.singleton_append]
 rw [hids] at hnd
 obtain ⟨hnd1,hnd2⟩:=List.nodup_cons.1 hnd
 have bnx:Nat.ble nx nx=true:=Nat.ble_eq_true_of_le (Nat.le_refl _)
 refine PToB.of_body hm hC (show Tryz.tab.get 94=some Tryz.c94 from rfl) ?_
 simp only [SW,Tryz.c94,startP,Nat.reduceAdd,Nat.reduceSub,List.replicate]
 repeat (refine PRun.wpn rfl ?_;simp only [SW,reduceCtorEq])
 refine PRun.gh (Gh.mask (true::false::true::false::false::false::false::false::false::false::false::false::false::false::false::false::false::false::[]) ?_)
 simp only [↓reduceIte,Bool.false_eq_true,maskP]
 refine PRun.loopG (fun m t π=>∃ (i nx':Nat) (H':List (Nat × PObj)),t=(.loc id 0 ks.length (ks.length + 1)::.junk::.lit (.int .i64 (i:Nat))::.junk::.junk::.junk::.junk::.junk::.junk::.junk::.junk::.junk::.junk::.junk::.junk::.junk::.junk::.junk::[])∧i≤ks.length∧m=ks.length - i∧π=⟨nx',H'⟩∧nx≤nx'∧look H' id=some (.cells (mL (List.replicate i spM)++(mL (ks.drop i)++ownC)) 27 3 true false [])∧InHL H' nx' (ks.drop i)∧∀ j,j < nx→j ≠ id→j∉idsL ks→look H' j=look H j) ?_ ks.length _ _ ⟨0,nx,H,rfl,by omega,rfl,rfl,by omega,hlist,hin.2,fun _ _ _ _=>rfl⟩
 rintro m t π ⟨i,nx',H',rfl,hi,rfl,rfl,hnx,hL,hI,hK⟩
 have hql:(mL (List.replicate i spM)).length=i * 3:=by rw [mL_len,List.length_replicate]
 by_cases hlt:(i:Int) < (ks.length:Nat)
 ·obtain ⟨k,hki⟩:∃ k,ks[i]? = some k:=⟨ks[i]'(by omega),List.getElem?_eq_getElem (by omega)⟩
  have hd:=drop_get hki
  rw [hd] at hL hI
  simp only [InHL,mL] at hI hL
  have hcut:cutP 3 ((mL (List.replicate i spM)++(mC k++mL (ks.drop (i + 1))++ownC)).drop (i * 3))=some (mC k):=by
   rw [← hql,List.drop_left,List.append_assoc]
   exact cut_app (mC_len k)
  have hsp:=splice_at (mL (List.replicate i spM)) (mC k) spC (mL (ks.drop (i + 1))++ownC) (i * 3) hql (by rw [mC_len];rfl)
  rw [← List.append_assoc (mC k)] at hsp
  have hrep:mL (List.replicate (i + 1) spM)=mL (List.replicate i spM)++spC:=by
   rw [List.replicate_succ',mL_app];simp only [mL,spM_C,List.append_nil]
  simp only [spC] at hsp
  have w1:IntKind.i64.wrap (((i:Nat):Int) + 1)=((i + 1:Nat):Int):=by rw [wrap64 (by omega) (by omega)];omega
  have hkn:k.ids.Nodup∧∀ j∈k.ids,j∉idsL (ks.drop (i + 1)):=by
   have h1:idsL ks=idsL (ks.take i)++(k.ids++idsL (ks.drop (i + 1))):=by
    have h2:ks=ks.take i++(k::ks.drop (i + 1)):=by rw [← hd,List.take_append_drop]
    conv=>lhs;rw [h2,idsL_app]
    simp only [idsL]
   rw [h1] at hnd2
   obtain ⟨_,h2,_⟩:=List.nodup_append.1 hnd2
   obtain ⟨h3,_,h4⟩:=List.nodup_append.1 h2
   exact ⟨h3,fun j hj hj2=>h4 j hj j hj2 rfl⟩
  have hc:=hk i k hki (rmL_get hr hki) nx' H' hI.1 hkn.1
  have hidk:id∉k.ids:=fun hh=>hnd1 (idsL_get hki id hh)
  have hnm:=nm_mC hI.1
  have hm0:mtP k = .agg (mC k):=rfl
  rw [hm0] at hc
  have hq3':(mC k).length=3:=mC_len k
  generalize mC k=mc at hcut hL hc hnm hq3' hsp
  match mc,hq3' with
  | [c0,c1,c2],_=>
  simp only [SW] at hL hcut hsp
  have n1:Nat.blt id nx'=true:=blt_t (by omega)
  simp only [nmL,Bool.and_true,Bool.and_eq_true] at hnm
  obtain ⟨n2,n3,n4⟩:=hnm
  repeat (refine PRun.wpn rfl ?_;simp only [SW,↓reduceIte,ltB_t hlt,hlt,hL,hcut])
  refine .refl ⟨hnx,PToE.mono (PToB.toE hc (by simp only [nmL,nm_ptr,nm_agg,nm_junk,nm_loc,n1,n2,n3,n4,nm_lit,Bool.and_self]) hnx) ?_⟩
  rintro r ⟨nx2,H2⟩ ⟨rfl,g1,g2,g3⟩
  dsimp only at g1 g2 g3
  have hL2:=(g2 id (by omega) hidk).trans hL
  have b2:Nat.ble nx nx2=true:=Nat.ble_eq_true_of_le (by omega)
  refine POps.wp ?_
  simp only [wo_nil,setP,tupP]
  repeat (refine PRun.wpn rfl ?_;simp only [SW,↓reduceIte,Nat.reduceAdd,hlt,hL2,hsp,w1,b2])
  refine Gh.mask (true::false::true::false::false::false::false::false::false::false::false::false::false::false::false::false::false::false::[]) ?_
  refine ⟨ks.length - (i + 1),by omega,i + 1,nx2,_,rfl,by omega,rfl,rfl,by omega,?_,?_,fun j h1 h2 h3=>?_⟩
  ·rw [look_setO,if_pos rfl,hL2,hrep]
   simp only [SW,spC,List.append_assoc]
  ·refine hI.2.keep g1 fun j hj y hy=>?_
   have hjk:j∉k.ids:=fun hh=>hkn.2 j hh hj
   have hjid:j ≠ id:=fun e=>hnd1 (by
    subst e
    have h2:ks=ks.take (i + 1)++ks.drop (i + 1):=(List.take_append_drop _ _).symm
    rw [h2,idsL_app];exact List.mem_append_right _ hj)
   rw [look_setO,if_neg hjid,g2 j (hI.2.lt j hj) hjk];exact hy
  ·rw [look_setO,if_neg h2,g2 j (by omega) (fun hh=>h3 (idsL_get hki j hh))];exact hK j h1 h2 h3
 ·have hil:i=ks.length:=by omega
  repeat (refine PRun.wpn rfl ?_;simp only [SW,↓reduceIte,ltB_f hlt])
  refine .refl ⟨_,rfl,rfl,hnx,fun j h1 h2=>hK j h1 (fun e=>h2 (by rw [hids,e];simp)) (fun e=>h2 (by rw [hids];exact List.mem_cons_of_mem _ e)),?_⟩
  subst hil
  simp only [Mt.spoilt,InH]
  rw [List.drop_length] at hL
  exact ⟨fun _=>⟨by omega,true,fun _=>rfl,hL⟩,in_spM _ _ _⟩
theorem spoil_m:∀ (n:Nat) (t:Mt),t.fm.size≤n→n < 2 ^ 38→t.rmI true→∀ nx H,InH H nx t→t.ids.Nodup→PToB C nx 45 [mtP t] ⟨nx,H⟩ (SpPost nx H t):=by
 intro n
 induction n with
 | zero=>intro t h;have:=t.fm.size_pos;omega
 | succ n ih=>
  intro t hf hn hr nx H hin hnd
  obtain ⟨rm,o,nm,id,ks⟩:=t
  obtain ⟨rfl,hrk⟩:=hr
  simp only [Mt.fm,Fm.size] at hf
  have hlen:=len_sizes (fms ks)
  rw [fms_len] at hlen
  have hbx:=fun o=>hin.keep (nx':=nx + 1) (H':=(nx,o)::H) (by omega) fun j hj y hy=>by
   rw [look_ne (by have:=hin.lt j hj;omega)];exact hy
  have hc:=fun ob=>spoils_of hm hC ks (by omega) (fun i k hk=>by
   have h1:(fms ks)[i]? = some k.fm:=by
    rw [fms_map,List.getElem?_map,hk];rfl
   have:=size_kid h1
   exact ih k (by omega) (by omega)) o nm id (nx + 1) ((nx,ob)::H) hrk (hbx ob) hnd
  have hid:=(hin.lt id (by simp [Mt.ids]))
  have n1:Nat.blt id (nx + 1)=true:=blt_t (by omega)
  have n2:Nat.blt nx (nx + 1)=true:=blt_t (by omega)
  refine PToB.of_body hm hC (show Tryz.tab.get 45=some Tryz.c45 from rfl) ?_
  simp only [SW,Tryz.c45,startP,Nat.reduceAdd,Nat.reduceSub,List.replicate,mtP,mC,sltT]
  have bnx:Nat.ble nx nx=true:=Nat.ble_eq_true_of_le (Nat.le_refl _)
  repeat (refine PRun.wpn rfl ?_;simp only [SW,↓reduceIte,reduceCtorEq])
  refine .refl ⟨show nx≤nx + 1 by omega,PToE.mono (PToB.toE (hc _) (by simp only [nmL,nm_ptr,nm_agg,nm_junk,nm_loc,n1,n2,nm_lit,Bool.and_self]) (by omega)) ?_⟩
  rintro r ⟨nx2,H2⟩ ⟨rfl,g1,g2,g3⟩
  dsimp only at g1 g2 g3
  refine POps.wp ?_
  simp only [wo_nil,setP,tupP]
  refine .refl ⟨_,rfl,rfl,by show nx≤nx2;omega,fun j h1 h2=>?_,g3⟩
  rw [g2 j (by omega) h2,look_ne (by omega)]
end
end Go.Proofs.YtnpoloachkcadaaGreatDoor.Ai
