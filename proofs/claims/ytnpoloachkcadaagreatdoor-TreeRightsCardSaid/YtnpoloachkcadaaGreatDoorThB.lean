/- A PART OF THE PROOF: a step of the proof that the law's code does what its contracts say, by an interpreter of the program's functions that is proved to be sound. -/
import Derived.Test.YtnpoloachkcadaaGreatDoorThA
import Derived.Test.YtnpoloachkcadaaGreatDoorPv3
import Derived.ChangeArms
import Derived.DataReads
namespace Go.Proofs.YtnpoloachkcadaaGreatDoor.Ai
open Go
set_option linter.unusedVariables false
set_option linter.unusedSectionVars false
structure FmT (P:Program) (tO:TypeId):Prop where
 u27:∃ fs:Array Field,P.underlying 27=some (.struct fs)∧fs.size=3∧fs.toList.map (·.type)=[tO,9,25]∧(∃ f,fs[0]? = some f∧f.type=tO∧f.offset=0)∧(∃ f,fs[1]? = some f∧f.type=9∧f.offset=1)∧(∃ f,fs[2]? = some f∧f.type=25∧f.offset=2)
 uO:P.underlying tO=some (.int .u8)
 u9:P.underlying 9=some .string
 u25:P.underlying 25=some (.slice 27)
 c27:P.cellsOf 27=3
 cO:P.cellsOf tO=1
 c9:P.cellsOf 9=1
 c25:P.cellsOf 25=1
 b27:0 < P.bytesOf 27
section
variable {H:Type} {enc:TypeId × Value→H} {P:Program} {ng:Nat} {ts:List TypeId} {W:World} {tO:TypeId}
def OpenAny (P:Program) (ng:Nat) (ts:List TypeId) (W:World) (vs:List Value) (ps:List PV):Prop:=
 ∀ σ μ I,Op P ng ts W σ μ I→Opens P ng ts W σ μ I vs ps
theorem OpenAny.nil:OpenAny P ng ts W [] []:=fun σ μ I h=>⟨σ,μ,I,[],h,.refl,rfl,by simp [RdL],rfl⟩
theorem OpenAny.append {vs ws:List Value} {ps qs:List PV} (h:OpenAny P ng ts W vs ps) (k:OpenAny P ng ts W ws qs):OpenAny P ng ts W (vs++ws) (ps++qs):=by
 intro σ μ I ho
 obtain ⟨σ1,μ1,I1,us1,o1,l1,c1,r1,t1⟩:=h σ μ I ho
 obtain ⟨σ2,μ2,I2,us2,o2,l2,c2,r2,t2⟩:=k σ1 μ1 I1 o1
 refine ⟨σ2,μ2,I2,us1++us2,o2,l1.trans l2,?_,(r1.mono l2.i (Eta.le_refl _)).append r2,ltL_append.2 ⟨ltL_mono l2.n _ t1,t2⟩⟩
 rw [concL_app,c2,concL_congr l2.m us1 t1,c1]
theorem OpenAny.lit {u:Value} (h:lt 0 u=true):OpenAny P ng ts W [u] [.lit u]:=fun σ μ I ho=>
 ⟨σ,μ,I,[u],ho,.refl,by simp [concL,conc_zero _ _ h],by simp only [RdL];exact ⟨rd_mk h,trivial⟩,by simp [ltL,lt_mono (Nat.zero_le _) _ h]⟩
theorem Addr.add_none {b o:Nat} (j:Nat):(⟨b,o,none⟩:Addr).add j=⟨b,o + j,none⟩:=by
 unfold Addr.add
 split
 ·rename_i h;subst h;rfl
 ·rfl
theorem cells3 {w:World} {a:Addr} {row:List Value} (hs:a.spot=none) (h:w.cells? 0 a 3=some row):∃ C t fr,w.heap[a.block]? = some (.cells C t fr)∧row=(C.toList.drop a.off).take 3∧a.off + 3≤C.size:=by
 obtain ⟨b,o,s⟩:=a
 simp only at hs;subst hs
 unfold World.cells? at h
 rw [if_pos (Nat.zero_le _)] at h
 have e:List.range 3=[0,1,2]:=rfl
 rw [e] at h
 simp only [List.mapM_cons,List.mapM_nil,Option.bind_eq_bind,Option.bind_eq_some_iff] at h
 obtain ⟨v0,h0,r0,⟨v1,h1,r1,⟨v2,h2,r2,h3,h4⟩,h5⟩,h6⟩:=h
 simp at h3 h4 h5 h6
 subst h3 h4 h5 h6
 obtain ⟨C,t,fr,hC,g0⟩:=cell_at (W:=w) (a:=⟨b,o,none⟩) rfl h0
 obtain ⟨C1,t1,fr1,hC1,g1⟩:=cell_at (W:=w) (a:=⟨b,o,none⟩) rfl h1
 obtain ⟨C2,t2,fr2,hC2,g2⟩:=cell_at (W:=w) (a:=⟨b,o,none⟩) rfl h2
 simp only at hC hC1 hC2 g0 g1 g2
 rw [hC] at hC1 hC2
 simp only [Option.some.injEq,Obj.cells.injEq] at hC1 hC2
 obtain ⟨rfl,_⟩:=hC1
 obtain ⟨rfl,_⟩:=hC2
 have q0:=Array.getElem?_eq_some_iff.1 g0
 have q1:=Array.getElem?_eq_some_iff.1 g1
 have q2:=Array.getElem?_eq_some_iff.1 g2
 obtain ⟨l2,e2⟩:=q2
 obtain ⟨l1,e1⟩:=q1
 obtain ⟨l0,e0⟩:=q0
 refine ⟨C,t,fr,hC,?_,by show o + 3≤C.size;omega⟩
 show [v0,v1,v2]=(C.toList.drop o).take 3
 have d0:=List.drop_eq_getElem_cons (l:=C.toList) (i:=o) (by simp;omega)
 have d1:=List.drop_eq_getElem_cons (l:=C.toList) (i:=o + 1) (by simp;omega)
 have d2:=List.drop_eq_getElem_cons (l:=C.toList) (i:=o + 1 + 1) (by simp;omega)
 rw [d0,d1,d2]
 simp only [List.take_succ_cons,List.take_zero,Array.getElem_toList]
 rw [← e0,← e1,← e2]
 rfl
theorem rows_flat (l:List Value):∀ n,(((List.range n).map fun i=>(l.drop (i * 3)).take 3).flatten)=l.take (n * 3)
 | 0=>by simp
 | n + 1=>by
  rw [List.range_succ,List.map_append,List.flatten_append,rows_flat l n]
  simp only [List.map_cons,List.map_nil,List.flatten_cons,List.flatten_nil,List.append_nil]
  rw [show (n + 1) * 3=n * 3 + 3 by omega,List.take_add]
theorem rows_open:∀ {rows:List (List Value)},(∀ r∈rows,∃ f:Fm,f.ok∧f.opsOK∧OpenAny P ng ts W r (fC f))→∃ gs:List Fm,gs.length=rows.length∧oks gs∧opsOKs gs∧OpenAny P ng ts W rows.flatten (fL gs)
 | [],_=>⟨[],rfl,trivial,trivial,by simpa [fL] using OpenAny.nil⟩
 | r::rows,h=>by
  obtain ⟨f,h1,h2,h3⟩:=h r (by simp)
  obtain ⟨gs,g1,g2,g3,g4⟩:=rows_open (rows:=rows) fun x hx=>h x (by simp [hx])
  exact ⟨f::gs,by simp [g1],⟨h1,g2⟩,⟨h2,g3⟩,by simp only [List.flatten_cons,fL];exact h3.append g4⟩
theorem oks_takeR {ks:List Fm} (h:opsOKs ks) (i:Nat):opsOKs (ks.take i):=by
 induction ks generalizing i with
 | nil=>simp [opsOKs]
 | cons x ks ih=>cases i with
  | zero=>simp [opsOKs]
  | succ i=>exact ⟨h.1,ih h.2 i⟩
theorem mem_weights {P:Program} {t:TypeId} {H:Type} {d:DataW H} {m:Nat} (hm:m∈d.weights P t):∀ {l:List (DataW H)},d∈l→m∈DataW.weightsAll P t l
 | [],h=>by simp at h
 | x::l,h=>by
  simp only [DataW.weightsAll,List.mem_append]
  rcases List.mem_cons.1 h with rfl | h
  ·exact .inl hm
  ·exact .inr (mem_weights hm h)
theorem kids_open (T:FmT P tO) (hb:∃ (b:Nat) (C:Array Value) (t:TypeId) (fr:Nat × Nat),W.heap[b]? = some (.cells C t fr)) {fuel:Nat} (ih:∀ n,n < fuel→∀ cs x,DataW.trod enc P W 0 (fun _=>true) true n 27 cs=some x→(∀ m∈x.1.weights P 27,m≤reachBytes)→∃ f:Fm,f.ok∧f.opsOK∧OpenAny P ng ts W cs (fC f))
  {v:Value} {x:DataW H × List MemPlace} (h:DataW.trod enc P W 0 (fun _=>true) true fuel 25 [v]=some x) (hw:∀ m∈x.1.weights P 25,m≤reachBytes):∃ ks:List Fm,ks.length < 2 ^ 50∧oks ks∧opsOKs ks∧OpenAny P ng ts W [v] [.sz (fL ks) ks.length]:=by
 rcases DataW.trod_slice T.u25 h with ⟨h1,_⟩ | ⟨a,len,cap,elems,rest,n,rfl,h1,hx,_,hlc,hcap,hel,hE,hR,_⟩
 ·simp at h1;subst h1
  refine ⟨[],by simp,trivial,trivial,fun σ μ I ho=>⟨σ,μ,I,[.slice none 0 0],ho,.refl,by simp [concL,conc],by simp only [RdL];exact ⟨by simp [Rd],trivial⟩,by simp [ltL,lt]⟩⟩
 ·simp at h1;subst h1
  have hreach:reachBytes < 2 ^ 50:=by decide
  by_cases hc0:cap=0
  ·have hl0:len=0:=by omega
   subst hc0 hl0
   refine ⟨[],by simp,trivial,trivial,fun σ μ I ho=>?_⟩
   obtain ⟨b0,C,t,fr,hC⟩:=hb
   obtain ⟨o1,l1⟩:=ho.skip ⟨a.block,0,0⟩
   obtain ⟨o2,l2⟩:=o1.add (blk:=b0) (off:=0) (us:=[]) rfl ⟨C,t,fr,hC,by simp,fun k v hk=>by simp at hk⟩
   refine ⟨_,_,_,[.slice (some ⟨σ.next,a.off,a.spot⟩) 0 0],o2,l1.trans l2,?_,?_,?_⟩
   ·have hμ:upd (upd μ σ.next ⟨a.block,0,0⟩) σ.bump.next ⟨b0,0,0⟩ σ.next=⟨a.block,0,0⟩:=by
     rw [l2.m σ.next (Nat.lt_succ_self _),upd_same]
    simp only [concL,conc,cAddr,hμ,Nat.zero_add,Nat.add_zero]
   ·simp only [RdL,Rd]
    exact ⟨.inl ⟨rfl,.inr ⟨_,σ.bump.next,[],rfl,Nat.le_succ _,by simp [Img.set]⟩⟩,trivial⟩
   ·simp [ltL,lt];exact Nat.lt_succ_of_lt (Nat.lt_succ_self _)
  ·
   have hrow:∀ i,i < cap→∃ row x',W.cells? 0 (a.add (i * 3)) 3=some row∧DataW.trod enc P W 0 (fun _=>true) true n 27 row=some x'∧∀ m∈x'.1.weights P 27,m≤reachBytes:=by
    intro i hi
    rw [T.c27] at hE
    obtain ⟨hr1,hr2⟩:=hR rfl
    rw [T.c27] at hr2
    by_cases hil:i < len
    ·have h2:=hE i hil
     rw [List.getElem?_eq_getElem (by omega),Option.bind_eq_some_iff] at h2
     obtain ⟨row,h3,h4⟩:=h2
     exact ⟨row,_,h3,h4,fun m hm=>hw m (by
      rw [hx];simp only [DataW.weights,T.u25,List.mem_cons,List.mem_append]
      exact .inr (.inl (mem_weights hm (List.mem_map_of_mem (List.getElem_mem _)))))⟩
    ·have h2:=hr2 (i - len) (by omega)
     rw [List.getElem?_eq_getElem (by omega),Option.bind_eq_some_iff] at h2
     obtain ⟨row,h3,h4⟩:=h2
     rw [show len + (i - len)=i by omega] at h3
     exact ⟨row,_,h3,h4,fun m hm=>hw m (by
      rw [hx];simp only [DataW.weights,T.u25,List.mem_cons,List.mem_append]
      exact .inr (.inr (mem_weights hm (List.mem_map_of_mem (List.getElem_mem _)))))⟩
   have hsp:a.spot=none:=by
    obtain ⟨row,_,h3,_,_⟩:=hrow 0 (by omega)
    unfold World.cells? at h3
    rw [if_pos (Nat.zero_le _)] at h3
    have e:List.range 3=[0,1,2]:=rfl
    rw [e] at h3
    simp only [List.mapM_cons,Option.bind_eq_bind,Option.bind_eq_some_iff] at h3
    obtain ⟨v0,h0,_⟩:=h3
    have:=World.cell?_spot h0
    simpa [Addr.add] using this
   obtain ⟨b,o,s⟩:=a
   simp only at hsp;subst hsp
   obtain ⟨row0,_,h30,_,_⟩:=hrow 0 (by omega)
   rw [Addr.add_none] at h30
   obtain ⟨C,t,fr,hC,_,_⟩:=cells3 rfl h30
   simp only at hC
   have hrow2:∀ i,i < cap→((C.toList.drop o).drop (i * 3)).take 3=((C.toList.drop o).drop (i * 3)).take 3∧o + i * 3 + 3≤C.size∧∃ x',DataW.trod enc P W 0 (fun _=>true) true n 27 (((C.toList.drop o).drop (i * 3)).take 3)=some x'∧∀ m∈x'.1.weights P 27,m≤reachBytes:=by
    intro i hi
    obtain ⟨row,x',h3,h4,h5⟩:=hrow i hi
    rw [Addr.add_none] at h3
    obtain ⟨C',t',fr',hC',he,hs⟩:=cells3 rfl h3
    simp only at hC' he hs
    rw [hC] at hC'
    simp only [Option.some.injEq,Obj.cells.injEq] at hC'
    obtain ⟨rfl,_⟩:=hC'
    refine ⟨rfl,hs,x',?_,h5⟩
    rw [List.drop_drop,← he];exact h4
   obtain ⟨gs,g1,g2,g3,g4⟩:=rows_open (P:=P) (ng:=ng) (ts:=ts) (W:=W) (rows:=(List.range cap).map fun i=>((C.toList.drop o).drop (i * 3)).take 3) (by
    intro r hr
    simp only [List.mem_map,List.mem_range] at hr
    obtain ⟨i,hi,rfl⟩:=hr
    obtain ⟨_,_,x',hx',hx2⟩:=hrow2 i hi
    exact ih n (Nat.lt_succ_self _) _ _ hx' hx2)
   rw [rows_flat] at g4
   simp at g1
   have hsz:=(hrow2 (cap - 1) (by omega)).2.1
   have htl:(gs.take len).length=len:=by rw [List.length_take];omega
   have hlw:len < 2 ^ 50:=by
    have:=hw ((elems.length + rest.length) * P.bytesOf 27) (by rw [hx];simp only [DataW.weights,T.u25,List.length_map,List.mem_cons,true_or])
    have h2:elems.length + rest.length≤(elems.length + rest.length) * P.bytesOf 27:=Nat.le_mul_of_pos_right _ T.b27
    omega
   refine ⟨gs.take len,by rw [htl];exact hlw,oks_take g2 len,oks_takeR g3 len,fun σ μ I ho=>?_⟩
   obtain ⟨σ1,μ1,I1,us,o1,l1,c1,r1,t1⟩:=g4 σ μ I ho
   have hul:us.length=cap * 3:=by
    have:=congrArg List.length c1
    rw [concL_len,List.length_take,List.length_drop] at this
    simp at this;omega
   obtain ⟨o2,l2⟩:=o1.add (blk:=b) (off:=o) (us:=us) t1 ⟨C,t,fr,hC,by omega,fun k v hk=>by
    have h1:(concL μ1 us)[k]? = some (conc μ1 v):=by rw [concL_eq,List.getElem?_map,hk];rfl
    rw [c1,List.getElem?_take] at h1
    split at h1
    ·rw [List.getElem?_drop] at h1;simpa using h1
    ·simp at h1⟩
   refine ⟨_,_,_,[.slice (some ⟨σ1.next,0,none⟩) len cap],o2,l1.trans l2,?_,?_,?_⟩
   ·simp [concL,conc,cAddr,upd_same]
   ·simp only [RdL,Rd]
    refine ⟨.inr ⟨σ1.next,0,cap,us,us.take (len * 3),us.drop (len * 3),by rw [htl],by rw [htl];exact hlc,by simp [Img.set],by simp,?_⟩,trivial⟩
    have hfl:fL (gs.take len)=(fL gs).take (len * 3):=by
     have e:=fL_app (gs.take len) (gs.drop len)
     rw [List.take_append_drop] at e
     rw [e,show len * 3=(fL (gs.take len)).length by rw [fL_len,htl],List.take_left]
    rw [hfl]
    exact (r1.take _).mono l2.i (Eta.le_refl _)
   ·simp [ltL,lt]
theorem fm_open (T:FmT P tO) (hb:∃ (b:Nat) (C:Array Value) (t:TypeId) (fr:Nat × Nat),W.heap[b]? = some (.cells C t fr)):∀ (fuel:Nat) (cs:List Value) (x:DataW H × List MemPlace),DataW.trod enc P W 0 (fun _=>true) true fuel 27 cs=some x→(∀ m∈x.1.weights P 27,m≤reachBytes)→∃ f:Fm,f.ok∧f.opsOK∧OpenAny P ng ts W cs (fC f):=by
 intro fuel
 induction fuel using Nat.strongRecOn with
 | ind fuel ih=>
  intro cs x h hw
  obtain ⟨fs,hu,hfs,hty,⟨f0,a0,a1,a2⟩,⟨f1,b0,b1,b2⟩,⟨f2,c0,c1,c2⟩⟩:=T.u27
  obtain ⟨xs,n,rfl,hx,hl,hxl,hf⟩:=DataW.trod_struct hu h
  rw [T.c27] at hl
  obtain ⟨v0,v1,v2,rfl⟩:∃ a b c,cs=[a,b,c]:=by
   match cs,hl with
   | [a,b,c],_=>exact ⟨a,b,c,rfl⟩
  have g0:=hf 0 f0 a0
  have g1:=hf 1 f1 b0
  have g2:=hf 2 f2 c0
  rw [a1,a2,T.cO,List.getElem?_eq_getElem (by omega)] at g0
  rw [b1,b2,T.c9,List.getElem?_eq_getElem (by omega)] at g1
  rw [c1,c2,T.c25,List.getElem?_eq_getElem (by omega)] at g2
  simp only [List.drop_zero,List.drop_succ_cons,List.take_succ_cons,List.take_zero] at g0 g1 g2
  obtain ⟨x0,x1,x2,rfl⟩:∃ a b c,xs=[a,b,c]:=by
   match xs,hxl.trans hfs with
   | [a,b,c],_=>exact ⟨a,b,c,rfl⟩
  simp only [List.getElem_cons_zero,List.getElem_cons_succ] at g0 g1 g2
  obtain ⟨o,hv0,_,hwf⟩:=DataW.trod_int T.uO g0
  obtain ⟨s,hv1,hx1,hs⟩:=DataW.trod_string T.u9 g1
  have hwx:∀ m,m∈x1.1.weights P 9∨m∈x2.1.weights P 25→m≤reachBytes:=fun m hm=>hw m (by
   rw [hx]
   simp only [DataW.weights,hu,hty,List.map_cons,List.map_nil,DataW.weightsEach,List.mem_append]
   rcases hm with hm | hm
   ·exact .inr (.inl hm)
   ·exact .inr (.inr (.inl hm)))
  have hsz:s.size≤reachBytes:=by
   have:=hwx s.data.toList.length (.inl (by rw [hx1];simp [DataW.weights]))
   rwa [ba_size] at this
  simp at hv0 hv1
  subst hv0 hv1
  have hreach:reachBytes < 2 ^ 50:=by decide
  obtain ⟨ks,k1,k2,k3,k4⟩:=kids_open (ng:=ng) (ts:=ts) T hb (fuel:=n) (fun m hm cs x hx hy=>ih m (by omega) cs x hx hy) g2 (fun m hm=>hwx m (.inr hm))
  have ho:0≤o∧o < 256:=by
   simp [Lit.wf,IntKind.min,IntKind.max,IntKind.signed,IntKind.bits] at hwf
   omega
  refine ⟨.mk o.toNat s ks,⟨by omega,k1,k2⟩,⟨by omega,k3⟩,?_⟩
  have e:fC (.mk o.toNat s ks)=[.lit (.int .u8 o)]++([.lit (.string s)]++[.sz (fL ks) ks.length]):=by
   simp only [fC,List.cons_append,List.nil_append]
   rw [Int.toNat_of_nonneg ho.1]
  rw [e]
  exact (OpenAny.lit (by simp [lt])).append ((OpenAny.lit (by simp [lt])).append k4)
end
end Go.Proofs.YtnpoloachkcadaaGreatDoor.Ai
namespace Go.Proofs.YtnpoloachkcadaaGreatDoor.Ai
open Go
set_option linter.unusedVariables false
set_option linter.unusedSectionVars false
def TR (a b c:Int):Prop:=(a≤0→b≤0→c≤0∧(a < 0∨b < 0→c < 0))∧(0≤a→0≤b→0≤c∧(0 < a∨0 < b→0 < c))
theorem TR.or {a b c a' b' c':Int} (h:TR a b c) (k:a=0→b=0→c=0→TR a' b' c'):TR (orZ a a') (orZ b b') (orZ c c'):=by
 have e:∀ x y:Int,(x=0∧orZ x y=y)∨(x ≠ 0∧orZ x y=x):=by
  intro x y
  unfold orZ
  by_cases hx:x=0
  ·exact .inl ⟨hx,by simp [neB_iff,hx]⟩
  ·exact .inr ⟨hx,by simp [neB_iff,hx]⟩
 rcases e a a' with ⟨h1,e1⟩ | ⟨h1,e1⟩ <;> rcases e b b' with ⟨h2,e2⟩ | ⟨h2,e2⟩ <;> rcases e c c' with ⟨h3,e3⟩ | ⟨h3,e3⟩ <;> rw [e1,e2,e3]
 ·exact k h1 h2 h3
 all_goals (unfold TR at *;omega)
theorem cmpZ_tr (a b c:Int):TR (cmpZ a b) (cmpZ b c) (cmpZ a c):=by
 unfold cmpZ TR
 simp only [ltB_iff]
 repeat' split
 all_goals simp <;> omega
theorem cmpB_tr:∀ a b c:List UInt8,TR (Go.Lib.compareBytes a b) (Go.Lib.compareBytes b c) (Go.Lib.compareBytes a c)
 | [],[],[]=>by simp [Go.Lib.compareBytes,TR]
 | [],[],_::_=>by simp [Go.Lib.compareBytes,TR]
 | [],_::_,[]=>by simp [Go.Lib.compareBytes,TR]
 | _::_,[],[]=>by simp [Go.Lib.compareBytes,TR]
 | _::_,_::_,[]=>by simp only [Go.Lib.compareBytes,TR];omega
 | [],_::_,_::_=>by simp only [Go.Lib.compareBytes,TR];omega
 | _::_,[],_::_=>by simp [Go.Lib.compareBytes,TR]
 | a::as,b::bs,c::cs=>by
  have ih:=cmpB_tr as bs cs
  simp only [Go.Lib.compareBytes,UInt8.lt_iff_toNat_lt]
  unfold TR at *
  repeat' split
  all_goals first | omega | simp_all
theorem cmpB_eq:∀ {a b:List UInt8},Go.Lib.compareBytes a b=0→a=b
 | [],[],_=>rfl
 | [],_::_,h=>by simp [Go.Lib.compareBytes] at h
 | _::_,[],h=>by simp [Go.Lib.compareBytes] at h
 | a::as,b::bs,h=>by
  simp only [Go.Lib.compareBytes,UInt8.lt_iff_toNat_lt] at h
  split at h
  ·simp at h
  ·split at h
   ·simp at h
   ·have:a=b:=UInt8.toNat_inj.1 (by omega)
    rw [this,cmpB_eq h]
theorem cmpZ_eq {a b:Int} (h:cmpZ a b=0):a=b:=by
 unfold cmpZ at h
 simp only [ltB_iff] at h
 split at h
 ·simp at h
 ·split at h
  ·simp at h
  ·omega
theorem orZ_eq {a b:Int} (h:orZ a b=0):a=0∧b=0:=by
 unfold orZ at h
 by_cases ha:a=0
 ·simp only [neB_iff,ha,ne_eq,not_true_eq_false,if_false] at h
  exact ⟨ha,h⟩
 ·simp only [neB_iff,ne_eq,ha,not_false_eq_true,if_true] at h
theorem cmpS_eq {a b:ByteArray} (h:cmpS a b=0):a=b:=by
 have:=cmpB_eq h
 obtain ⟨⟨a⟩⟩:=a;obtain ⟨⟨b⟩⟩:=b
 simp at this;subst this;rfl
mutual
theorem cmp_tr:∀ f g h:Fm,TR (f.cmp g) (g.cmp h) (f.cmp h)
 | .mk o n ks,.mk o' n' ks',.mk o2 n2 ks2=>by
  simp only [Fm.cmp]
  refine TR.or ?_ ?_
  ·exact (cmpZ_tr _ _ _).or fun _ _ _=>TR.or (cmpB_tr _ _ _) fun _ _ _=>cmpZ_tr _ _ _
  ·intro h1 h2 _
   have e1:=cmpZ_eq (orZ_eq (orZ_eq h1).2).2
   have e2:=cmpZ_eq (orZ_eq (orZ_eq h2).2).2
   exact cmps_tr ks ks' ks2 (by omega) (by omega)
theorem cmps_tr:∀ a b c:List Fm,a.length=b.length→b.length=c.length→TR (cmps a b) (cmps b c) (cmps a c)
 | [],[],[],_,_=>by simp [cmps,TR]
 | x::a,y::b,z::c,h1,h2=>by
  simp only [cmps]
  exact (cmp_tr x y z).or fun _ _ _=>cmps_tr a b c (by simpa using h1) (by simpa using h2)
 | [],_::_,_,h1,_=>by simp at h1
 | _::_,[],_,h1,_=>by simp at h1
 | [],[],_::_,_,h2=>by simp at h2
 | _::_,_::_,[],_,h2=>by simp at h2
end
mutual
theorem cmp_eq:∀ f g:Fm,f.cmp g=0→f=g
 | .mk o n ks,.mk o' n' ks',h=>by
  simp only [Fm.cmp] at h
  obtain ⟨h1,h2⟩:=orZ_eq h
  obtain ⟨h3,h4⟩:=orZ_eq h1
  obtain ⟨h5,h6⟩:=orZ_eq h4
  have e1:=cmpZ_eq h3
  have e2:=cmpS_eq h5
  have e3:=cmpZ_eq h6
  have e4:=cmps_eq ks ks' (by omega) h2
  have:o=o':=by omega
  rw [this,e2,e4]
theorem cmps_eq:∀ a b:List Fm,a.length=b.length→cmps a b=0→a=b
 | [],[],_,_=>rfl
 | x::a,y::b,h1,h=>by
  simp only [cmps] at h
  obtain ⟨h2,h3⟩:=orZ_eq h
  rw [cmp_eq x y h2,cmps_eq a b (by simpa using h1) h3]
 | [],_::_,h1,_=>by simp at h1
 | _::_,[],h1,_=>by simp at h1
end
theorem orZ_zero {a b:Int} (ha:a=0) (hb:b=0):orZ a b=0:=by
 subst ha hb
 simp [orZ]
theorem cmpB_refl:∀ a:List UInt8,Go.Lib.compareBytes a a=0
 | []=>rfl
 | a::as=>by simp only [Go.Lib.compareBytes,UInt8.lt_iff_toNat_lt,Nat.lt_irrefl,if_false];exact cmpB_refl as
theorem cmpZ_refl (a:Int):cmpZ a a=0:=by
 unfold cmpZ
 simp only [ltB_iff]
 rw [if_neg (by omega),if_neg (by omega)]
mutual
theorem cmp_refl:∀ f:Fm,f.cmp f=0
 | .mk o n ks=>by
  simp only [Fm.cmp]
  exact orZ_zero (orZ_zero (cmpZ_refl _) (orZ_zero (cmpB_refl _) (cmpZ_refl _))) (cmps_refl ks)
theorem cmps_refl:∀ a:List Fm,cmps a a=0
 | []=>by simp [cmps]
 | x::a=>by
  simp only [cmps]
  exact orZ_zero (cmp_refl x) (cmps_refl a)
end
mutual
theorem size_wt:∀ (f:Fm) (d:Nat),f.wt d≤2147483647→f.size≤f.wt d
 | .mk o n ks,d,h=>by
  simp only [Fm.wt,Fm.size] at h ⊢
  split at h
  ·omega
  ·rename_i hd
   rw [if_neg hd]
   have:=sizes_wt ks (d + 1) (1 + n.size) h
   omega
theorem sizes_wt:∀ (ks:List Fm) (d n:Nat),wts d n ks≤2147483647→n + sizes ks≤wts d n ks
 | [],d,n,h=>by simp [wts,sizes]
 | k::ks,d,n,h=>by
  simp only [wts,sizes] at h ⊢
  split at h
  ·rename_i hn
   rw [if_pos hn]
   have h1:=sizes_wt ks d (n + k.wt d) h
   have h2:=size_wt k d (by omega)
   omega
  ·omega
end
end Go.Proofs.YtnpoloachkcadaaGreatDoor.Ai
namespace Go.Proofs.YtnpoloachkcadaaGreatDoor.Ai
open Go
set_option linter.unusedVariables false
set_option linter.unusedSectionVars false
structure Sub (x f:Fm):Prop where
 formed:∀ tk,f.formed tk→x.formed tk
 size:x.size≤f.size
 depth:x.depth≤f.depth
 ok:f.ok→x.ok
 ops:f.opsOK→x.opsOK
theorem Sub.refl (f:Fm):Sub f f:=⟨fun _ h=>h,Nat.le_refl _,Nat.le_refl _,id,id⟩
theorem rightE_zero {tk:Nat→Bool} {f:Fm}:rightE tk f=0↔f.formed tk∧¬ (1000 < f.size∨100 < f.depth):=by
 unfold rightE
 by_cases h1:f.formed tk
 ·rw [yes_t h1]
  by_cases h2:1000 < f.size∨100 < f.depth
  ·rw [yes_t h2];simp [h2]
  ·rw [yes_f h2];simp [h1,h2]
 ·rw [yes_f h1];simp [h1]
end Go.Proofs.YtnpoloachkcadaaGreatDoor.Ai
namespace Go.Proofs.YtnpoloachkcadaaGreatDoor.Ai
open Go
set_option linter.unusedVariables false
set_option linter.unusedSectionVars false
set_option maxRecDepth 10000
section
variable {C:Ctx} (hm:C.P.follows .mixedOrders=true) (hC:TabOK C.P C.ng C.ts Tryz.tab)
include hm hC
theorem past_ok (o:Nat):PFun C 60 [.lit (.int .u8 (o:Nat))] (.lit (.bool (pastB o))):=by
 refine PFun.body hm hC (show Tryz.tab.get 60=some Tryz.c60 from rfl) rfl ?_
 simp only [Tryz.c60,startP,List.length_cons,List.length_nil,Nat.reduceAdd,Nat.reduceSub,List.replicate,List.cons_append,List.nil_append]
 by_cases h:((o:Nat):Int) < 9
 ·repeat (refine PRun.wpn rfl ?_;simp only [wp,wo_nil,wo_p,wo_g,onO_s,onG_f,wanted_g,wantB_b,b_tf,pv_t,pv_int,pv_bool,put_some,bi_lss,pevP,getP,setP,PW.none,Option.map_some,or_true,true_and,reduceCtorEq,resPs,resP,tupP,ltB_t h])
  rw [show pastB o=true from yes_t (by omega)]
  exact .refl ⟨_,rfl,.refl _⟩
 ·by_cases h2:(16:Int)≤(o:Nat)
  ·repeat (refine PRun.wpn rfl ?_;simp only [wp,wo_nil,wo_p,wo_g,beq_self_eq_true,onO_s,onG_t,wanted_g,wantB_b,pv_t,pv_int,pv_bool,put_some,bi_lss,bi_geq,pevP,getP,setP,PW.none,Option.map_some,or_true,true_and,reduceCtorEq,resPs,resP,tupP,ltB_f h,leB_t h2])
   rw [show pastB o=true from yes_t (by omega)]
   exact .refl ⟨_,rfl,.refl _⟩
  ·repeat (refine PRun.wpn rfl ?_;simp only [wp,wo_nil,wo_p,wo_g,beq_self_eq_true,onO_s,onG_t,wanted_g,wantB_b,pv_t,pv_int,pv_bool,put_some,bi_lss,bi_geq,pevP,getP,setP,PW.none,Option.map_some,or_true,true_and,reduceCtorEq,resPs,resP,tupP,ltB_f h,leB_f h2])
   rw [show pastB o=false from yes_f (by omega)]
   exact .refl ⟨_,rfl,.refl _⟩
theorem rightPast_ok (hG0:C.G 0=some kidsC) (f:Fm) (ho:f.ok) (hop:f.opsOK) (hn:f.size < 2 ^ 60):PFun C 18 [fP f] (.lit (.int .i64 (rightE pastB f))):=by
 have h1:=right58_ok hm hC 60 pastB hG0 (fun o _=>past_ok hm hC o) f ho hop hn
 generalize rightE pastB f=r at h1
 obtain ⟨o,nm,ks⟩:=f
 simp only [fP,fC,tkP] at h1
 refine PFun.body hm hC (show Tryz.tab.get 18=some Tryz.c18 from rfl) rfl ?_
 simp only [Tryz.c18,startP,List.length_cons,List.length_nil,Nat.reduceAdd,Nat.reduceSub,List.replicate,List.cons_append,List.nil_append,fP,fC]
 repeat (refine PRun.wpn rfl ?_;simp only [wp,wo_nil,wo_p,wo_r,wo_n,wo_call,onO_s,onN_s,ble_self,pv_t,pv_int,put_some,pv_f,pevP,pevR,pevN,getP,setP,evsP,boxP,look,PW.cs?,PW.push,PW.none,cut0,cutS,List.drop_zero,Option.map_some,Option.bind_some,Nat.zero_le,true_and,↓reduceIte,Nat.zero_add,resPs,resP,tupP])
 refine .refl (PFun.to (h1) rfl (POps.wp ?_))
 simp only [wo_nil,wo_p,onO_s,pv_t,put_some,pevP,getP,setP]
 repeat (refine PRun.wpn rfl ?_;simp only [wp,or_true,true_and,reduceCtorEq])
 exact .refl ⟨_,rfl,.refl _⟩
end
end Go.Proofs.YtnpoloachkcadaaGreatDoor.Ai
namespace Go.Proofs.YtnpoloachkcadaaGreatDoor.Ai
open Go
set_option linter.unusedVariables false
set_option linter.unusedSectionVars false
set_option maxRecDepth 10000
set_option maxHeartbeats 1000000
def ownS:ByteArray:=⟨#[116,104,101,32,111,119,110,101,114,39,115]⟩
def ownC:List PV:=[.lit (.int .u8 0),.lit (.string ⟨#[116,104,101,32,111,119,110,101,114,39,115]⟩),.lit (.slice none 0 0)]
mutual
def lC:Fm→List PV
 | .mk o n ks=>[.lit (.int .u8 (o:Nat)),.lit (.string n),.sp (lL ks++ownC) ks.length (ks.length + 1)]
def lL:List Fm→List PV
 | []=>[]
 | k::ks=>lC k++lL ks
end
def lP (f:Fm):PV:=.agg (lC f)
theorem lC_len (f:Fm):(lC f).length=3:=by cases f;simp [lC]
theorem lL_len:∀ ks:List Fm,(lL ks).length=ks.length * 3
 | []=>by simp [lL]
 | k::ks=>by simp [lL,lC_len,lL_len ks];omega
theorem lL_app:∀ a b:List Fm,lL (a++b)=lL a++lL b
 | [],b=>by simp [lL]
 | k::a,b=>by simp [lL,lL_app a b,List.append_assoc]
mutual
theorem pure_lC:∀ f:Fm,pureL (lC f)=true
 | .mk o n ks=>rfl
theorem pure_lL:∀ ks:List Fm,pureL (lL ks)=true
 | []=>rfl
 | k::ks=>by simp [lL,pureL_append,pure_lC k,pure_lL ks]
end
mutual
theorem wk_lC:∀ f:Fm,WkL (lC f) (fC f)
 | .mk o n ks=>by
  simp only [lC,fC]
  exact .cons (.refl _) (.cons (.refl _) (.cons (Wk.sp_sz (ext:=ownC) ((wk_lL ks).append (.refl _))) .nil))
theorem wk_lL:∀ ks:List Fm,WkL (lL ks) (fL ks)
 | []=>.nil
 | k::ks=>by simp only [lL,fL];exact (wk_lC k).append (wk_lL ks)
end
theorem wk_l (f:Fm):Wk (lP f) (fP f):=.agg (wk_lC f)
theorem PFun.wkA {C:Ctx} {f:FuncId} {a a':List PV} {r:PV} (h:PFun C f a r) (k:WkL a' a):PFun C f a' r:=by
 intro F I σ vargs hG hs hr
 exact h F I σ vargs hG hs (k _ _ _ hr)
theorem lL_drop:∀ (ks:List Fm) (i:Nat),(lL ks).drop (i * 3)=lL (ks.drop i)
 | ks,0=>by simp
 | [],i + 1=>by simp [lL]
 | k::ks,i + 1=>by
  simp only [lL,List.drop_succ_cons]
  rw [show (i + 1) * 3=(lC k).length + i * 3 by rw [lC_len];omega,← List.drop_drop,List.drop_left,lL_drop ks i]
theorem lL_cut {ks:List Fm} {i:Nat} {k:Fm} (h:ks[i]? = some k):cutP 3 ((lL ks++ownC).drop (i * 3))=some (lC k):=by
 obtain ⟨hi,rfl⟩:=List.getElem?_eq_some_iff.1 h
 rw [List.drop_append_of_le_length (by rw [lL_len];omega),lL_drop,List.drop_eq_getElem_cons hi]
 simp only [lL]
 have:=lC_len ks[i]
 generalize lC ks[i]=c at this
 match c,this with
 | [a,b,d],_=>rfl
theorem own_drop (ks:List Fm):(lL ks++ownC).drop (ks.length * 3)=ownC:=by
 rw [← lL_len ks,List.drop_left]
theorem overP_all:∀ (z v b:List PV),z.length=v.length→overP (z++b) v=some (v++b)
 | [],[],b,_=>by cases b <;> rfl
 | x::z,y::v,b,h=>by simp only [List.cons_append,overP,overP_all z v b (by simpa using h),Option.map_some]
 | [],_::_,_,h=>by simp at h
 | _::_,[],_,h=>by simp at h
theorem splice_at:∀ (a z v b:List PV) (n:Nat),a.length=n→z.length=v.length→spliceP (a++(z++b)) n v=some (a++(v++b))
 | [],z,v,b,0,_,h=>by
  have:=overP_all z v b h
  cases hz:z++b with
  | nil=>rw [hz] at this;simpa [spliceP] using this
  | cons x l=>rw [hz] at this;simpa [spliceP] using this
 | x::a,z,v,b,n + 1,h1,h2=>by simp only [List.cons_append,spliceP,splice_at a z v b n (by simpa using h1) h2,Option.map_some]
 | [],_,_,_,_ + 1,h,_=>by simp at h
 | _::_,_,_,_,0,h,_=>by simp at h
def zC:List PV:=[.lit (.int .u8 0),.lit (.string ⟨#[]⟩),.lit (.slice none 0 0)]
def zs (m:Nat):List PV:=(List.replicate m zC).flatten
theorem zs_succ (m:Nat):zs (m + 1)=zC++zs m:=by simp [zs,List.replicate_succ]
theorem pure_zs:∀ m:Nat,pureL (zs m)=true
 | 0=>rfl
 | m + 1=>by rw [zs_succ,pureL_append,pure_zs m];rfl
theorem PFun.bodyS {C:Ctx} (hm:C.P.follows .mixedOrders=true) {tab:Tr IFunc} (hC:TabOK C.P C.ng C.ts tab) {f:FuncId} {ifn:IFunc} (hf:tab.get f=some ifn) {args:List PV} {cs':List PV} {n m:Nat}
  (h:PRun C 0 ifn.body (startP ifn args) .none fun x t π'=>(x = .normal∨x = .ret)∧Gh C 0 t π' fun t π'=>∃ (i:Nat) (cs:List PV) (ty esz:Nat) (al:List Nat),resPs t π' ifn.results=some [.loc i 0 n m]∧look π'.heap i=some (.cells cs ty esz true false al)∧pureL cs=true∧n≤m∧WkL cs cs'):PFun C f args (.sp cs' n m):=by
 intro F I σ vargs hG hs hr
 have h2:PRun C 0 ifn.body (startP ifn args) .none fun x t π'=>(x = .normal∨x = .ret)∧∃ rs,resPs t π' ifn.results=some rs∧∃ (i:Nat) (cs:List PV) (ty esz:Nat) (al:List Nat),tupP rs = .loc i 0 n m∧look π'.heap i=some (.cells cs ty esz true false al)∧pureL cs=true∧n≤m∧WkL cs cs':=
  PRun.after (h.mono fun x t π hx=>hx.2.mono fun t π ha=>by
   obtain ⟨i,cs,ty,esz,al,g1,g2⟩:=ha
   exact ⟨hx.1,_,g1,i,cs,ty,esz,al,rfl,g2⟩)
 obtain ⟨v,σ',I',η',r',π',h1,h2,h3,h4,h5,h6,i,cs,ty,esz,al,rfl,g1,g2,g3,g4⟩:=PTo.of_body hm hC hf (A:=fun r' π'=>∃ (i:Nat) (cs:List PV) (ty esz:Nat) (al:List Nat),r' = .loc i 0 n m∧look π'.heap i=some (.cells cs ty esz true false al)∧pureL cs=true∧n≤m∧WkL cs cs') h2 F I noE σ vargs hG hs hr
 simp only [Rd] at h6
 obtain ⟨a,ha,rfl⟩:=h6
 obtain ⟨a',bk,ha',han,hb,ho⟩:=h5.obj i _ g1
 rw [ha] at ha';cases ha'
 cases bk <;> simp only [ORd] at ho
 rename_i bk
 have h0:=h5.sep i _ a g1 ha
 have hF:=h5.fo i _ a g1 ha
 have hc:RdL I' noE cs bk.cs:=ho.1.toPure g2
 have hle:I'.le (I'.set a bk.cs True):=Img.le_set h0
 refine ⟨_,σ',I'.set a bk.cs True,h1,⟨h2.next,fun k hk=>⟨(h2.fr k hk).1,?_⟩,Img.le_trans h2.im hle,fun _ _=>rfl⟩,?_,?_⟩
 ·simp only [Img.set]
  rw [if_neg (fun e=>by subst e;exact hF hk)]
  exact (h2.fr k hk).2
 ·have:=h5.none F h5.fn
  refine ⟨this.hn,this.fn,this.fo,fun k us hk=>?_,this.fresh,fun j o hj=>by simp [PW.none,look] at hj,this.inj,fun j o a hj=>by simp [PW.none,look] at hj,fun j cs ty esz ex ret al a b hj=>by simp [PW.none,look] at hj⟩
  simp only [Img.set] at hk
  split at hk
  ·rename_i e;subst e
   simp at hk;subst hk
   exact ⟨han,bk,hb,rfl,ho.2.2.2.2.1,fun _=>ho.2.2.2.1⟩
  ·rename_i e
   obtain ⟨q1,b',q2,q3,q4,q5⟩:=h5.img k us hk
   exact ⟨q1,b',q2,q3,q4,fun hx=>q5 (by simpa [Img.set,e] using hx)⟩
 ·simp only [Rd]
  exact ⟨a,0,bk.cs,bk.cs,[],rfl,g3,by simp [Img.set],by simp,by simp [Img.set],g4 _ _ _ (hc.mono hle (Eta.le_refl _))⟩
end Go.Proofs.YtnpoloachkcadaaGreatDoor.Ai
namespace Go.Proofs.YtnpoloachkcadaaGreatDoor.Ai
open Go
set_option linter.unusedVariables false
set_option linter.unusedSectionVars false
set_option maxRecDepth 10000
set_option maxHeartbeats 1000000
theorem ren_lz (ρ:List (Nat × Nat)) (a:List Fm) (m:Nat):renL ρ (lL a++zs m)=lL a++zs m:=renL_pure ρ _ (by rw [pureL_append,pure_lL,pure_zs];rfl)
section
variable {C:Ctx} (hm:C.P.follows .mixedOrders=true) (hC:TabOK C.P C.ng C.ts Tryz.tab)
include hm hC
theorem lents_of (ks:List Fm) (hl:ks.length < 2 ^ 38) (hk:∀ (i:Nat) (k:Fm),ks[i]? = some k→PFun C 16 [fP k] (lP k)):PFun C 57 [.sz (fL ks) ks.length] (.sp (lL ks++ownC) ks.length (ks.length + 1)):=by
 have w0:IntKind.i64.wrap (((ks.length:Nat):Int) + 1)=((ks.length + 1:Nat):Int):=by rw [wrap64 (by omega) (by omega)];omega
 have m1:(0:Int)≤((ks.length + 1:Nat):Int):=by omega
 have m2:((ks.length + 1:Nat):Int) * ((48:Nat):Int)≤140737488355328:=by omega
 have m2':((ks.length + 1:Nat):Int) * 48≤140737488355328:=by omega
 have m3:((ks.length + 1:Nat):Int)≤140737488355328:=by omega
 refine PFun.bodyS hm hC (show Tryz.tab.get 57=some Tryz.c57 from rfl) ?_
 simp only [Tryz.c57,startP,List.length_cons,List.length_nil,Nat.reduceAdd,Nat.reduceSub,List.replicate,List.cons_append,List.nil_append]
 repeat (refine PRun.wpn rfl ?_;simp only [wp,wo_nil,wo_p,wo_n,onO_s,onN_s,ble_self,pv_t,pv_int,pv_nilS,ov_nil,ov_cons,ov_int,ov_str,ov_nilS,put_some,bi_add,pevP,pevN,getP,setP,PW.push,PW.none,Option.map_some,Int.toNat_natCast,tn0,Int.le_refl,and_self,Bool.and_true,↓reduceIte,reduceCtorEq,ltL,lt,Nat.zero_add,resPs,resP,w0,m1,m2,m3])
 refine PRun.gh (Gh.mask (true::false::false::true::true::false::false::false::false::false::false::false::false::false::false::false::false::false::false::false::false::false::false::false::false::false::false::false::false::false::false::false::[]) ?_)
 simp only [↓reduceIte,Bool.false_eq_true,maskP]
 refine PRun.loopG (fun m t π=>∃ i:Nat,t=(.sz (fL ks) ks.length::.junk::.junk::.loc 0 0 i (ks.length + 1)::.lit (.int .i64 (i:Nat))::.junk::.junk::.junk::.junk::.junk::.junk::.junk::.junk::.junk::.junk::.junk::.junk::.junk::.junk::.junk::.junk::.junk::.junk::.junk::.junk::.junk::.junk::.junk::.junk::.junk::.junk::.junk::[])∧i≤ks.length∧m=ks.length - i∧π=⟨1,[(0,.cells (lL (ks.take i)++zs (ks.length + 1 - i)) 27 3 true false [])]⟩) ?_ ks.length _ _ ⟨0,rfl,by omega,rfl,rfl⟩
 rintro m t π ⟨i,rfl,hi,rfl,rfl⟩
 have htk:(lL (ks.take i)).length=i * 3:=by rw [lL_len,List.length_take,Nat.min_eq_left hi]
 by_cases hlt:(i:Int) < (ks.length:Nat)
 ·obtain ⟨k,hki⟩:∃ k,ks[i]? = some k:=⟨ks[i]'(by omega),List.getElem?_eq_getElem (by omega)⟩
  have hcut:=fL_cut hki
  have hc:=hk i k hki
  have hz:zs (ks.length + 1 - i)=zC++zs (ks.length + 1 - (i + 1)):=by rw [← zs_succ];congr 1;omega
  have hsp:=splice_at (lL (ks.take i)) zC (lC k) (zs (ks.length + 1 - (i + 1))) (i * 3) htk (by rw [lC_len];rfl)
  rw [← hz,← List.append_assoc,show lL (ks.take i)++lC k=lL (ks.take (i + 1)) by rw [List.take_add_one,hki,lL_app];simp [lL]] at hsp
  have q1:i + 1≤ks.length + 1:=by omega
  have w1:IntKind.i64.wrap (((i:Nat):Int) + 1)=((i + 1:Nat):Int):=by rw [wrap64 (by omega) (by omega)];omega
  obtain ⟨o',nm',ks'⟩:=k
  simp only [fP,fC,lP,lC] at hc hcut hsp
  repeat (refine PRun.wpn rfl ?_;simp only [wp,wo_nil,wo_p,wo_r,wo_call,onO_s,pv_t,put_some,bi_lss,pevP,pevR,getP,setP,evsP,Option.map_some,Nat.zero_le,Int.natCast_nonneg,Int.toNat_natCast,and_self,true_and,↓reduceIte,ltB_t hlt,hlt,hcut])
  refine .refl (PFun.to (hc) rfl (POps.wp ?_))
  simp only [wo_nil,wo_p,wo_n,wo_append,onO_s,onN_s,onE_s,ble0,ble_succ,pv_t,ov_nil,ov_cons,ov_int,ov_str,ov_nilS,put_some,pevP,pevN,pevE,getP,setP,lenP,srcP,appendP,fillP,spliceP,overP,plainP,isCell,look,PW.cs?,PW.push,cut0,cutS,List.length_cons,List.length_nil,List.drop_zero,Option.map_some,Option.bind_some,Bool.and_true,↓reduceIte,reduceCtorEq,ltL,lt,Nat.reduceAdd,Nat.reduceMul,Bool.false_eq_true,Nat.zero_add,allPlain,PW.wr,setO,killO,Bool.false_or,Bool.not_true,List.length_cons,List.length_nil,q1,hsp,Nat.zero_add]
  repeat (refine PRun.wpn rfl ?_;simp only [wp,wo_nil,wo_p,onO_s,pv_t,pv_int,put_some,bi_add,pevP,getP,setP,Option.map_some,w1])
  refine Gh.mr (true::false::false::true::true::false::false::false::false::false::false::false::false::false::false::false::false::false::false::false::false::false::false::false::false::false::false::false::false::false::false::false::[]) [(0,0)] 1 rfl ?_
  refine ⟨ks.length - (i + 1),by omega,i + 1,rfl,by omega,rfl,?_⟩
  simp only [↓reduceIte,reduceCtorEq,renO,renH,renA,lkN,ren_lz]
 ·have hil:i=ks.length:=by omega
  have hz:zs (ks.length + 1 - i)=zC++[]:=by rw [show ks.length + 1 - i=0 + 1 by omega,zs_succ];rfl
  have hsp:=splice_at (lL ks) zC ownC [] (ks.length * 3) (lL_len ks) rfl
  rw [← hz,List.append_nil] at hsp
  have q0:ks.length + 1≤ks.length + 1:=Nat.le_refl _
  have q1:¬ ks.length + 1=0:=by omega
  have q2:((ks.length:Nat):Int)≤((ks.length + 1:Nat):Int):=by omega
  have hown:ownC=[.lit (.int .u8 0),.lit (.string ⟨#[116,104,101,32,111,119,110,101,114,39,115]⟩),.lit (.slice none 0 0)]:=rfl
  have htake:ks.take i=ks:=by rw [hil,List.take_length]
  rw [htake]
  rw [hown] at hsp
  subst hil
  repeat (refine PRun.wpn rfl ?_;simp only [wp,wo_nil,wo_p,wo_r,wo_n,wo_append,beq_self_eq_true,onO_s,onN_s,onE_s,ble0,ble_succ,pv_t,pv_str,ov_nil,ov_cons,ov_int,ov_str,ov_nilS,put_some,bi_lss,pevP,pevR,pevN,pevE,getP,setP,lenP,srcP,appendP,fillP,spliceP,overP,plainP,isCell,look,PW.cs?,PW.exactAt,PW.push,cut0,cutS,boundP,List.length_cons,List.length_nil,List.drop_zero,Option.map_some,Option.bind_some,Option.isNone_none,or_true,Nat.sub_zero,Int.natCast_nonneg,Int.toNat_natCast,true_and,Bool.and_true,Bool.true_and,↓reduceIte,reduceCtorEq,ltL,lt,Nat.reduceAdd,Nat.reduceMul,Bool.false_eq_true,Nat.zero_add,allPlain,PW.wr,setO,killO,Bool.false_or,Bool.not_true,List.length_cons,List.length_nil,ltB_f hlt,hsp,q0,q1,q2,Nat.zero_mul])
  exact .refl ⟨0,_,_,_,_,rfl,rfl,by rw [pureL_append,pure_lL];rfl,by omega,.refl _⟩
theorem lent_ok:∀ (n:Nat) (f:Fm),f.size≤n→n < 2 ^ 38→PFun C 16 [fP f] (lP f):=by
 intro n
 induction n with
 | zero=>intro f h;have:=f.size_pos;omega
 | succ n ih=>
  intro f hf hn
  obtain ⟨o,nm,ks⟩:=f
  simp only [Fm.size] at hf
  have hlen:=len_sizes ks
  have hl:=lents_of hm hC ks (by omega) fun i k hk=>by
   have:=size_kid hk
   exact ih k (by omega) (by omega)
  simp only [lP,lC]
  refine PFun.body hm hC (show Tryz.tab.get 16=some Tryz.c16 from rfl) rfl ?_
  simp only [Tryz.c16,startP,List.length_cons,List.length_nil,Nat.reduceAdd,Nat.reduceSub,List.replicate,List.cons_append,List.nil_append,fP,fC]
  repeat (refine PRun.wpn rfl ?_;simp only [wp,wo_nil,wo_n,onN_s,ble_self,ble_succ,pv_t,ov_nil,ov_cons,ov_int,ov_str,ov_nilS,put_some,pevR,pevN,getP,setP,boxP,PW.cs?,PW.push,PW.none,Option.map_some,Bool.and_true,↓reduceIte,ltL,lt,Nat.reduceAdd,Nat.zero_add,resPs,resP,tupP])
  refine PDraw.stage (Nat.zero_le _) rfl ?_
  try dsimp only
  simp only [onX_s,onXI_s,rdX_e,ltN,ltD_s,onD_s,wx_nil,wx_cons,wx_p,wx_r,wd_cons,wd_e,pv_t,put_some,pevP,pevR,getP,setP,nthO,look,PW.cs?,nthP,baseP,ROp.base,List.length_cons,List.length_nil,Option.bind_some,Bool.and_true,↓reduceIte,reduceCtorEq,Nat.reduceAdd,Option.isSome_some,Nat.add_zero,Nat.zero_add,List.length_cons,List.length_nil]
  refine PDE.pure hl rfl ?_
  refine PDraw.stage (Nat.zero_le _) rfl ?_
  try dsimp only
  simp only [beq_self_eq_true,onX_s,onXI_s,onD_s,wx_nil,wx_cons,wx_p,wd_cons,wd_e,pv_t,ov_nil,ov_cons,ov_int,ov_str,ov_nilS,put_some,pevP,getP,setP,nthO,fillP,spliceP,overP,plainP,isCell,Option.map_some,Option.bind_some,Bool.and_true,↓reduceIte,ltL,lt]
  refine PDE.ev (Nat.zero_le _) ?_
  simp only [pv_t,put_none,onDE_s,pevE,getP,spliceP,overP,plainP,isCell,look,List.length_cons,List.length_nil,Option.map_some,Bool.and_true,↓reduceIte,Nat.reduceAdd,Bool.false_eq_true,Nat.zero_add,allPlain,PW.wr,setO,killO,Bool.or_self,Bool.not_true,List.length_cons,List.length_nil]
  refine PDraw.last (Nat.zero_le _) rfl ?_
  try dsimp only
  simp only [wx_nil]
  repeat (refine PRun.wpn rfl ?_;simp only [wp,or_true,true_and,reduceCtorEq])
  exact .refl ⟨_,rfl,.refl _⟩
theorem wholes_of (ks:List Fm) (hl:ks.length < 2 ^ 38) (hk:∀ (i:Nat) (k:Fm),ks[i]? = some k→PFun C 22 [lP k,fP k] (.lit (.bool true))):PFun C 63 [.sp (lL ks++ownC) ks.length (ks.length + 1),.sz (fL ks) ks.length] (.lit (.bool true)):=by
 have w0:IntKind.i64.wrap (((ks.length:Nat):Int) + 1)=((ks.length + 1:Nat):Int):=by rw [wrap64 (by omega) (by omega)];omega
 have e0:=neB_f (show ((ks.length:Nat):Int)=((ks.length:Nat):Int) from rfl)
 have e1:=ltB_f (show ¬ ((ks.length + 1:Nat):Int) < ((ks.length + 1:Nat):Int) by omega)
 have e2:(0:Int)≤((ks.length + 1:Nat):Int):=by omega
 have e3:((ks.length:Nat):Int) < ((ks.length + 1:Nat):Int):=by omega
 have e4:=neS_f (show (⟨#[116,104,101,32,111,119,110,101,114,39,115]⟩:ByteArray)=⟨#[116,104,101,32,111,119,110,101,114,39,115]⟩ from rfl)
 have e5:=neB_f (show (0:Int)=0 from rfl)
 have e6:=ltB_f (show ¬ (0:Int) < 0 by omega)
 have hd:=own_drop ks
 have hown:ownC=[.lit (.int .u8 0),.lit (.string ⟨#[116,104,101,32,111,119,110,101,114,39,115]⟩),.lit (.slice none 0 0)]:=rfl
 rw [show (lL ks++ownC).drop (ks.length * 3)=_ from hd,hown] at hd
 have hd:(lL ks++ownC).drop (ks.length * 3)=[.lit (.int .u8 0),.lit (.string ⟨#[116,104,101,32,111,119,110,101,114,39,115]⟩),.lit (.slice none 0 0)]:=own_drop ks
 refine PFun.body hm hC (show Tryz.tab.get 63=some Tryz.c63 from rfl) rfl ?_
 simp only [Tryz.c63,startP,List.length_cons,List.length_nil,Nat.reduceAdd,Nat.reduceSub,List.replicate,List.cons_append,List.nil_append]
 repeat (refine PRun.wpn rfl ?_;simp only [wp,wo_nil,wo_p,wo_r,wo_g,beq_self_eq_true,onO_s,onG_t,wanted_g,wantB_b,pv_t,pv_int,pv_bool,pv_str,put_some,bi_add,bi_neq,bi_neqS,bi_lss,bi_gtr,pevP,pevR,getP,setP,PW.none,boundP,List.drop_zero,List.drop_succ_cons,Option.map_some,Option.isNone_none,Int.natCast_nonneg,Int.toNat_natCast,nc0,Int.le_refl,and_self,Bool.and_true,↓reduceIte,reduceCtorEq,Bool.false_eq_true,resPs,resP,tupP,e0,e1,w0,e2,e3,e4,e5,e6,hd])
 refine PRun.gh (Gh.mask (true::true::false::false::false::false::true::false::false::false::false::false::false::false::false::false::false::false::false::false::false::false::false::false::false::false::false::false::false::false::false::false::false::false::false::false::false::false::false::false::false::false::false::false::false::false::false::false::false::false::false::false::false::false::false::false::false::false::false::false::false::false::false::false::false::false::false::[]) ?_)
 simp only [↓reduceIte,Bool.false_eq_true,maskP]
 refine PRun.loopG (fun m t π=>∃ i:Nat,t=(.sp (lL ks++ownC) ks.length (ks.length + 1)::.sz (fL ks) ks.length::.junk::.junk::.junk::.junk::.lit (.int .i64 (i:Nat))::.junk::.junk::.junk::.junk::.junk::.junk::.junk::.junk::.junk::.junk::.junk::.junk::.junk::.junk::.junk::.junk::.junk::.junk::.junk::.junk::.junk::.junk::.junk::.junk::.junk::.junk::.junk::.junk::.junk::.junk::.junk::.junk::.junk::.junk::.junk::.junk::.junk::.junk::.junk::.junk::.junk::.junk::.junk::.junk::.junk::.junk::.junk::.junk::.junk::.junk::.junk::.junk::.junk::.junk::.junk::.junk::.junk::.junk::.junk::.junk::[])∧i≤ks.length∧m=ks.length - i∧π=⟨0,[]⟩) ?_ ks.length _ _ ⟨0,rfl,by omega,rfl,rfl⟩
 rintro m t π ⟨i,rfl,hi,rfl,rfl⟩
 by_cases hlt:(i:Int) < (ks.length:Nat)
 ·obtain ⟨k,hki⟩:∃ k,ks[i]? = some k:=⟨ks[i]'(by omega),List.getElem?_eq_getElem (by omega)⟩
  have hcut:=fL_cut hki
  have hcut2:=lL_cut hki
  have hc:=hk i k hki
  have w1:IntKind.i64.wrap (((i:Nat):Int) + 1)=((i + 1:Nat):Int):=by rw [wrap64 (by omega) (by omega)];omega
  obtain ⟨o',nm',ks'⟩:=k
  simp only [fP,fC,lP,lC] at hc hcut hcut2
  repeat (refine PRun.wpn rfl ?_;simp only [wp,wo_nil,wo_p,onO_s,pv_t,put_some,bi_lss,pevP,getP,setP,Option.map_some,↓reduceIte,ltB_t hlt])
  refine PDraw.stage (Nat.zero_le _) rfl ?_
  try dsimp only
  simp only [onX_s,onXI_s,rdX_e,ltN,ltD_s,onD_s,wx_nil,wx_cons,wx_p,wx_r,wd_cons,wd_e,pv_t,put_some,pevP,pevR,getP,setP,nthO,baseP,ROp.base,List.length_cons,List.length_nil,Option.map_some,Int.natCast_nonneg,Int.toNat_natCast,and_self,Bool.and_true,↓reduceIte,Nat.reduceAdd,Nat.zero_add,List.length_cons,List.length_nil,hlt,hcut,hcut2]
  refine PDE.pure hc rfl ?_
  refine PDraw.last (Nat.zero_le _) rfl ?_
  try dsimp only
  simp only [onX_s,onXI_s,wx_nil,wx_cons,wx_p,pv_t,put_some,pevP,getP,setP,nthO,Bool.not_true]
  repeat (refine PRun.wpn rfl ?_;simp only [wp,wo_nil,wo_p,onO_s,pv_t,pv_int,put_some,bi_add,pevP,getP,setP,Option.map_some,↓reduceIte,Bool.false_eq_true,w1])
  refine Gh.mask (true::true::false::false::false::false::true::false::false::false::false::false::false::false::false::false::false::false::false::false::false::false::false::false::false::false::false::false::false::false::false::false::false::false::false::false::false::false::false::false::false::false::false::false::false::false::false::false::false::false::false::false::false::false::false::false::false::false::false::false::false::false::false::false::false::false::false::[]) ?_
  exact ⟨ks.length - (i + 1),by omega,i + 1,rfl,by omega,rfl,rfl⟩
 ·repeat (refine PRun.wpn rfl ?_;simp only [wp,wo_nil,wo_p,onO_s,pv_t,pv_bool,put_some,bi_lss,pevP,getP,setP,Option.map_some,or_true,true_and,↓reduceIte,reduceCtorEq,Bool.false_eq_true,ltB_f hlt])
  exact .refl ⟨_,rfl,.refl _⟩
theorem whole_ok:∀ (n:Nat) (f:Fm),f.size≤n→n < 2 ^ 38→PFun C 22 [lP f,fP f] (.lit (.bool true)):=by
 intro n
 induction n with
 | zero=>intro f h;have:=f.size_pos;omega
 | succ n ih=>
  intro f hf hn
  obtain ⟨o,nm,ks⟩:=f
  simp only [Fm.size] at hf
  have hlen:=len_sizes ks
  have hl:=wholes_of hm hC ks (by omega) fun i k hk=>by
   have:=size_kid hk
   exact ih k (by omega) (by omega)
  refine PFun.body hm hC (show Tryz.tab.get 22=some Tryz.c22 from rfl) rfl ?_
  simp only [Tryz.c22,startP,List.length_cons,List.length_nil,Nat.reduceAdd,Nat.reduceSub,List.replicate,List.cons_append,List.nil_append,fP,fC,lP,lC]
  repeat (refine PRun.wpn rfl ?_;simp only [wp,wo_nil,wo_p,wo_r,wo_n,wo_call,wo_g,beq_self_eq_true,onO_s,onN_s,onG_t,wanted_g,wantB_b,ble_self,ble_succ,pv_t,pv_bool,put_some,bi_eql,bi_eqlS,pevP,pevR,pevN,getP,setP,evsP,boxP,look,PW.cs?,PW.push,PW.none,nthP,Option.map_some,Option.bind_some,Nat.zero_le,true_and,↓reduceIte,reduceCtorEq,Nat.reduceAdd,Nat.add_zero,Nat.zero_add,resPs,resP,tupP,eqB_t (show ((o:Nat):Int)=(o:Nat) from rfl),eqS_t (show nm=nm from rfl)])
  refine .refl (PFun.to (hl) rfl (POps.wp ?_))
  simp only [wo_nil,wo_p,onO_s,pv_t,put_some,pevP,getP,setP]
  repeat (refine PRun.wpn rfl ?_;simp only [wp,or_true,true_and,reduceCtorEq])
  exact .refl ⟨_,rfl,.refl _⟩
end
end Go.Proofs.YtnpoloachkcadaaGreatDoor.Ai
namespace Go.Proofs.YtnpoloachkcadaaGreatDoor.Ai
open Go
set_option linter.unusedVariables false
set_option linter.unusedSectionVars false
set_option maxRecDepth 10000
set_option maxHeartbeats 1000000
theorem eqB_nat (o j:Nat):eqB ((o:Nat):Int) ((j:Nat):Int)=(o == j):=by
 by_cases h:o=j
 ·rw [eqB_t (by omega)];simp [h]
 ·rw [eqB_f (by omega)];simp [h]
def rk (o:Nat):Int:=if o < 22 then kt.getD o 0 else -1
section
variable {C:Ctx} (hm:C.P.follows .mixedOrders=true) (hC:TabOK C.P C.ng C.ts Tryz.tab)
include hm hC
theorem rkids_ok (o:Nat):PFun C 126 [.lit (.int .u8 (o:Nat))] (.lit (.int .i64 (rk o))):=by
 have e1:eqB (o:Nat) 1=(o == 1):=eqB_nat o 1
 have e2:eqB (o:Nat) 2=(o == 2):=eqB_nat o 2
 have e3:eqB (o:Nat) 3=(o == 3):=eqB_nat o 3
 have e4:eqB (o:Nat) 4=(o == 4):=eqB_nat o 4
 have e5:eqB (o:Nat) 5=(o == 5):=eqB_nat o 5
 have e6:eqB (o:Nat) 6=(o == 6):=eqB_nat o 6
 have e7:eqB (o:Nat) 7=(o == 7):=eqB_nat o 7
 have e8:eqB (o:Nat) 8=(o == 8):=eqB_nat o 8
 have e9:eqB (o:Nat) 9=(o == 9):=eqB_nat o 9
 have e10:eqB (o:Nat) 10=(o == 10):=eqB_nat o 10
 have e11:eqB (o:Nat) 11=(o == 11):=eqB_nat o 11
 have e12:eqB (o:Nat) 12=(o == 12):=eqB_nat o 12
 have e13:eqB (o:Nat) 13=(o == 13):=eqB_nat o 13
 have e14:eqB (o:Nat) 14=(o == 14):=eqB_nat o 14
 have e15:eqB (o:Nat) 15=(o == 15):=eqB_nat o 15
 have e16:eqB (o:Nat) 16=(o == 16):=eqB_nat o 16
 have e17:eqB (o:Nat) 17=(o == 17):=eqB_nat o 17
 have e18:eqB (o:Nat) 18=(o == 18):=eqB_nat o 18
 have e19:eqB (o:Nat) 19=(o == 19):=eqB_nat o 19
 have e20:eqB (o:Nat) 20=(o == 20):=eqB_nat o 20
 have e21:eqB (o:Nat) 21=(o == 21):=eqB_nat o 21
 generalize hv:((o:Nat):Int)=v at *
 refine PFun.body hm hC (show Tryz.tab.get 126=some Tryz.c126 from rfl) rfl ?_
 simp only [Tryz.c126,startP,List.length_cons,List.length_nil,Nat.reduceAdd,Nat.reduceSub,List.replicate,List.cons_append,List.nil_append]
 by_cases h:o < 22
 ·obtain ⟨j,hj⟩:∃ j:Fin 22,j.1=o:=⟨⟨o,h⟩,rfl⟩
  have hr:rk o=kt.getD o 0:=if_pos h
  rw [hr]
  clear hr hv
  rcases o with _ | _ | _ | _ | _ | _ | _ | _ | _ | _ | _ | _ | _ | _ | _ | _ | _ | _ | _ | _ | _ | _ | o
  all_goals first | (exfalso;omega) | skip
  all_goals simp only [Nat.reduceAdd,Nat.reduceBEq,Nat.zero_add] at e1 e2 e3 e4 e5 e6 e7 e8 e9 e10 e11 e12 e13 e14 e15 e16 e17 e18 e19 e20 e21
  all_goals
   repeat (refine PRun.wpn rfl ?_;simp only [wp,wo_nil,wo_p,onO_s,pv_t,pv_int,put_some,bi_eql,pevP,getP,setP,PW.none,Option.map_some,or_true,true_and,↓reduceIte,reduceCtorEq,Nat.reduceAdd,Bool.false_eq_true,Nat.zero_add,resPs,resP,tupP,e1,e2,e3,e4,e5,e6,e7,e8,e9,e10,e11,e12,e13,e14,e15,e16,e17,e18,e19,e20,e21])
   exact .refl ⟨_,rfl,.refl _⟩
 ·have hr:rk o = -1:=if_neg h
  rw [hr]
  have f:∀ j:Nat,j < 22→(o == j)=false:=fun j hj=>by simp;omega
  rw [f _ (by decide)] at e1 e2 e3 e4 e5 e6 e7 e8 e9 e10 e11 e12 e13 e14 e15 e16 e17 e18 e19 e20 e21
  repeat (refine PRun.wpn rfl ?_;simp only [wp,wo_nil,wo_p,onO_s,pv_t,pv_int,put_some,bi_eql,pevP,getP,setP,PW.none,Option.map_some,or_true,true_and,↓reduceIte,reduceCtorEq,Bool.false_eq_true,resPs,resP,tupP,e1,e2,e3,e4,e5,e6,e7,e8,e9,e10,e11,e12,e13,e14,e15,e16,e17,e18,e19,e20,e21])
  exact .refl ⟨_,rfl,.refl _⟩
end
end Go.Proofs.YtnpoloachkcadaaGreatDoor.Ai
namespace Go.Proofs.YtnpoloachkcadaaGreatDoor.Ai
open Go
set_option linter.unusedVariables false
set_option linter.unusedSectionVars false
set_option maxRecDepth 10000
set_option maxHeartbeats 1000000
section
variable {C:Ctx} (hm:C.P.follows .mixedOrders=true) (hC:TabOK C.P C.ng C.ts Tryz.tab)
include hm hC
theorem rname_ok (s:ByteArray) (hs:s.size < 2 ^ 60):PFun C 96 [.lit (.string s)] (.lit (.bool (yesB (nameOK s)))):=by
 refine PFun.body hm hC (show Tryz.tab.get 96=some Tryz.c96 from rfl) rfl ?_
 simp only [Tryz.c96,startP,List.length_cons,List.length_nil,Nat.reduceAdd,Nat.reduceSub,List.replicate,List.cons_append,List.nil_append]
 by_cases h0:((s.size:Nat):Int) < 1
 ·repeat (refine PRun.wpn rfl ?_;simp only [wp,wo_nil,wo_p,wo_g,onO_s,onG_f,wanted_g,wantB_b,b_tf,pv_t,pv_int,pv_bool,put_some,bi_lss,pevP,getP,setP,PW.none,Option.map_some,or_true,true_and,↓reduceIte,reduceCtorEq,resPs,resP,tupP,ltB_t h0])
  rw [yes_f (fun h=>by have:=h.1;omega)]
  exact .refl ⟨_,rfl,.refl _⟩
 by_cases h1:(32:Int) < (s.size:Nat)
 ·repeat (refine PRun.wpn rfl ?_;simp only [wp,wo_nil,wo_p,wo_g,beq_self_eq_true,onO_s,onG_t,wanted_g,wantB_b,pv_t,pv_int,pv_bool,put_some,bi_lss,bi_gtr,pevP,getP,setP,PW.none,Option.map_some,or_true,true_and,↓reduceIte,reduceCtorEq,resPs,resP,tupP,ltB_f h0,ltB_t h1])
  rw [yes_f (fun h=>by have:=h.2.1;omega)]
  exact .refl ⟨_,rfl,.refl _⟩
 repeat (refine PRun.wpn rfl ?_;simp only [wp,wo_nil,wo_p,wo_g,beq_self_eq_true,onO_s,onG_t,wanted_g,wantB_b,pv_t,pv_int,pv_bool,put_some,bi_lss,bi_gtr,pevP,getP,setP,PW.none,Option.map_some,↓reduceIte,reduceCtorEq,Bool.false_eq_true,resPs,resP,tupP,ltB_f h0,ltB_f h1])
 refine PRun.gh (Gh.mask (true::false::false::true::false::false::false::false::false::false::false::false::false::false::false::false::false::false::false::false::false::false::false::false::false::false::false::false::false::false::false::false::false::false::false::false::false::false::false::false::[]) ?_)
 simp only [↓reduceIte,Bool.false_eq_true,maskP]
 refine PRun.loopG (fun m t π=>∃ i:Nat,t=(.lit (.string s)::.junk::.junk::.lit (.int .i64 (i:Nat))::.junk::.junk::.junk::.junk::.junk::.junk::.junk::.junk::.junk::.junk::.junk::.junk::.junk::.junk::.junk::.junk::.junk::.junk::.junk::.junk::.junk::.junk::.junk::.junk::.junk::.junk::.junk::.junk::.junk::.junk::.junk::.junk::.junk::.junk::.junk::.junk::[])∧i≤s.size∧m=s.size - i∧(∀ (j:Nat) (h:j < s.size),j < i→charOK s[j])∧π=⟨0,[]⟩) ?_ s.size _ _ ⟨0,rfl,by omega,rfl,fun j h hj=>by omega,rfl⟩
 rintro m t π ⟨i,rfl,hi,rfl,hall,rfl⟩
 by_cases hlt:(i:Int) < (s.size:Nat)
 ·have hil:i < s.size:=by omega
  have hc:=idx_some hil
  have bad:¬ charOK s[i]→yesB (nameOK s)=false:=fun hb=>yes_f fun h=>hb (h.2.2 i hil)
  have w1:IntKind.i64.wrap (((i:Nat):Int) + 1)=((i + 1:Nat):Int):=by rw [wrap64 (by omega) (by omega)];omega
  generalize hcc:s[i]=c at hc bad
  by_cases c1:((c.toNat:Nat):Int) < 32
  ·repeat (refine PRun.wpn rfl ?_;simp only [wp,wo_nil,wo_p,wo_g,onO_s,onG_f,wanted_g,wantB_b,b_tf,pv_t,pv_int,pv_bool,put_some,bi_lss,pevP,getP,setP,Option.map_some,or_true,Int.natCast_nonneg,Int.toNat_natCast,true_and,↓reduceIte,reduceCtorEq,ltB_t hlt,hc,ltB_t c1])
   rw [bad (fun h=>by have:=h.1;omega)]
   exact .refl ⟨_,rfl,.refl _⟩
  by_cases c2:126 < ((c.toNat:Nat):Int)
  ·repeat (refine PRun.wpn rfl ?_;simp only [wp,wo_nil,wo_p,wo_g,beq_self_eq_true,onO_s,onG_t,onG_f,wanted_g,wantB_b,b_tf,pv_t,pv_int,pv_bool,put_some,bi_lss,bi_gtr,pevP,getP,setP,Option.map_some,or_true,Int.natCast_nonneg,Int.toNat_natCast,true_and,↓reduceIte,reduceCtorEq,ltB_t hlt,hc,ltB_f c1,ltB_t c2])
   rw [bad (fun h=>by have:=h.2.1;omega)]
   exact .refl ⟨_,rfl,.refl _⟩
  by_cases c3:((c.toNat:Nat):Int)=34
  ·repeat (refine PRun.wpn rfl ?_;simp only [wp,wo_nil,wo_p,wo_g,beq_self_eq_true,onO_s,onG_t,onG_f,wanted_g,wantB_b,b_tf,pv_t,pv_int,pv_bool,put_some,bi_eql,bi_lss,bi_gtr,pevP,getP,setP,Option.map_some,or_true,Int.natCast_nonneg,Int.toNat_natCast,true_and,↓reduceIte,reduceCtorEq,ltB_t hlt,hc,ltB_f c1,ltB_f c2,eqB_t c3])
   rw [bad (fun h=>by have:=h.2.2.1;omega)]
   exact .refl ⟨_,rfl,.refl _⟩
  by_cases c4:((c.toNat:Nat):Int)=92
  ·repeat (refine PRun.wpn rfl ?_;simp only [wp,wo_nil,wo_p,wo_g,beq_self_eq_true,onO_s,onG_t,wanted_g,wantB_b,pv_t,pv_int,pv_bool,put_some,bi_eql,bi_lss,bi_gtr,pevP,getP,setP,Option.map_some,or_true,Int.natCast_nonneg,Int.toNat_natCast,true_and,↓reduceIte,reduceCtorEq,ltB_t hlt,hc,ltB_f c1,ltB_f c2,eqB_f c3,eqB_t c4])
   rw [bad (fun h=>by have:=h.2.2.2;omega)]
   exact .refl ⟨_,rfl,.refl _⟩
  repeat (refine PRun.wpn rfl ?_;simp only [wp,wo_nil,wo_p,wo_g,beq_self_eq_true,onO_s,onG_t,wanted_g,wantB_b,pv_t,pv_int,put_some,bi_add,bi_eql,bi_lss,bi_gtr,pevP,getP,setP,Option.map_some,Int.natCast_nonneg,Int.toNat_natCast,↓reduceIte,Bool.false_eq_true,ltB_t hlt,hc,ltB_f c1,ltB_f c2,eqB_f c3,eqB_f c4,w1])
  refine Gh.mask (true::false::false::true::false::false::false::false::false::false::false::false::false::false::false::false::false::false::false::false::false::false::false::false::false::false::false::false::false::false::false::false::false::false::false::false::false::false::false::false::[]) ?_
  refine ⟨s.size - (i + 1),by omega,i + 1,rfl,by omega,rfl,fun j h hj=>?_,rfl⟩
  by_cases hji:j=i
  ·subst hji;rw [hcc];exact ⟨by omega,by omega,by omega,by omega⟩
  ·exact hall j h (by omega)
 ·repeat (refine PRun.wpn rfl ?_;simp only [wp,wo_nil,wo_p,onO_s,pv_t,pv_bool,put_some,bi_lss,pevP,getP,setP,Option.map_some,or_true,true_and,↓reduceIte,reduceCtorEq,Bool.false_eq_true,ltB_f hlt])
  rw [yes_t ⟨by omega,by omega,fun j h=>hall j h (by omega)⟩]
  exact .refl ⟨_,rfl,.refl _⟩
theorem rsize_ok:∀ (n:Nat) (f:Fm),f.size≤n→n < 2 ^ 60→PFun C 23 [fP f] (.lit (.int .i64 (f.size:Nat))):=by
 intro n
 induction n with
 | zero=>intro f h;have:=f.size_pos;omega
 | succ n ih=>
  intro f hf hn
  obtain ⟨o,nm,ks⟩:=f
  simp only [Fm.size] at hf
  have hlen:=len_sizes ks
  refine PFun.body hm hC (show Tryz.tab.get 23=some Tryz.c23 from rfl) rfl ?_
  simp only [Tryz.c23,startP,List.length_cons,List.length_nil,Nat.reduceAdd,Nat.reduceSub,List.replicate,List.cons_append,List.nil_append,fP,fC]
  repeat (refine PRun.wpn rfl ?_;simp only [wp,wo_nil,wo_p,wo_n,onO_s,onN_s,ble_self,pv_t,pv_int,put_some,pevP,pevN,getP,setP,boxP,PW.push,PW.none,Option.map_some,reduceCtorEq,Nat.zero_add,resPs,resP,tupP])
  refine PRun.gh (Gh.mask (false::true::false::true::true::false::false::false::false::false::false::false::false::false::false::false::false::false::false::false::false::[]) ?_)
  simp only [↓reduceIte,Bool.false_eq_true,maskP]
  refine PRun.loopG (fun m t π=>∃ i:Nat,t=(.junk::.ptr 0 0::.junk::.lit (.int .i64 ((1 + sizes (ks.take i):Nat):Int))::.lit (.int .i64 (i:Nat))::.junk::.junk::.junk::.junk::.junk::.junk::.junk::.junk::.junk::.junk::.junk::.junk::.junk::.junk::.junk::.junk::[])∧i≤ks.length∧m=ks.length - i∧π=⟨1,[(0,.cells [.lit (.int .u8 (o:Nat)),.lit (.string nm),.sz (fL ks) ks.length] 27 3 true false [])]⟩) ?_ ks.length _ _ ⟨0,rfl,by omega,rfl,rfl⟩
  rintro m t π ⟨i,rfl,hi,rfl,rfl⟩
  by_cases hlt:(i:Int) < (ks.length:Nat)
  ·obtain ⟨k,hk⟩:∃ k,ks[i]? = some k:=⟨ks[i]'(by omega),List.getElem?_eq_getElem (by omega)⟩
   have h1:=size_kid hk
   have h2:=sizes_take hk
   have h3:=sizes_le ks (i + 1)
   have hcut:=fL_cut hk
   have hrec:=ih k (by omega) (by omega)
   have w1:IntKind.i64.wrap (((i:Nat):Int) + 1)=((i + 1:Nat):Int):=by rw [wrap64 (by omega) (by omega)];omega
   have w2:IntKind.i64.wrap (((1 + sizes (ks.take i):Nat):Int) + (k.size:Nat))=((1 + sizes (ks.take (i + 1)):Nat):Int):=by rw [wrap64 (by omega) (by omega),h2];omega
   generalize k.size=kz at *
   obtain ⟨o',nm',ks'⟩:=k
   simp only [fP,fC] at hrec hcut
   repeat (refine PRun.wpn rfl ?_;simp only [wp,wo_nil,wo_p,wo_r,wo_call,onO_s,pv_t,put_some,bi_lss,pevP,pevR,getP,setP,evsP,look,PW.cs?,nthP,Option.map_some,Option.bind_some,Nat.zero_le,Int.natCast_nonneg,Int.toNat_natCast,and_self,true_and,↓reduceIte,Nat.zero_add,ltB_t hlt,hlt,hcut])
   refine .refl (PFun.to (hrec) rfl (POps.wp ?_))
   simp only [wo_nil,wo_p,onO_s,pv_t,put_some,bi_add,pevP,getP,setP,Option.map_some,w2]
   repeat (refine PRun.wpn rfl ?_;simp only [wp,wo_nil,wo_p,onO_s,pv_t,pv_int,put_some,bi_add,pevP,getP,setP,Option.map_some,w1])
   refine Gh.mask (false::true::false::true::true::false::false::false::false::false::false::false::false::false::false::false::false::false::false::false::false::[]) ?_
   exact ⟨ks.length - (i + 1),by omega,i + 1,rfl,by omega,rfl,rfl⟩
  ·have hil:i=ks.length:=by omega
   subst hil
   repeat (refine PRun.wpn rfl ?_;simp only [wp,wo_nil,wo_p,wo_r,onO_s,pv_t,put_some,bi_lss,pevP,pevR,getP,setP,look,PW.cs?,nthP,Option.map_some,Option.bind_some,or_true,true_and,↓reduceIte,reduceCtorEq,Bool.false_eq_true,Nat.zero_add,ltB_f hlt])
   refine .refl ⟨_,rfl,?_⟩
   rw [List.take_length]
   exact .refl _
theorem rdepth_ok:∀ (n:Nat) (f:Fm),f.size≤n→n < 2 ^ 60→PFun C 34 [fP f] (.lit (.int .i64 (f.depth:Nat))):=by
 intro n
 induction n with
 | zero=>intro f h;have:=f.size_pos;omega
 | succ n ih=>
  intro f hf hn
  obtain ⟨o,nm,ks⟩:=f
  simp only [Fm.size] at hf
  have hlen:=len_sizes ks
  have hds:=depths_sizes ks
  refine PFun.body hm hC (show Tryz.tab.get 34=some Tryz.c34 from rfl) rfl ?_
  simp only [Tryz.c34,startP,List.length_cons,List.length_nil,Nat.reduceAdd,Nat.reduceSub,List.replicate,List.cons_append,List.nil_append,fP,fC]
  repeat (refine PRun.wpn rfl ?_;simp only [wp,wo_nil,wo_p,wo_n,onO_s,onN_s,ble_self,pv_t,pv_int,put_some,pevP,pevN,getP,setP,boxP,PW.push,PW.none,Option.map_some,reduceCtorEq,Nat.zero_add,resPs,resP,tupP])
  refine PRun.gh (Gh.mask (false::true::false::true::true::false::false::false::false::false::false::false::false::false::false::false::false::false::false::false::false::false::[]) ?_)
  simp only [↓reduceIte,Bool.false_eq_true,maskP]
  refine PRun.loopG (fun m t π=>∃ i:Nat,t=(.junk::.ptr 0 0::.junk::.lit (.int .i64 ((depths (ks.take i):Nat):Int))::.lit (.int .i64 (i:Nat))::.junk::.junk::.junk::.junk::.junk::.junk::.junk::.junk::.junk::.junk::.junk::.junk::.junk::.junk::.junk::.junk::.junk::[])∧i≤ks.length∧m=ks.length - i∧π=⟨1,[(0,.cells [.lit (.int .u8 (o:Nat)),.lit (.string nm),.sz (fL ks) ks.length] 27 3 true false [])]⟩) ?_ ks.length _ _ ⟨0,rfl,by omega,rfl,rfl⟩
  rintro m t π ⟨i,rfl,hi,rfl,rfl⟩
  by_cases hlt:(i:Int) < (ks.length:Nat)
  ·obtain ⟨k,hk⟩:∃ k,ks[i]? = some k:=⟨ks[i]'(by omega),List.getElem?_eq_getElem (by omega)⟩
   have h1:=size_kid hk
   have h2:=depths_take hk
   have hcut:=fL_cut hk
   have hrec:=ih k (by omega) (by omega)
   have w1:IntKind.i64.wrap (((i:Nat):Int) + 1)=((i + 1:Nat):Int):=by rw [wrap64 (by omega) (by omega)];omega
   have w2:(if ((k.depth:Nat):Int) > ((depths (ks.take i):Nat):Int) then ((k.depth:Nat):Int) else ((depths (ks.take i):Nat):Int))=((depths (ks.take (i + 1)):Nat):Int):=by rw [h2];split <;> omega
   generalize k.depth=kz at *
   obtain ⟨o',nm',ks'⟩:=k
   simp only [fP,fC] at hrec hcut
   simp only [gt_iff_lt] at w2
   repeat (refine PRun.wpn rfl ?_;simp only [wp,wo_nil,wo_p,wo_r,wo_call,onO_s,pv_t,put_some,bi_lss,pevP,pevR,getP,setP,evsP,look,PW.cs?,nthP,Option.map_some,Option.bind_some,Nat.zero_le,Int.natCast_nonneg,Int.toNat_natCast,and_self,true_and,↓reduceIte,Nat.zero_add,ltB_t hlt,hlt,hcut])
   refine .refl (PFun.to (hrec) rfl (POps.wp ?_))
   simp only [wo_nil,wo_p,onO_s,pv_t,put_some,pevP,getP,setP,gt_iff_lt,w2]
   repeat (refine PRun.wpn rfl ?_;simp only [wp,wo_nil,wo_p,onO_s,pv_t,pv_int,put_some,bi_add,pevP,getP,setP,Option.map_some,w1])
   refine Gh.mask (false::true::false::true::true::false::false::false::false::false::false::false::false::false::false::false::false::false::false::false::false::false::[]) ?_
   exact ⟨ks.length - (i + 1),by omega,i + 1,rfl,by omega,rfl,rfl⟩
  ·have hil:i=ks.length:=by omega
   subst hil
   have w3:IntKind.i64.wrap (((depths ks:Nat):Int) + 1)=((depths ks + 1:Nat):Int):=by rw [wrap64 (by omega) (by omega)];omega
   rw [List.take_length]
   repeat (refine PRun.wpn rfl ?_;simp only [wp,wo_nil,wo_p,wo_r,onO_s,pv_t,pv_int,put_some,bi_add,bi_lss,pevP,pevR,getP,setP,look,PW.cs?,nthP,Option.map_some,Option.bind_some,or_true,true_and,↓reduceIte,reduceCtorEq,Bool.false_eq_true,Nat.zero_add,ltB_f hlt,w3])
   exact .refl ⟨_,rfl,.refl _⟩
end
end Go.Proofs.YtnpoloachkcadaaGreatDoor.Ai
namespace Go.Proofs.YtnpoloachkcadaaGreatDoor.Ai
open Go
set_option linter.unusedVariables false
set_option linter.unusedSectionVars false
set_option maxRecDepth 10000
set_option maxHeartbeats 4000000
noncomputable def tkW (w:Int) (o:Nat):Bool:=!(eqB w 1 && (leB 9 (o:Nat) && leB (o:Nat) 15)) && !(eqB w 2 && leB 16 (o:Nat))
theorem ret_ways:∀ b1 b2 b3 b4 b6 b7 bf b10 b11:Bool,(b1 || b2 || (b3 && !b4) || (!b3 && b6) || (b7 && bf) || (b10 && b11))=true→
  b1=true∨(b1=false∧b2=true)∨(b1=false∧b2=false∧b3=true∧b4=false)∨(b1=false∧b2=false∧b3=false∧b6=true)∨
  (b1=false∧b2=false∧b3=true∧b4=true∧b7=true∧bf=true)∨(b1=false∧b2=false∧b3=false∧b6=false∧b7=true∧bf=true)∨
  (b1=false∧b2=false∧b3=true∧b4=true∧b7=true∧bf=false∧b10=true∧b11=true)∨(b1=false∧b2=false∧b3=true∧b4=true∧b7=false∧b10=true∧b11=true)∨
  (b1=false∧b2=false∧b3=false∧b6=false∧b7=true∧bf=false∧b10=true∧b11=true)∨(b1=false∧b2=false∧b3=false∧b6=false∧b7=false∧b10=true∧b11=true):=by
 intro b1 b2 b3 b4 b6 b7 bf b10 b11
 cases b1 <;> cases b2 <;> cases b3 <;> cases b4 <;> cases b6 <;> cases b7 <;> cases bf <;> cases b10 <;> cases b11 <;> decide
theorem on_ways:∀ b1 b2 b3 b4 b6 b7 bf b10 b11:Bool,(b1 || b2 || (b3 && !b4) || (!b3 && b6) || (b7 && bf) || (b10 && b11))=false→
  b1=false∧b2=false∧((b3=true∧b4=true)∨(b3=false∧b6=false))∧((b7=true∧bf=false)∨b7=false)∧((b10=true∧b11=false)∨b10=false):=by
 intro b1 b2 b3 b4 b6 b7 bf b10 b11
 cases b1 <;> cases b2 <;> cases b3 <;> cases b4 <;> cases b6 <;> cases b7 <;> cases bf <;> cases b10 <;> cases b11 <;> decide
theorem neB_not (a b:Int):neB a b = !eqB a b:=by
 by_cases h:a=b
 ·rw [neB_f (by omega),eqB_t h];rfl
 ·rw [neB_t h,eqB_f h];rfl
theorem hall_t (w:Int) (o:Nat) (nm:ByteArray) (ks:List Fm):yesB ((Fm.mk o nm ks).formed (tkW w))=(!(ltB (rk o) 0 || neB ((ks.length:Nat):Int) (rk o) || (eqB (o:Nat) 3 && !yesB (nameOK nm)) || (!eqB (o:Nat) 3 && neS nm ⟨#[]⟩) || (eqB w 1 && (leB 9 (o:Nat) && leB (o:Nat) 15)) || (eqB w 2 && leB 16 (o:Nat))) && yesB (formeds (tkW w) ks)):=by
 by_cases hf:formeds (tkW w) ks
 ·rw [yes_t hf,Bool.and_true]
  by_cases h22:o < 22
  ·have hr:rk o=kt.getD o 0:=if_pos h22
   rw [hr]
   by_cases h1:kt.getD o 0 < 0
   ·rw [ltB_t h1,yes_f (by simp only [Fm.formed];rintro ⟨_,h,_⟩;omega)];rfl
   ·rw [ltB_f h1]
    by_cases h2:((ks.length:Nat):Int)=kt.getD o 0
    ·rw [neB_f h2]
     have key:(Fm.mk o nm ks).formed (tkW w)↔tkW w o=true∧(o=3→nameOK nm)∧(o ≠ 3→nm=⟨#[]⟩):=by
      simp only [Fm.formed]
      exact ⟨fun h=>⟨h.2.2.2.1,h.2.2.2.2.1,h.2.2.2.2.2.1⟩,fun h=>⟨h22,by omega,h2,h.1,h.2.1,h.2.2,hf⟩⟩
     by_cases h3:o=3
     ·have e3:eqB (o:Nat) 3=true:=eqB_t (by omega)
      rw [e3]
      by_cases h4:nameOK nm
      ·rw [yes_t h4]
       cases ht:tkW w o
       ·rw [yes_f (by rw [key];rintro ⟨h,_⟩;rw [ht] at h;cases h)]
        unfold tkW at ht
        revert ht
        cases eqB w 1 <;> cases leB 9 (o:Nat) <;> cases leB (o:Nat) 15 <;> cases eqB w 2 <;> cases leB 16 (o:Nat) <;> simp
       ·rw [yes_t (key.2 ⟨ht,fun _=>h4,fun h=>absurd h3 h⟩)]
        unfold tkW at ht
        revert ht
        cases eqB w 1 <;> cases leB 9 (o:Nat) <;> cases leB (o:Nat) 15 <;> cases eqB w 2 <;> cases leB 16 (o:Nat) <;> simp
      ·rw [yes_f h4,yes_f (by rw [key];rintro ⟨_,h,_⟩;exact h4 (h h3))];rfl
     ·have e3:eqB (o:Nat) 3=false:=eqB_f (by omega)
      rw [e3]
      by_cases h4:nm=⟨#[]⟩
      ·rw [neS_f h4]
       cases ht:tkW w o
       ·rw [yes_f (by rw [key];rintro ⟨h,_⟩;rw [ht] at h;cases h)]
        unfold tkW at ht
        revert ht
        cases eqB w 1 <;> cases leB 9 (o:Nat) <;> cases leB (o:Nat) 15 <;> cases eqB w 2 <;> cases leB 16 (o:Nat) <;> simp
       ·rw [yes_t (key.2 ⟨ht,fun h=>absurd h h3,fun _=>h4⟩)]
        unfold tkW at ht
        revert ht
        cases eqB w 1 <;> cases leB 9 (o:Nat) <;> cases leB (o:Nat) 15 <;> cases eqB w 2 <;> cases leB 16 (o:Nat) <;> simp
      ·rw [neS_t h4,yes_f (by rw [key];rintro ⟨_,_,h⟩;exact h4 (h h3))];rfl
    ·rw [neB_t h2,yes_f (by simp only [Fm.formed];rintro ⟨_,_,h,_⟩;exact h2 h)];rfl
  ·have hr:rk o = -1:=if_neg h22
   rw [hr,ltB_t (show (-1:Int) < 0 by omega),yes_f (by simp only [Fm.formed];rintro ⟨h,_⟩;exact h22 h)];rfl
 ·rw [yes_f hf,Bool.and_false,yes_f (by simp only [Fm.formed];rintro ⟨_,_,_,_,_,_,h⟩;exact hf h)]
theorem tkW2:tkW 2=futB:=by
 funext o
 unfold tkW futB
 rw [eqB_f (show ¬ (2:Int)=1 by omega),eqB_t (show (2:Int)=2 from rfl)]
 by_cases h:o < 16
 ·rw [leB_f (x:=16) (by omega),yes_t h,Bool.false_and];rfl
 ·rw [leB_t (x:=16) (by omega),yes_f h,Bool.false_and];rfl
theorem tkW1:tkW 1=pastB:=by
 funext o
 unfold tkW pastB
 rw [eqB_t (show (1:Int)=1 from rfl),eqB_f (show ¬ (1:Int)=2 by omega)]
 by_cases h:o < 9
 ·rw [leB_f (x:=9) (by omega),yes_t (.inl h)];rfl
 ·rw [leB_t (x:=9) (by omega)]
  by_cases h2:16≤o
  ·rw [leB_f (y:=15) (by omega),yes_t (.inr h2),Bool.false_and];rfl
  ·rw [leB_t (y:=15) (by omega),yes_f (by omega),Bool.false_and];rfl
section
variable {C:Ctx} (hm:C.P.follows .mixedOrders=true) (hC:TabOK C.P C.ng C.ts Tryz.tab)
include hm hC
theorem rformed_ok (w:Int):∀ (n:Nat) (f:Fm),f.size≤n→f.ok→n < 2 ^ 60→PFun C 108 [fP f,.lit (.int .i64 w)] (.lit (.bool (yesB (f.formed (tkW w))))):=by
 intro n
 induction n with
 | zero=>intro f h;have:=f.size_pos;omega
 | succ n ih=>
  intro f hf hok hn
  obtain ⟨o,nm,ks⟩:=f
  simp only [Fm.size] at hf
  simp only [Fm.ok] at hok
  have hlen:=len_sizes ks
  have hks:=hok.2.2
  have k1:=rkids_ok hm hC o
  have k2:=rname_ok hm hC nm (by omega)
  have hall:=hall_t w o nm ks
  have hrk:ltB (rk o) 0=false→neB ((ks.length:Nat):Int) (rk o)=false→rk o=(ks.length:Nat):=by
   intro h1 h2
   by_cases h:((ks.length:Nat):Int)=rk o
   ·exact h.symm
   ·rw [neB_t h] at h2;cases h2
  rw [hall]
  clear hall
  generalize hr:rk o=r at *
  generalize hb1:ltB r 0=b1 at *
  generalize hb2:neB ((ks.length:Nat):Int) r=b2 at *
  generalize hb3:eqB ((o:Nat):Int) 3=b3 at *
  generalize hb4:yesB (nameOK nm)=b4 at *
  have hb5:=neB_not ((o:Nat):Int) 3
  rw [hb3] at hb5
  generalize hb6:neS nm ⟨#[]⟩=b6 at *
  generalize hb7:eqB w 1=b7 at *
  generalize hb8:leB 9 ((o:Nat):Int)=b8 at *
  generalize hb9:leB ((o:Nat):Int) 15=b9 at *
  generalize hb10:eqB w 2=b10 at *
  generalize hb11:leB 16 ((o:Nat):Int)=b11 at *
  refine PFun.body hm hC (show Tryz.tab.get 108=some Tryz.c108 from rfl) rfl ?_
  simp only [Tryz.c108,startP,List.length_cons,List.length_nil,Nat.reduceAdd,Nat.reduceSub,List.replicate,List.cons_append,List.nil_append,fP,fC]
  repeat (refine PRun.wpn rfl ?_;simp only [wp,wo_nil,wo_p,wo_r,wo_n,wo_call,onO_s,onN_s,ble_self,pv_t,pv_bool,put_some,pevP,pevR,pevN,getP,setP,evsP,boxP,look,PW.cs?,PW.push,PW.none,nthP,Option.map_some,Option.bind_some,Nat.zero_le,true_and,↓reduceIte,Nat.add_zero,Nat.zero_add,resPs,resP,tupP])
  refine .refl (PFun.to (k1) rfl (POps.wp ?_))
  simp only [wo_nil,wo_p,onO_s,pv_t,put_some,pevP,getP,setP]
  repeat (refine PRun.wpn rfl ?_;simp only [wp,wo_p,wo_r,wo_call,onO_s,pv_t,put_some,pevP,pevR,getP,setP,evsP,look,PW.cs?,nthP,Option.bind_some,Nat.zero_le,true_and,↓reduceIte,Nat.zero_add])
  refine .refl (PFun.to (k2) rfl (POps.wp ?_))
  simp only [wo_nil,wo_p,onO_s,pv_t,put_some,pevP,getP,setP]
  refine PRun.seqc (fun t π=>t=(.junk::.lit (.int .i64 w)::.ptr 0 0::.junk::.junk::.lit (.int .i64 r)::.lit (.bool b4)::.lit (.bool (b8 && b9))::.junk::.junk::.junk::.junk::.junk::.junk::.junk::.junk::.junk::.junk::.junk::.junk::.junk::.junk::.junk::.junk::.junk::.junk::.junk::.junk::.junk::.junk::.junk::.junk::.junk::.junk::.junk::.junk::.junk::.junk::.junk::.junk::.junk::.junk::.junk::.junk::.junk::.junk::.junk::.junk::.junk::.junk::.junk::.junk::.junk::.junk::.junk::.junk::.junk::.junk::.junk::.junk::.junk::.junk::.junk::.junk::.junk::.junk::.junk::.junk::.junk::.junk::.junk::.junk::.junk::.junk::.junk::.junk::.junk::.junk::.junk::.junk::.junk::.junk::.junk::.junk::[])∧π=⟨1,[(0,.cells [.lit (.int .u8 (o:Nat)),.lit (.string nm),.sz (fL ks) ks.length] 27 3 true false [])]⟩) ?_ ?_
  ·cases b8
   ·repeat (refine PRun.wpn rfl ?_;simp only [wp,wo_nil,wo_p,wo_r,wo_g,onO_s,onG_f,wanted_g,wantB_b,b_ft,pv_t,pv_int,pv_bool,put_some,bi_geq,pevP,pevR,getP,setP,look,PW.cs?,nthP,Option.map_some,Option.bind_some,Bool.false_and,↓reduceIte,Nat.add_zero,hb8])
    refine Gh.mask (false::true::true::false::false::true::true::true::false::false::false::false::false::false::false::false::false::false::false::false::false::false::false::false::false::false::false::false::false::false::false::false::false::false::false::false::false::false::false::false::false::false::false::false::false::false::false::false::false::false::false::false::false::false::false::false::false::false::false::false::false::false::false::false::false::false::false::false::false::false::false::false::false::false::false::false::false::false::false::false::false::false::false::false::[]) ?_
    exact ⟨rfl,rfl⟩
   ·repeat (refine PRun.wpn rfl ?_;simp only [wp,wo_nil,wo_p,wo_r,wo_g,beq_self_eq_true,onO_s,onG_t,wanted_g,wantB_b,pv_t,pv_int,put_some,bi_leq,bi_geq,pevP,pevR,getP,setP,look,PW.cs?,nthP,Option.map_some,Option.bind_some,Bool.true_and,↓reduceIte,Nat.add_zero,hb8,hb9])
    refine Gh.mask (false::true::true::false::false::true::true::true::false::false::false::false::false::false::false::false::false::false::false::false::false::false::false::false::false::false::false::false::false::false::false::false::false::false::false::false::false::false::false::false::false::false::false::false::false::false::false::false::false::false::false::false::false::false::false::false::false::false::false::false::false::false::false::false::false::false::false::false::false::false::false::false::false::false::false::false::false::false::false::false::false::false::false::false::[]) ?_
    exact ⟨rfl,rfl⟩
  rintro t π ⟨rfl,rfl⟩
  generalize (b8 && b9)=bf at *
  refine PRun.wpn rfl ?_
  simp only [wp,wo_nil,wo_p,wo_r,onO_s,pv_t,pv_int,put_some,bi_geq,pevP,pevR,getP,setP,look,PW.cs?,nthP,Option.map_some,Option.bind_some,↓reduceIte,Nat.add_zero,hb11]
  by_cases hP:(b1 || b2 || (b3 && !b4) || (!b3 && b6) || (b7 && bf) || (b10 && b11))=true
  ·rw [hP]
   rcases ret_ways b1 b2 b3 b4 b6 b7 bf b10 b11 hP with rfl | ⟨rfl,rfl⟩ | ⟨rfl,rfl,rfl,rfl⟩ | ⟨rfl,rfl,rfl,rfl⟩ | ⟨rfl,rfl,rfl,rfl,rfl,rfl⟩ | ⟨rfl,rfl,rfl,rfl,rfl,rfl⟩ | ⟨rfl,rfl,rfl,rfl,rfl,rfl,rfl,rfl⟩ | ⟨rfl,rfl,rfl,rfl,rfl,rfl,rfl⟩ | ⟨rfl,rfl,rfl,rfl,rfl,rfl,rfl,rfl⟩ | ⟨rfl,rfl,rfl,rfl,rfl,rfl,rfl⟩
   all_goals
    repeat (refine PRun.wpn rfl ?_;simp only [wp,wo_nil,wo_p,wo_r,wo_g,beq_self_eq_true,onO_s,onG_t,onG_f,wanted_g,wantB_b,wantB_u,b_tf,b_ft,pv_t,pv_int,pv_bool,pv_str,put_some,bi_eql,bi_neq,bi_neqS,bi_lss,pevP,pevR,getP,setP,look,PW.cs?,nthP,Option.map_some,Option.bind_some,or_true,true_and,Bool.false_and,↓reduceIte,reduceCtorEq,Nat.add_zero,Nat.zero_add,Bool.not_true,Bool.not_false,hb1,hb2,hb3,hb5,hb6,hb7,hb10])
    exact .refl ⟨_,rfl,.refl _⟩
  ·have hP':=Bool.eq_false_iff.2 hP
   rw [hP']
   obtain ⟨rfl,rfl,hw1,hw2,hw3⟩:=on_ways b1 b2 b3 b4 b6 b7 bf b10 b11 hP'
   have hrl:=hrk rfl rfl
   refine PRun.seqc (fun t π=>t=(.junk::.lit (.int .i64 w)::.ptr 0 0::.junk::.junk::.lit (.int .i64 r)::.junk::.junk::.junk::.junk::.junk::.junk::.junk::.junk::.junk::.junk::.junk::.junk::.junk::.junk::.junk::.junk::.junk::.junk::.junk::.junk::.junk::.junk::.junk::.junk::.junk::.junk::.junk::.junk::.junk::.junk::.junk::.junk::.junk::.junk::.junk::.junk::.junk::.junk::.junk::.junk::.junk::.junk::.junk::.junk::.junk::.junk::.junk::.junk::.junk::.junk::.junk::.junk::.junk::.junk::.junk::.junk::.junk::.junk::.junk::.junk::.junk::.junk::.junk::.junk::.junk::.junk::.junk::.junk::.junk::.junk::.junk::.junk::.junk::.junk::.junk::.junk::.junk::.junk::[])∧π=⟨1,[(0,.cells [.lit (.int .u8 (o:Nat)),.lit (.string nm),.sz (fL ks) ks.length] 27 3 true false [])]⟩) ?_ ?_
   ·rcases hw1 with ⟨rfl,rfl⟩ | ⟨rfl,rfl⟩ <;> rcases hw2 with ⟨rfl,rfl⟩ | rfl <;> rcases hw3 with ⟨rfl,rfl⟩ | rfl
    all_goals
     repeat (refine PRun.wpn rfl ?_;simp only [wp,wo_nil,wo_p,wo_r,wo_g,beq_self_eq_true,onO_s,onG_t,onG_f,wanted_g,wantB_b,b_ft,pv_t,pv_int,pv_bool,pv_str,put_some,bi_eql,bi_neq,bi_neqS,bi_lss,pevP,pevR,getP,setP,look,PW.cs?,nthP,Option.map_some,Option.bind_some,↓reduceIte,Bool.false_eq_true,Nat.add_zero,Nat.zero_add,Bool.not_true,Bool.not_false,hb1,hb2,hb3,hb5,hb6,hb7,hb10])
     refine Gh.mask (false::true::true::false::false::true::false::false::false::false::false::false::false::false::false::false::false::false::false::false::false::false::false::false::false::false::false::false::false::false::false::false::false::false::false::false::false::false::false::false::false::false::false::false::false::false::false::false::false::false::false::false::false::false::false::false::false::false::false::false::false::false::false::false::false::false::false::false::false::false::false::false::false::false::false::false::false::false::false::false::false::false::false::false::[]) ?_
     exact ⟨rfl,rfl⟩
   rintro t π ⟨rfl,rfl⟩
   subst hrl
   repeat (refine PRun.wpn rfl ?_;simp only [wp,wo_nil,wo_p,onO_s,pv_int,put_some,pevP,setP,Bool.true_and,reduceCtorEq,Bool.not_false])
   refine PRun.gh (Gh.mask (false::true::true::false::false::true::false::false::false::true::false::false::false::false::false::false::false::false::false::false::false::false::false::false::false::false::false::false::false::false::false::false::false::false::false::false::false::false::false::false::false::false::false::false::false::false::false::false::false::false::false::false::false::false::false::false::false::false::false::false::false::false::false::false::false::false::false::false::false::false::false::false::false::false::false::false::false::false::false::false::false::false::false::false::[]) ?_)
   simp only [↓reduceIte,Bool.false_eq_true,maskP]
   refine PRun.loopG (fun m t π=>∃ i:Nat,t=(.junk::.lit (.int .i64 w)::.ptr 0 0::.junk::.junk::.lit (.int .i64 (ks.length:Nat))::.junk::.junk::.junk::.lit (.int .i64 (i:Nat))::.junk::.junk::.junk::.junk::.junk::.junk::.junk::.junk::.junk::.junk::.junk::.junk::.junk::.junk::.junk::.junk::.junk::.junk::.junk::.junk::.junk::.junk::.junk::.junk::.junk::.junk::.junk::.junk::.junk::.junk::.junk::.junk::.junk::.junk::.junk::.junk::.junk::.junk::.junk::.junk::.junk::.junk::.junk::.junk::.junk::.junk::.junk::.junk::.junk::.junk::.junk::.junk::.junk::.junk::.junk::.junk::.junk::.junk::.junk::.junk::.junk::.junk::.junk::.junk::.junk::.junk::.junk::.junk::.junk::.junk::.junk::.junk::.junk::.junk::[])∧i≤ks.length∧m=ks.length - i∧(∀ (j:Nat) (k:Fm),j < i→ks[j]? = some k→k.formed (tkW w))∧π=⟨1,[(0,.cells [.lit (.int .u8 (o:Nat)),.lit (.string nm),.sz (fL ks) ks.length] 27 3 true false [])]⟩) ?_ ks.length _ _ ⟨0,rfl,by omega,rfl,fun j k hj=>by omega,rfl⟩
   rintro m t π ⟨i,rfl,hi,rfl,hal,rfl⟩
   by_cases hlt:(i:Int) < (ks.length:Nat)
   ·obtain ⟨k,hk⟩:∃ k,ks[i]? = some k:=⟨ks[i]'(by omega),List.getElem?_eq_getElem (by omega)⟩
    have h1:=size_kid hk
    have hcut:=fL_cut hk
    have hrec:=ih k (by omega) (oks_get hks hk) (by omega)
    have w1:IntKind.i64.wrap (((i:Nat):Int) + 1)=((i + 1:Nat):Int):=by rw [wrap64 (by omega) (by omega)];omega
    by_cases hkf:k.formed (tkW w)
    ·rw [yes_t hkf] at hrec
     have hal2:∀ (j:Nat) (k:Fm),j < i + 1→ks[j]? = some k→k.formed (tkW w):=by
      intro j k2 hj hk2
      by_cases hji:j=i
      ·subst hji;rw [hk] at hk2;cases hk2;exact hkf
      ·exact hal j k2 (by omega) hk2
     clear hkf
     obtain ⟨o',nm',ks'⟩:=k
     simp only [fP,fC] at hrec hcut
     repeat (refine PRun.wpn rfl ?_;simp only [wp,wo_nil,wo_p,wo_r,wo_call,onO_s,pv_t,put_some,bi_lss,pevP,pevR,getP,setP,evsP,look,PW.cs?,nthP,Option.map_some,Option.bind_some,Nat.zero_le,Int.natCast_nonneg,Int.toNat_natCast,and_self,true_and,↓reduceIte,Nat.zero_add,ltB_t hlt,hlt,hcut])
     refine .refl (PFun.to (hrec) rfl (POps.wp ?_))
     simp only [wo_nil,wo_p,onO_s,pv_t,put_some,pevP,getP,setP]
     repeat (refine PRun.wpn rfl ?_;simp only [wp,wo_nil,wo_p,onO_s,pv_t,pv_int,put_some,bi_add,pevP,getP,setP,Option.map_some,↓reduceIte,Bool.false_eq_true,Bool.not_true,w1])
     refine Gh.mask (false::true::true::false::false::true::false::false::false::true::false::false::false::false::false::false::false::false::false::false::false::false::false::false::false::false::false::false::false::false::false::false::false::false::false::false::false::false::false::false::false::false::false::false::false::false::false::false::false::false::false::false::false::false::false::false::false::false::false::false::false::false::false::false::false::false::false::false::false::false::false::false::false::false::false::false::false::false::false::false::false::false::false::false::[]) ?_
     exact ⟨ks.length - (i + 1),by omega,i + 1,rfl,by omega,rfl,hal2,rfl⟩
    ·rw [yes_f hkf] at hrec
     rw [yes_f (p:=formeds (tkW w) ks) (fun h=>hkf (formeds_iff.1 h i k hk))]
     clear hkf
     obtain ⟨o',nm',ks'⟩:=k
     simp only [fP,fC] at hrec hcut
     repeat (refine PRun.wpn rfl ?_;simp only [wp,wo_nil,wo_p,wo_r,wo_call,onO_s,pv_t,put_some,bi_lss,pevP,pevR,getP,setP,evsP,look,PW.cs?,nthP,Option.map_some,Option.bind_some,Nat.zero_le,Int.natCast_nonneg,Int.toNat_natCast,and_self,true_and,↓reduceIte,Nat.zero_add,ltB_t hlt,hlt,hcut])
     refine .refl (PFun.to (hrec) rfl (POps.wp ?_))
     simp only [wo_nil,wo_p,onO_s,pv_t,put_some,pevP,getP,setP]
     repeat (refine PRun.wpn rfl ?_;simp only [wp,wo_nil,wo_p,onO_s,pv_t,pv_bool,put_some,pevP,getP,setP,or_true,true_and,↓reduceIte,reduceCtorEq,Bool.not_false])
     exact .refl ⟨_,rfl,.refl _⟩
   ·have hil:i=ks.length:=by omega
    rw [yes_t (p:=formeds (tkW w) ks) (formeds_iff.2 fun j k hk=>hal j k (by have:=(List.getElem?_eq_some_iff.1 hk).1;omega) hk)]
    repeat (refine PRun.wpn rfl ?_;simp only [wp,wo_nil,wo_p,onO_s,pv_t,pv_bool,put_some,bi_lss,pevP,getP,setP,Option.map_some,or_true,true_and,↓reduceIte,reduceCtorEq,Bool.false_eq_true,ltB_f hlt])
    exact .refl ⟨_,rfl,.refl _⟩
theorem rright_ok (w:Int) (f:Fm) (hok:f.ok) (hn:f.size < 2 ^ 60):PFun C 62 [fP f,.lit (.int .i64 w)] (.lit (.int .i64 (rightE (tkW w) f))):=by
 have h1:=rformed_ok hm hC w f.size f (Nat.le_refl _) hok hn
 have h2:=rsize_ok hm hC f.size f (Nat.le_refl _) hn
 have h3:=rdepth_ok hm hC f.size f (Nat.le_refl _) hn
 unfold rightE
 by_cases hf:f.formed (tkW w)
 ·rw [yes_t hf] at h1 ⊢
  by_cases hs:(1000:Int) < (f.size:Nat)
  ·rw [yes_t (p:=1000 < f.size∨100 < f.depth) (.inl (by omega))]
   clear hf
   generalize f.size=sz at *
   generalize f.depth=dp at *
   obtain ⟨o,nm,ks⟩:=f
   simp only [fP,fC] at h1 h2 h3
   refine PFun.body hm hC (show Tryz.tab.get 62=some Tryz.c62 from rfl) rfl ?_
   simp only [Tryz.c62,startP,List.length_cons,List.length_nil,Nat.reduceAdd,Nat.reduceSub,List.replicate,List.cons_append,List.nil_append,fP,fC]
   repeat (refine PRun.wpn rfl ?_;simp only [wp,wo_nil,wo_p,wo_r,wo_n,wo_call,onO_s,onN_s,ble_self,pv_t,pv_int,put_some,pevP,pevR,pevN,getP,setP,evsP,boxP,look,PW.cs?,PW.push,PW.none,cut0,cutS,List.drop_zero,Option.map_some,Option.bind_some,Nat.zero_le,true_and,↓reduceIte,Nat.zero_add,resPs,resP,tupP])
   refine .refl (PFun.to (h1) rfl (POps.wp ?_))
   simp only [wo_nil,wo_p,onO_s,pv_t,put_some,pevP,getP,setP]
   repeat (refine PRun.wpn rfl ?_;simp only [wp,wo_nil,wo_p,wo_r,wo_call,onO_s,pv_t,put_some,pevP,pevR,getP,setP,evsP,look,PW.cs?,cut0,cutS,List.drop_zero,Option.map_some,Option.bind_some,Nat.zero_le,true_and,↓reduceIte,Bool.false_eq_true,Bool.not_true])
   refine .refl (PFun.to (h2) rfl (POps.wp ?_))
   simp only [wo_nil,wo_p,wo_g,onO_s,onG_f,wanted_g,wantB_b,b_tf,pv_t,pv_int,pv_bool,put_some,bi_gtr,pevP,getP,setP,Option.map_some,ltB_t hs]
   repeat (refine PRun.wpn rfl ?_;simp only [wp,wo_nil,wo_p,onO_s,pv_t,pv_int,put_some,pevP,getP,setP,or_true,true_and,↓reduceIte,reduceCtorEq])
   exact .refl ⟨_,rfl,.refl _⟩
  ·by_cases hd:(100:Int) < (f.depth:Nat)
   ·rw [yes_t (p:=1000 < f.size∨100 < f.depth) (.inr (by omega))]
    clear hf
    generalize f.size=sz at *
    generalize f.depth=dp at *
    obtain ⟨o,nm,ks⟩:=f
    simp only [fP,fC] at h1 h2 h3
    refine PFun.body hm hC (show Tryz.tab.get 62=some Tryz.c62 from rfl) rfl ?_
    simp only [Tryz.c62,startP,List.length_cons,List.length_nil,Nat.reduceAdd,Nat.reduceSub,List.replicate,List.cons_append,List.nil_append,fP,fC]
    repeat (refine PRun.wpn rfl ?_;simp only [wp,wo_nil,wo_p,wo_r,wo_n,wo_call,onO_s,onN_s,ble_self,pv_t,pv_int,put_some,pevP,pevR,pevN,getP,setP,evsP,boxP,look,PW.cs?,PW.push,PW.none,cut0,cutS,List.drop_zero,Option.map_some,Option.bind_some,Nat.zero_le,true_and,↓reduceIte,Nat.zero_add,resPs,resP,tupP])
    refine .refl (PFun.to (h1) rfl (POps.wp ?_))
    simp only [wo_nil,wo_p,onO_s,pv_t,put_some,pevP,getP,setP]
    repeat (refine PRun.wpn rfl ?_;simp only [wp,wo_nil,wo_p,wo_r,wo_call,onO_s,pv_t,put_some,pevP,pevR,getP,setP,evsP,look,PW.cs?,cut0,cutS,List.drop_zero,Option.map_some,Option.bind_some,Nat.zero_le,true_and,↓reduceIte,Bool.false_eq_true,Bool.not_true])
    refine .refl (PFun.to (h2) rfl (POps.wp ?_))
    simp only [wo_p,wo_r,wo_call,wo_g,beq_self_eq_true,onO_s,onG_t,wanted_g,wantB_b,pv_t,pv_int,put_some,bi_gtr,pevP,pevR,getP,setP,evsP,look,PW.cs?,cut0,cutS,List.drop_zero,Option.map_some,Option.bind_some,Nat.zero_le,true_and,↓reduceIte,ltB_f hs]
    refine .refl (PFun.to (h3) rfl (POps.wp ?_))
    simp only [wo_nil,wo_p,wo_g,beq_self_eq_true,onO_s,onG_t,wanted_g,wantB_b,pv_t,pv_int,put_some,bi_gtr,pevP,getP,setP,Option.map_some,ltB_t hd]
    repeat (refine PRun.wpn rfl ?_;simp only [wp,wo_nil,wo_p,onO_s,pv_t,pv_int,put_some,pevP,getP,setP,or_true,true_and,↓reduceIte,reduceCtorEq])
    exact .refl ⟨_,rfl,.refl _⟩
   ·rw [yes_f (p:=1000 < f.size∨100 < f.depth) (by omega)]
    clear hf
    generalize f.size=sz at *
    generalize f.depth=dp at *
    obtain ⟨o,nm,ks⟩:=f
    simp only [fP,fC] at h1 h2 h3
    refine PFun.body hm hC (show Tryz.tab.get 62=some Tryz.c62 from rfl) rfl ?_
    simp only [Tryz.c62,startP,List.length_cons,List.length_nil,Nat.reduceAdd,Nat.reduceSub,List.replicate,List.cons_append,List.nil_append,fP,fC]
    repeat (refine PRun.wpn rfl ?_;simp only [wp,wo_nil,wo_p,wo_r,wo_n,wo_call,onO_s,onN_s,ble_self,pv_t,pv_int,put_some,pevP,pevR,pevN,getP,setP,evsP,boxP,look,PW.cs?,PW.push,PW.none,cut0,cutS,List.drop_zero,Option.map_some,Option.bind_some,Nat.zero_le,true_and,↓reduceIte,Bool.false_eq_true,Nat.zero_add,resPs,resP,tupP])
    refine .refl (PFun.to (h1) rfl (POps.wp ?_))
    simp only [wo_nil,wo_p,onO_s,pv_t,put_some,pevP,getP,setP]
    repeat (refine PRun.wpn rfl ?_;simp only [wp,wo_nil,wo_p,wo_r,wo_call,onO_s,pv_t,put_some,pevP,pevR,getP,setP,evsP,look,PW.cs?,cut0,cutS,List.drop_zero,Option.map_some,Option.bind_some,Nat.zero_le,true_and,↓reduceIte,Bool.false_eq_true,Bool.not_true])
    refine .refl (PFun.to (h2) rfl (POps.wp ?_))
    simp only [wo_p,wo_r,wo_call,wo_g,beq_self_eq_true,onO_s,onG_t,wanted_g,wantB_b,pv_t,pv_int,put_some,bi_gtr,pevP,pevR,getP,setP,evsP,look,PW.cs?,cut0,cutS,List.drop_zero,Option.map_some,Option.bind_some,Nat.zero_le,true_and,↓reduceIte,ltB_f hs]
    refine .refl (PFun.to (h3) rfl (POps.wp ?_))
    simp only [wo_nil,wo_p,wo_g,beq_self_eq_true,onO_s,onG_t,wanted_g,wantB_b,pv_t,pv_int,put_some,bi_gtr,pevP,getP,setP,Option.map_some,ltB_f hd]
    repeat (refine PRun.wpn rfl ?_;simp only [wp,wo_nil,wo_p,onO_s,pv_t,pv_int,put_some,pevP,getP,setP,or_true,true_and,↓reduceIte,reduceCtorEq,Bool.false_eq_true])
    exact .refl ⟨_,rfl,.refl _⟩
 ·rw [yes_f hf] at h1 ⊢
  clear hf
  generalize f.size=sz at *
  generalize f.depth=dp at *
  obtain ⟨o,nm,ks⟩:=f
  simp only [fP,fC] at h1 h2 h3
  refine PFun.body hm hC (show Tryz.tab.get 62=some Tryz.c62 from rfl) rfl ?_
  simp only [Tryz.c62,startP,List.length_cons,List.length_nil,Nat.reduceAdd,Nat.reduceSub,List.replicate,List.cons_append,List.nil_append,fP,fC]
  repeat (refine PRun.wpn rfl ?_;simp only [wp,wo_nil,wo_p,wo_r,wo_n,wo_call,onO_s,onN_s,ble_self,pv_t,pv_int,put_some,pevP,pevR,pevN,getP,setP,evsP,boxP,look,PW.cs?,PW.push,PW.none,cut0,cutS,List.drop_zero,Option.map_some,Option.bind_some,Nat.zero_le,true_and,↓reduceIte,Bool.false_eq_true,Nat.zero_add,resPs,resP,tupP])
  refine .refl (PFun.to (h1) rfl (POps.wp ?_))
  simp only [wo_nil,wo_p,onO_s,pv_t,put_some,pevP,getP,setP]
  repeat (refine PRun.wpn rfl ?_;simp only [wp,wo_nil,wo_p,onO_s,pv_t,pv_int,put_some,pevP,getP,setP,or_true,true_and,↓reduceIte,reduceCtorEq,Bool.not_false])
  exact .refl ⟨_,rfl,.refl _⟩
theorem rRight_ok (f:Fm) (hok:f.ok) (hn:f.size < 2 ^ 60):PFun C 20 [fP f] (.lit (.int .i64 (rightE futB f))):=by
 have h:=rright_ok hm hC 2 f hok hn
 rw [tkW2] at h
 generalize rightE futB f=r at *
 obtain ⟨o,nm,ks⟩:=f
 simp only [fP,fC] at h
 refine PFun.body hm hC (show Tryz.tab.get 20=some Tryz.c20 from rfl) rfl ?_
 simp only [Tryz.c20,startP,List.length_cons,List.length_nil,Nat.reduceAdd,Nat.reduceSub,List.replicate,List.cons_append,List.nil_append,fP,fC]
 repeat (refine PRun.wpn rfl ?_;simp only [wp,wo_nil,wo_p,wo_r,wo_n,wo_call,onO_s,onN_s,ble_self,pv_t,pv_int,put_some,pevP,pevR,pevN,getP,setP,evsP,boxP,look,PW.cs?,PW.push,PW.none,cut0,cutS,List.drop_zero,Option.map_some,Option.bind_some,Nat.zero_le,true_and,↓reduceIte,Nat.zero_add,resPs,resP,tupP])
 refine .refl (PFun.to (h) rfl (POps.wp ?_))
 simp only [wo_nil,wo_p,onO_s,pv_t,put_some,pevP,getP,setP]
 repeat (refine PRun.wpn rfl ?_;simp only [wp,or_true,true_and,reduceCtorEq])
 exact .refl ⟨_,rfl,.refl _⟩
theorem rRightPast_ok (f:Fm) (hok:f.ok) (hn:f.size < 2 ^ 60):PFun C 21 [fP f] (.lit (.int .i64 (rightE pastB f))):=by
 have h:=rright_ok hm hC 1 f hok hn
 rw [tkW1] at h
 generalize rightE pastB f=r at *
 obtain ⟨o,nm,ks⟩:=f
 simp only [fP,fC] at h
 refine PFun.body hm hC (show Tryz.tab.get 21=some Tryz.c21 from rfl) rfl ?_
 simp only [Tryz.c21,startP,List.length_cons,List.length_nil,Nat.reduceAdd,Nat.reduceSub,List.replicate,List.cons_append,List.nil_append,fP,fC]
 repeat (refine PRun.wpn rfl ?_;simp only [wp,wo_nil,wo_p,wo_r,wo_n,wo_call,onO_s,onN_s,ble_self,pv_t,pv_int,put_some,pevP,pevR,pevN,getP,setP,evsP,boxP,look,PW.cs?,PW.push,PW.none,cut0,cutS,List.drop_zero,Option.map_some,Option.bind_some,Nat.zero_le,true_and,↓reduceIte,Nat.zero_add,resPs,resP,tupP])
 refine .refl (PFun.to (h) rfl (POps.wp ?_))
 simp only [wo_nil,wo_p,onO_s,pv_t,put_some,pevP,getP,setP]
 repeat (refine PRun.wpn rfl ?_;simp only [wp,or_true,true_and,reduceCtorEq])
 exact .refl ⟨_,rfl,.refl _⟩
end
end Go.Proofs.YtnpoloachkcadaaGreatDoor.Ai
namespace Go.Proofs.YtnpoloachkcadaaGreatDoor.Ai
open Go
set_option linter.unusedVariables false
set_option linter.unusedSectionVars false
set_option maxRecDepth 10000
set_option maxHeartbeats 1000000
def pS:ByteArray:=⟨#[112]⟩
def qS:ByteArray:=⟨#[113]⟩
def exF:Fm:=.mk 12 ⟨#[]⟩ [.mk 3 pS [],.mk 5 ⟨#[]⟩ [.mk 3 qS [],.mk 9 ⟨#[]⟩ [.mk 3 pS []]]]
theorem pS_ok:nameOK pS:=by
 refine ⟨by decide,by decide,fun j hj=>?_⟩
 have s:pS.size=1:=rfl
 rw [s] at hj
 rcases j with _ | j
 ·show charOK 112
  unfold charOK;decide
 ·omega
theorem qS_ok:nameOK qS:=by
 refine ⟨by decide,by decide,fun j hj=>?_⟩
 have s:qS.size=1:=rfl
 rw [s] at hj
 rcases j with _ | j
 ·show charOK 113
  unfold charOK;decide
 ·omega
theorem ex_zero:rightE futB exF=0:=by
 have fut:∀ o,o < 16→futB o=true:=fun o h=>yes_t h
 have pr:∀ s,nameOK s→(Fm.mk 3 s []).formed futB:=fun s h=>⟨by omega,by decide,rfl,fut 3 (by omega),fun _=>h,fun h=>absurd rfl h,trivial⟩
 refine rightE_zero.2 ⟨?_,?_⟩
 ·exact ⟨by omega,by decide,rfl,fut 12 (by omega),fun h=>by omega,fun _=>rfl,pr _ pS_ok,⟨by omega,by decide,rfl,fut 5 (by omega),fun h=>by omega,fun _=>rfl,pr _ qS_ok,⟨by omega,by decide,rfl,fut 9 (by omega),fun h=>by omega,fun _=>rfl,pr _ pS_ok,trivial⟩,trivial⟩,trivial⟩
 ·simp [exF,Fm.size,sizes,Fm.depth,depths]
theorem ex_ok:exF.ok:=by
 simp only [exF,Fm.ok,oks,List.length_cons,List.length_nil]
 have h1:pS.size=1:=rfl
 have h2:qS.size=1:=rfl
 have h3:(⟨#[]⟩:ByteArray).size=0:=rfl
 simp [h1,h2,h3]
theorem ex_ops:exF.opsOK:=by simp [exF,Fm.opsOK,opsOKs]
section
variable {C:Ctx} (hm:C.P.follows .mixedOrders=true) (hC:TabOK C.P C.ng C.ts Tryz.tab)
include hm hC
theorem rprop_ok (s:ByteArray):PFun C 54 [.lit (.string s)] (fP (.mk 3 s [])):=by
 refine PFun.body hm hC (show Tryz.tab.get 54=some Tryz.c54 from rfl) rfl ?_
 simp only [Tryz.c54,startP,List.length_cons,List.length_nil,Nat.reduceAdd,Nat.reduceSub,List.replicate,List.cons_append,List.nil_append,fP,fC]
 repeat (refine PRun.wpn rfl ?_;simp only [wp,wo_nil,wo_p,wo_n,wo_st,beq_self_eq_true,onO_s,onN_s,onE_s,ble_self,ble_succ,pv_t,pv_int,ov_nil,ov_cons,ov_int,ov_str,ov_nilS,put_some,put_none,pevP,pevR,pevN,pevE,getP,setP,fillP,spliceP,overP,plainP,isCell,look,PW.cs?,PW.push,PW.none,List.length_cons,List.length_nil,Option.map_some,Option.bind_some,or_true,true_and,Bool.and_true,↓reduceIte,reduceCtorEq,ltL,lt,Nat.reduceAdd,Bool.false_eq_true,Nat.zero_add,allPlain,PW.wr,setO,killO,Bool.or_self,Bool.not_true,resPs,resP,tupP,List.length_cons,List.length_nil])
 exact .refl ⟨_,rfl,.agg (.cons (.refl _) (.cons (.refl _) (.cons .nil_sz .nil)))⟩
theorem rone_ok (o:Nat) (f:Fm):PFun C 55 [.lit (.int .u8 (o:Nat)),fP f] (fP (.mk o ⟨#[]⟩ [f])):=by
 obtain ⟨o1,n1,k1⟩:=f
 refine PFun.body hm hC (show Tryz.tab.get 55=some Tryz.c55 from rfl) rfl ?_
 simp only [Tryz.c55,startP,List.length_cons,List.length_nil,Nat.reduceAdd,Nat.reduceSub,List.replicate,List.cons_append,List.nil_append,fP,fC,fL]
 repeat (refine PRun.wpn rfl ?_;simp only [wp,wo_nil,wo_p,wo_r,wo_n,wo_st,beq_self_eq_true,onO_s,onN_s,onE_s,ble0,ble_self,ble_succ,pv_t,ov_nil,ov_cons,ov_int,ov_str,ov_nilS,put_some,put_none,pevP,pevR,pevN,pevE,getP,setP,fillP,boxP,spliceP,overP,plainP,isCell,look,PW.cs?,PW.push,PW.none,cut0,cutS,List.length_cons,List.length_nil,List.drop_zero,Option.map_some,Option.bind_some,or_true,true_and,Bool.and_true,↓reduceIte,reduceCtorEq,ltL,lt,Nat.reduceAdd,Nat.reduceEqDiff,Bool.false_eq_true,Nat.zero_add,allPlain,PW.wr,setO,killO,Bool.or_self,Bool.not_true,resPs,resP,tupP,List.length_cons,List.length_nil])
 refine Gh.frz 2 rfl rfl rfl ?_
 simp only [List.drop_zero,↓reduceIte,reduceCtorEq,Nat.reduceEqDiff,frzL,frzP,frzO,frzH,Nat.le_refl]
 exact .refl ⟨_,rfl,.agg (.cons (.refl _) (.cons (.refl _) (.cons .sl_sz .nil)))⟩
theorem rtwo_ok (o:Nat) (f g:Fm):PFun C 61 [.lit (.int .u8 (o:Nat)),fP f,fP g] (fP (.mk o ⟨#[]⟩ [f,g])):=by
 obtain ⟨o1,n1,k1⟩:=f
 obtain ⟨o2,n2,k2⟩:=g
 refine PFun.body hm hC (show Tryz.tab.get 61=some Tryz.c61 from rfl) rfl ?_
 simp only [Tryz.c61,startP,List.length_cons,List.length_nil,Nat.reduceAdd,Nat.reduceSub,List.replicate,List.cons_append,List.nil_append,fP,fC,fL]
 repeat (refine PRun.wpn rfl ?_;simp only [wp,wo_nil,wo_p,wo_r,wo_n,wo_st,beq_self_eq_true,onO_s,onN_s,onE_s,ble0,ble_self,ble_succ,pv_t,ov_nil,ov_cons,ov_int,ov_str,ov_nilS,put_some,put_none,pevP,pevR,pevN,pevE,getP,setP,fillP,boxP,spliceP,overP,plainP,isCell,look,PW.cs?,PW.push,PW.none,cut0,cutS,List.length_cons,List.length_nil,List.drop_zero,Option.map_some,Option.bind_some,or_true,true_and,Bool.and_true,↓reduceIte,reduceCtorEq,ltL,lt,Nat.reduceAdd,Nat.reduceEqDiff,Bool.false_eq_true,Nat.zero_add,allPlain,PW.wr,setO,killO,Bool.or_self,Bool.not_true,resPs,resP,tupP,List.length_cons,List.length_nil])
 refine Gh.frz 3 rfl rfl rfl ?_
 simp only [List.drop_zero,↓reduceIte,reduceCtorEq,Nat.reduceEqDiff,frzL,frzP,frzO,frzH,Nat.le_refl]
 exact .refl ⟨_,rfl,.agg (.cons (.refl _) (.cons (.refl _) (.cons .sl_sz .nil)))⟩
theorem rex_ok:PFun C 19 [] (fP exF):=by
 have h1:=rprop_ok hm hC pS
 have h2:=rprop_ok hm hC qS
 have h3:=rone_ok hm hC 9 (.mk 3 pS [])
 have h4:=rtwo_ok hm hC 5 (.mk 3 qS []) (.mk 9 ⟨#[]⟩ [.mk 3 pS []])
 have h5:=rtwo_ok hm hC 12 (.mk 3 pS []) (.mk 5 ⟨#[]⟩ [.mk 3 qS [],.mk 9 ⟨#[]⟩ [.mk 3 pS []]])
 unfold exF
 generalize Fm.mk 5 ⟨#[]⟩ [.mk 3 qS [],.mk 9 ⟨#[]⟩ [.mk 3 pS []]]=a at *
 generalize Fm.mk 9 ⟨#[]⟩ [.mk 3 pS []]=b at *
 generalize hc:Fm.mk 3 pS []=c at *
 generalize hd:Fm.mk 3 qS []=d at *
 generalize Fm.mk 12 ⟨#[]⟩ [c,a]=e at *
 unfold pS at h1
 unfold qS at h2
 obtain ⟨oa,na,ka⟩:=a
 obtain ⟨ob,nb,kb⟩:=b
 obtain ⟨oc,nc,kc⟩:=c
 obtain ⟨od,nd,kd⟩:=d
 obtain ⟨oe,ne,ke⟩:=e
 simp only [fP,fC] at h1 h2 h3 h4 h5 ⊢
 refine PFun.body hm hC (show Tryz.tab.get 19=some Tryz.c19 from rfl) rfl ?_
 simp only [Tryz.c19,startP,List.length_nil,Nat.reduceSub,List.replicate,List.nil_append]
 repeat (refine PRun.wpn rfl ?_;simp only [wp,wo_nil,wo_n,wo_call,onN_s,ble_self,pv_t,pv_str,ov_nil,ov_cons,ov_int,ov_str,ov_nilS,put_some,pevR,pevN,setP,evsP,PW.cs?,PW.push,PW.none,Nat.zero_le,true_and,Bool.and_true,↓reduceIte,ltL,lt,Nat.zero_add,resPs,resP,tupP])
 refine .refl (PFun.to (h1) rfl (POps.wp ?_))
 simp only [wo_call,pv_str,put_some,setP,evsP,Nat.zero_le,true_and]
 refine .refl (PFun.to (h2) rfl (POps.wp ?_))
 simp only [wo_call,pv_str,put_some,setP,evsP,Nat.zero_le,true_and]
 refine .refl (PFun.to (h1) rfl (POps.wp ?_))
 simp only [wo_call,pv_t,pv_int,put_some,setP,evsP,Nat.zero_le,true_and]
 refine .refl (PFun.to (h3) rfl (POps.wp ?_))
 simp only [wo_call,pv_t,pv_int,put_some,setP,evsP,Nat.zero_le,true_and]
 refine .refl (PFun.to (h4) rfl (POps.wp ?_))
 simp only [wo_call,pv_t,pv_int,put_some,setP,evsP,Nat.zero_le,true_and]
 refine .refl (PFun.to (h5) rfl (POps.wp ?_))
 simp only [wo_nil,wo_st,onE_s,ble_succ,pv_t,put_none,pevE,getP,setP,spliceP,overP,plainP,isCell,look,List.length_cons,List.length_nil,Option.map_some,Bool.and_true,↓reduceIte,Nat.reduceAdd,Bool.false_eq_true,Nat.zero_add,allPlain,PW.wr,setO,killO,Bool.or_self,Bool.not_true,List.length_cons,List.length_nil]
 repeat (refine PRun.wpn rfl ?_;simp only [wp,or_true,true_and,reduceCtorEq])
 exact .refl ⟨_,rfl,.refl _⟩
theorem rights_run (o1:Nat) (n1:ByteArray) (k1:List Fm) (hw:PFun C 14 [] (.lit (.bool true))) (hmu:PFun C 15 [.sl (fL [.mk o1 n1 k1]) 1] (.lit (.bool false))) (l1:PFun C 16 [fP (.mk o1 n1 k1)] (lP (.mk o1 n1 k1))) (w1:PFun C 22 [lP (.mk o1 n1 k1),fP (.mk o1 n1 k1)] (.lit (.bool true)))
  (rf rp:Int) (c1:PFun C 17 [lP (.mk o1 n1 k1)] (.lit (.int .i64 rf))) (c2:PFun C 18 [lP (.mk o1 n1 k1)] (.lit (.int .i64 rp))) (c3:PFun C 20 [fP (.mk o1 n1 k1)] (.lit (.int .i64 rf))) (c4:PFun C 21 [fP (.mk o1 n1 k1)] (.lit (.int .i64 rp)))
  (oe:Nat) (ne:ByteArray) (ke:List Fm) (ce:PFun C 19 [] (fP (.mk oe ne ke))) (c5:PFun C 17 [fP (.mk oe ne ke)] (.lit (.int .i64 0))):PTop C Tryz.tab 4 [fP (.mk o1 n1 k1)] (.lit (.bool true)):=by
 simp only [fP,fC,fL,lP,lC,List.cons_append,List.nil_append] at hmu l1 w1 c1 c2 c3 c4 ce c5
 have e1:=neB_f (show rf=rf from rfl)
 have e2:=neB_f (show rp=rp from rfl)
 have e3:=neB_f (show (0:Int)=0 from rfl)
 refine PTop.body (show Tryz.tab.get 4=some Tryz.c4 from rfl) ?_
 simp only [Tryz.c4,startP,List.length_cons,List.length_nil,Nat.reduceAdd,Nat.reduceSub,List.replicate,List.cons_append,List.nil_append,fP,fC]
 repeat (refine PRun.wpn rfl ?_;simp only [wp,wo_nil,wo_p,wo_n,wo_call,onO_s,onN_s,ble_self,pv_t,pv_bool,put_some,pevP,pevN,getP,setP,evsP,boxP,PW.push,PW.none,Option.map_some,Nat.zero_le,true_and,Nat.zero_add,resPs,resP,tupP])
 refine .refl (PFun.to (hw) rfl (POps.wp ?_))
 simp only [wo_nil,wo_p,onO_s,pv_t,put_some,pevP,getP,setP]
 repeat (refine PRun.wpn rfl ?_;simp only [wp,wo_r,wo_n,wo_call,onO_s,onN_s,ble_succ,pv_t,ov_nil,ov_cons,ov_int,ov_str,ov_nilS,put_some,pevR,pevN,getP,setP,evsP,fillP,spliceP,overP,look,PW.cs?,PW.push,cut0,cutS,List.length_cons,List.length_nil,List.drop_zero,Option.map_some,Option.bind_some,Nat.zero_le,true_and,Bool.and_true,↓reduceIte,ltL,lt,Nat.reduceAdd,Nat.zero_add,List.length_cons,List.length_nil])
 refine Gh.frz 1 rfl rfl rfl ?_
 simp only [List.drop_zero,↓reduceIte,reduceCtorEq,frzL,frzP,frzO,frzH,Nat.le_refl]
 refine .refl (PFun.to (hmu) rfl (POps.wp ?_))
 simp only [wo_nil,wo_p,onO_s,pv_t,put_some,pevP,getP,setP]
 repeat (refine PRun.wpn rfl ?_;simp only [wp,wo_nil,wo_p,wo_r,wo_call,onO_s,pv_t,put_some,pevP,pevR,getP,setP,evsP,look,PW.cs?,cut0,cutS,List.drop_zero,Option.map_some,Option.bind_some,Nat.zero_le,true_and,↓reduceIte,Bool.false_eq_true])
 refine .refl (PFun.to (l1) rfl (POps.wp ?_))
 simp only [wo_nil,wo_n,wo_st,onN_s,onE_s,ble0,pv_t,ov_nil,ov_cons,ov_int,ov_str,ov_nilS,put_some,put_none,pevN,pevE,getP,setP,spliceP,overP,plainP,isCell,look,PW.push,List.length_cons,List.length_nil,Option.map_some,Bool.and_true,↓reduceIte,ltL,lt,Nat.reduceAdd,Bool.false_eq_true,Nat.zero_add,allPlain,PW.wr,setO,killO,Bool.or_self,Bool.not_true,List.length_cons,List.length_nil]
 repeat (refine PRun.wpn rfl ?_;simp only [wp,wo_nil,wo_p,onO_s,pv_int,put_some,pevP,setP,reduceCtorEq])
 refine PRun.gh (Gh.frz 0 rfl rfl rfl ?_)
 simp only [List.drop_zero,↓reduceIte,reduceCtorEq,frzL,frzP,frzO,frzH]
 refine Gh.frz 2 rfl rfl rfl ?_
 simp only [List.drop_zero,↓reduceIte,frzL,frzP,frzH]
 refine Gh.mr (false::true::false::true::false::true::true::false::false::false::false::false::false::false::false::false::false::false::false::false::false::false::false::false::false::false::false::false::false::false::false::false::false::false::false::false::false::false::false::false::false::false::false::false::false::false::false::false::[]) [] 0 rfl ?_
 simp only [↓reduceIte,Bool.false_eq_true,renL,renP,renH,maskP]
 refine PRun.loopG (fun m t π=>∃ i:Nat,i≤2∧m=2 - i∧t=(.junk::.ref [.lit (.int .u8 (o1:Nat)),.lit (.string n1),.sz (fL k1) k1.length]::.junk::.lit (.bool true)::.junk::.ref [.lit (.int .u8 (o1:Nat)),.lit (.string n1),.sp (lL k1++ownC) k1.length (k1.length + 1)]::.lit (.int .i64 (i:Nat))::.junk::.junk::.junk::.junk::.junk::.junk::.junk::.junk::.junk::.junk::.junk::.junk::.junk::.junk::.junk::.junk::.junk::.junk::.junk::.junk::.junk::.junk::.junk::.junk::.junk::.junk::.junk::.junk::.junk::.junk::.junk::.junk::.junk::.junk::.junk::.junk::.junk::.junk::.junk::.junk::.junk::[])∧π=⟨0,[]⟩) ?_ 2 _ _ ⟨0,by omega,rfl,rfl,rfl⟩
 rintro m t π ⟨i,hi,rfl,rfl,rfl⟩
 by_cases hlt:(i:Int) < 2
 ·have w2:IntKind.i64.wrap (((i:Nat):Int) + 1)=((i + 1:Nat):Int):=by rw [wrap64 (by omega) (by omega)];omega
  repeat (refine PRun.wpn rfl ?_;simp only [wp,wo_nil,wo_p,wo_r,wo_call,onO_s,pv_t,pv_int,put_some,bi_lss,pevP,pevR,getP,setP,evsP,cut0,cutS,Option.map_some,Nat.zero_le,true_and,↓reduceIte,ltB_t hlt])
  refine .refl (PFun.to (c1) rfl (POps.wp ?_))
  simp only [wo_nil,wo_p,onO_s,pv_t,put_some,pevP,getP,setP]
  repeat (refine PRun.wpn rfl ?_;simp only [wp,wo_r,wo_call,onO_s,pv_t,put_some,pevR,getP,setP,evsP,cut0,cutS,Option.map_some,Nat.zero_le,true_and])
  refine .refl (PFun.to (c2) rfl (POps.wp ?_))
  simp only [wo_nil,wo_p,onO_s,pv_t,put_some,pevP,getP,setP]
  repeat (refine PRun.wpn rfl ?_;simp only [wp,wo_call,put_some,evsP,Nat.zero_le,true_and])
  refine .refl (PFun.to (ce) rfl (POps.wp ?_))
  simp only [wo_call,pv_t,put_some,setP,evsP,Nat.zero_le,true_and]
  refine .refl (PFun.to (c5) rfl (POps.wp ?_))
  simp only [wo_nil,wo_p,onO_s,pv_t,put_some,pevP,getP,setP]
  repeat (refine PRun.wpn rfl ?_;simp only [wp,wo_p,wo_r,wo_call,onO_s,pv_t,put_some,pevP,pevR,getP,setP,evsP,cut0,cutS,Option.map_some,Nat.zero_le,true_and])
  refine .refl (PFun.to (c3) rfl (POps.wp ?_))
  simp only [wo_p,wo_r,wo_call,wo_g,beq_self_eq_true,onO_s,onG_t,wanted_g,wantB_b,pv_t,put_some,bi_neq,pevP,pevR,getP,setP,evsP,cut0,cutS,Option.map_some,Nat.zero_le,true_and,e1]
  refine .refl (PFun.to (c4) rfl (POps.wp ?_))
  simp only [wo_nil,wo_p,wo_g,beq_self_eq_true,onO_s,onG_t,wanted_g,wantB_b,pv_t,pv_int,put_some,bi_neq,pevP,getP,setP,Option.map_some,e2,e3]
  repeat (refine PRun.wpn rfl ?_;simp only [wp,wo_nil,wo_p,onO_s,pv_t,pv_int,put_some,bi_add,pevP,getP,setP,Option.map_some,↓reduceIte,Bool.false_eq_true,w2])
  refine Gh.mask (false::true::false::true::false::true::true::false::false::false::false::false::false::false::false::false::false::false::false::false::false::false::false::false::false::false::false::false::false::false::false::false::false::false::false::false::false::false::false::false::false::false::false::false::false::false::false::false::[]) ?_
  exact ⟨2 - (i + 1),by omega,i + 1,by omega,rfl,rfl,rfl⟩
 ·repeat (refine PRun.wpn rfl ?_;simp only [wp,wo_nil,wo_p,wo_r,wo_call,wo_g,beq_self_eq_true,onO_s,onG_t,wanted_g,wantB_b,pv_t,pv_int,put_some,bi_lss,pevP,pevR,getP,setP,evsP,cut0,cutS,Option.map_some,Nat.zero_le,true_and,↓reduceIte,Bool.false_eq_true,ltB_f hlt])
  refine .refl (PFun.to (w1) rfl (POps.wp ?_))
  simp only [wo_nil,wo_p,onO_s,pv_t,put_some,pevP,getP,setP]
  repeat (refine PRun.wpn rfl ?_;simp only [wp,or_true,true_and,reduceCtorEq])
  exact .refl ⟨_,rfl,.refl _⟩
end
section
variable {C:Ctx} (hm:C.P.follows .mixedOrders=true) (hC:TabOK C.P C.ng C.ts Tryz.tab) {itS:Nat→ByteArray} (hI:∀ i:Nat,i < 2 ^ 40→PFun C 91 [.lit (.int .i64 (i:Nat))] (.lit (.string (itS i)))) (hIs:∀ i:Nat,i < 2 ^ 40→(itS i).size≤20)
include hm hC hI hIs
theorem rights_top (hG0:C.G 0=some kidsC) (hw:PFun C 14 [] (.lit (.bool true))) (f:Fm) (of:f.ok) (pf:f.opsOK):PTop C Tryz.tab 4 [fP f] (.lit (.bool true)):=by
 have hmu:=much_ok hm hC [f] ⟨of,trivial⟩ (by simp)
 by_cases hmm:1048576 < muchN 0 [f]
 ·rw [yes_t hmm] at hmu
  clear hmm
  obtain ⟨o1,n1,k1⟩:=f
  simp only [fC,fL,List.cons_append,List.nil_append,List.length_cons,List.length_nil,Nat.reduceAdd] at hmu
  refine PTop.body (show Tryz.tab.get 4=some Tryz.c4 from rfl) ?_
  simp only [Tryz.c4,startP,List.length_cons,List.length_nil,Nat.reduceAdd,Nat.reduceSub,List.replicate,List.cons_append,List.nil_append,fP,fC]
  repeat (refine PRun.wpn rfl ?_;simp only [wp,wo_nil,wo_p,wo_n,wo_call,onO_s,onN_s,ble_self,pv_t,pv_bool,put_some,pevP,pevN,getP,setP,evsP,boxP,PW.push,PW.none,Option.map_some,Nat.zero_le,true_and,Nat.zero_add,resPs,resP,tupP])
  refine .refl (PFun.to (hw) rfl (POps.wp ?_))
  simp only [wo_nil,wo_p,onO_s,pv_t,put_some,pevP,getP,setP]
  repeat (refine PRun.wpn rfl ?_;simp only [wp,wo_r,wo_n,wo_call,onO_s,onN_s,ble_succ,pv_t,ov_nil,ov_cons,ov_int,ov_str,ov_nilS,put_some,pevR,pevN,getP,setP,evsP,fillP,spliceP,overP,look,PW.cs?,PW.push,cut0,cutS,List.length_cons,List.length_nil,List.drop_zero,Option.map_some,Option.bind_some,Nat.zero_le,true_and,Bool.and_true,↓reduceIte,ltL,lt,Nat.reduceAdd,Nat.zero_add,List.length_cons,List.length_nil])
  refine Gh.frz 1 rfl rfl rfl ?_
  simp only [List.drop_zero,↓reduceIte,reduceCtorEq,frzL,frzP,frzO,frzH,Nat.le_refl]
  refine .refl (PFun.to (hmu) rfl (POps.wp ?_))
  simp only [wo_nil,wo_p,onO_s,pv_t,put_some,pevP,getP,setP]
  repeat (refine PRun.wpn rfl ?_;simp only [wp,wo_nil,wo_p,onO_s,pv_t,put_some,pevP,getP,setP,or_true,true_and,↓reduceIte,reduceCtorEq])
  exact .refl ⟨_,rfl,.refl _⟩
 have s0:f.size≤1048576:=by
  simp only [muchN] at hmm
  rw [if_pos (by omega)] at hmm
  have:=size_wt f 0 (by omega)
  omega
 rw [yes_f hmm] at hmu
 have l1:=lent_ok hm hC f.size f (Nat.le_refl _) (by omega)
 have w1:=whole_ok hm hC f.size f (Nat.le_refl _) (by omega)
 have c1:=(right_ok hm hC hG0 f of pf (by omega)).wkA (.cons (wk_l f) .nil)
 have c2:=(rightPast_ok hm hC hG0 f of pf (by omega)).wkA (.cons (wk_l f) .nil)
 have c3:=rRight_ok hm hC f of (by omega)
 have c4:=rRightPast_ok hm hC f of (by omega)
 have ce:=rex_ok hm hC
 have c5:=right_ok hm hC hG0 exF ex_ok ex_ops (by simp [exF,Fm.size,sizes])
 rw [ex_zero] at c5
 generalize rightE futB f=rf at *
 generalize rightE pastB f=rp at *
 generalize exF=ex at *
 clear hmm s0
 obtain ⟨o1,n1,k1⟩:=f
 obtain ⟨oe,ne,ke⟩:=ex
 exact rights_run hm hC o1 n1 k1 hw hmu l1 w1 rf rp c1 c2 c3 c4 oe ne ke ce c5
end
end Go.Proofs.YtnpoloachkcadaaGreatDoor.Ai
