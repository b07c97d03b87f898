/- A PART OF THE PROOF: a step of the proof that the law's code does what its contracts say, by an interpreter of the program's functions that is proved to be sound. -/
import Derived.Test.YtnpoloachkcadaaGreatDoorTbA
import Derived.Test.YtnpoloachkcadaaGreatDoorPv3
import Derived.ChangeArms
import Derived.DataReads
namespace Go.Proofs.YtnpoloachkcadaaGreatDoor.Ai
open Go
set_option linter.unusedVariables false
set_option linter.unusedSectionVars false
structure FmT (P:Program) (tO:TypeId):Prop where
 u27:∃ fs:Array Field,P.underlying 27=some (.struct fs)∧fs.size=3∧fs.toList.map (·.type)=[tO,9,25]∧(∃ f,fs[0]? = some f∧f.type=tO∧f.offset=0)∧(∃ f,fs[1]? = some f∧f.type=9∧f.offset=1)∧(∃ f,fs[2]? = some f∧f.type=25∧f.offset=2)
 uO:P.underlying tO=some (.int .u8)
 u9:P.underlying 9=some .string
 u25:P.underlying 25=some (.slice 27)
 c27:P.cellsOf 27=3
 cO:P.cellsOf tO=1
 c9:P.cellsOf 9=1
 c25:P.cellsOf 25=1
 b27:0 < P.bytesOf 27
section
variable {H:Type} {enc:TypeId × Value→H} {P:Program} {ng:Nat} {ts:List TypeId} {W:World} {tO:TypeId}
def OpenAny (P:Program) (ng:Nat) (ts:List TypeId) (W:World) (vs:List Value) (ps:List PV):Prop:=
 ∀ σ μ I,Op P ng ts W σ μ I→Opens P ng ts W σ μ I vs ps
theorem OpenAny.nil:OpenAny P ng ts W [] []:=fun σ μ I h=>⟨σ,μ,I,[],h,.refl,rfl,by simp [RdL],rfl⟩
theorem OpenAny.append {vs ws:List Value} {ps qs:List PV} (h:OpenAny P ng ts W vs ps) (k:OpenAny P ng ts W ws qs):OpenAny P ng ts W (vs++ws) (ps++qs):=by
 intro σ μ I ho
 obtain ⟨σ1,μ1,I1,us1,o1,l1,c1,r1,t1⟩:=h σ μ I ho
 obtain ⟨σ2,μ2,I2,us2,o2,l2,c2,r2,t2⟩:=k σ1 μ1 I1 o1
 refine ⟨σ2,μ2,I2,us1++us2,o2,l1.trans l2,?_,(r1.mono l2.i (Eta.le_refl _)).append r2,ltL_append.2 ⟨ltL_mono l2.n _ t1,t2⟩⟩
 rw [concL_app,c2,concL_congr l2.m us1 t1,c1]
theorem OpenAny.lit {u:Value} (h:lt 0 u=true):OpenAny P ng ts W [u] [.lit u]:=fun σ μ I ho=>
 ⟨σ,μ,I,[u],ho,.refl,by simp [concL,conc_zero _ _ h],by simp only [RdL];exact ⟨rd_mk h,trivial⟩,by simp [ltL,lt_mono (Nat.zero_le _) _ h]⟩
theorem Addr.add_none {b o:Nat} (j:Nat):(⟨b,o,none⟩:Addr).add j=⟨b,o + j,none⟩:=by
 unfold Addr.add
 split
 ·rename_i h;subst h;rfl
 ·rfl
theorem cells3 {w:World} {a:Addr} {row:List Value} (hs:a.spot=none) (h:w.cells? 0 a 3=some row):∃ C t fr,w.heap[a.block]? = some (.cells C t fr)∧row=(C.toList.drop a.off).take 3∧a.off + 3≤C.size:=by
 obtain ⟨b,o,s⟩:=a
 simp only at hs;subst hs
 unfold World.cells? at h
 rw [if_pos (Nat.zero_le _)] at h
 have e:List.range 3=[0,1,2]:=rfl
 rw [e] at h
 simp only [List.mapM_cons,List.mapM_nil,Option.bind_eq_bind,Option.bind_eq_some_iff] at h
 obtain ⟨v0,h0,r0,⟨v1,h1,r1,⟨v2,h2,r2,h3,h4⟩,h5⟩,h6⟩:=h
 simp at h3 h4 h5 h6
 subst h3 h4 h5 h6
 obtain ⟨C,t,fr,hC,g0⟩:=cell_at (W:=w) (a:=⟨b,o,none⟩) rfl h0
 obtain ⟨C1,t1,fr1,hC1,g1⟩:=cell_at (W:=w) (a:=⟨b,o,none⟩) rfl h1
 obtain ⟨C2,t2,fr2,hC2,g2⟩:=cell_at (W:=w) (a:=⟨b,o,none⟩) rfl h2
 simp only at hC hC1 hC2 g0 g1 g2
 rw [hC] at hC1 hC2
 simp only [Option.some.injEq,Obj.cells.injEq] at hC1 hC2
 obtain ⟨rfl,_⟩:=hC1
 obtain ⟨rfl,_⟩:=hC2
 have q0:=Array.getElem?_eq_some_iff.1 g0
 have q1:=Array.getElem?_eq_some_iff.1 g1
 have q2:=Array.getElem?_eq_some_iff.1 g2
 obtain ⟨l2,e2⟩:=q2
 obtain ⟨l1,e1⟩:=q1
 obtain ⟨l0,e0⟩:=q0
 refine ⟨C,t,fr,hC,?_,by show o + 3≤C.size;omega⟩
 show [v0,v1,v2]=(C.toList.drop o).take 3
 have d0:=List.drop_eq_getElem_cons (l:=C.toList) (i:=o) (by simp;omega)
 have d1:=List.drop_eq_getElem_cons (l:=C.toList) (i:=o + 1) (by simp;omega)
 have d2:=List.drop_eq_getElem_cons (l:=C.toList) (i:=o + 1 + 1) (by simp;omega)
 rw [d0,d1,d2]
 simp only [List.take_succ_cons,List.take_zero,Array.getElem_toList]
 rw [← e0,← e1,← e2]
 rfl
theorem rows_flat (l:List Value):∀ n,(((List.range n).map fun i=>(l.drop (i * 3)).take 3).flatten)=l.take (n * 3)
 | 0=>by simp
 | n + 1=>by
  rw [List.range_succ,List.map_append,List.flatten_append,rows_flat l n]
  simp only [List.map_cons,List.map_nil,List.flatten_cons,List.flatten_nil,List.append_nil]
  rw [show (n + 1) * 3=n * 3 + 3 by omega,List.take_add]
theorem rows_open:∀ {rows:List (List Value)},(∀ r∈rows,∃ f:Fm,f.ok∧f.opsOK∧OpenAny P ng ts W r (fC f))→∃ gs:List Fm,gs.length=rows.length∧oks gs∧opsOKs gs∧OpenAny P ng ts W rows.flatten (fL gs)
 | [],_=>⟨[],rfl,trivial,trivial,by simpa [fL] using OpenAny.nil⟩
 | r::rows,h=>by
  obtain ⟨f,h1,h2,h3⟩:=h r (by simp)
  obtain ⟨gs,g1,g2,g3,g4⟩:=rows_open (rows:=rows) fun x hx=>h x (by simp [hx])
  exact ⟨f::gs,by simp [g1],⟨h1,g2⟩,⟨h2,g3⟩,by simp only [List.flatten_cons,fL];exact h3.append g4⟩
theorem oks_takeR {ks:List Fm} (h:opsOKs ks) (i:Nat):opsOKs (ks.take i):=by
 induction ks generalizing i with
 | nil=>simp [opsOKs]
 | cons x ks ih=>cases i with
  | zero=>simp [opsOKs]
  | succ i=>exact ⟨h.1,ih h.2 i⟩
theorem mem_weights {P:Program} {t:TypeId} {H:Type} {d:DataW H} {m:Nat} (hm:m∈d.weights P t):∀ {l:List (DataW H)},d∈l→m∈DataW.weightsAll P t l
 | [],h=>by simp at h
 | x::l,h=>by
  simp only [DataW.weightsAll,List.mem_append]
  rcases List.mem_cons.1 h with rfl | h
  ·exact .inl hm
  ·exact .inr (mem_weights hm h)
theorem kids_open (T:FmT P tO) (hb:∃ (b:Nat) (C:Array Value) (t:TypeId) (fr:Nat × Nat),W.heap[b]? = some (.cells C t fr)) {fuel:Nat} (ih:∀ n,n < fuel→∀ cs x,DataW.trod enc P W 0 (fun _=>true) true n 27 cs=some x→(∀ m∈x.1.weights P 27,m≤reachBytes)→∃ f:Fm,f.ok∧f.opsOK∧OpenAny P ng ts W cs (fC f))
  {v:Value} {x:DataW H × List MemPlace} (h:DataW.trod enc P W 0 (fun _=>true) true fuel 25 [v]=some x) (hw:∀ m∈x.1.weights P 25,m≤reachBytes):∃ ks:List Fm,ks.length < 2 ^ 50∧oks ks∧opsOKs ks∧OpenAny P ng ts W [v] [.sz (fL ks) ks.length]:=by
 rcases DataW.trod_slice T.u25 h with ⟨h1,_⟩ | ⟨a,len,cap,elems,rest,n,rfl,h1,hx,_,hlc,hcap,hel,hE,hR,_⟩
 ·simp at h1;subst h1
  refine ⟨[],by simp,trivial,trivial,fun σ μ I ho=>⟨σ,μ,I,[.slice none 0 0],ho,.refl,by simp [concL,conc],by simp only [RdL];exact ⟨by simp [Rd],trivial⟩,by simp [ltL,lt]⟩⟩
 ·simp at h1;subst h1
  have hreach:reachBytes < 2 ^ 50:=by decide
  by_cases hc0:cap=0
  ·have hl0:len=0:=by omega
   subst hc0 hl0
   refine ⟨[],by simp,trivial,trivial,fun σ μ I ho=>?_⟩
   obtain ⟨b0,C,t,fr,hC⟩:=hb
   obtain ⟨o1,l1⟩:=ho.skip ⟨a.block,0,0⟩
   obtain ⟨o2,l2⟩:=o1.add (blk:=b0) (off:=0) (us:=[]) rfl ⟨C,t,fr,hC,by simp,fun k v hk=>by simp at hk⟩
   refine ⟨_,_,_,[.slice (some ⟨σ.next,a.off,a.spot⟩) 0 0],o2,l1.trans l2,?_,?_,?_⟩
   ·have hμ:upd (upd μ σ.next ⟨a.block,0,0⟩) σ.bump.next ⟨b0,0,0⟩ σ.next=⟨a.block,0,0⟩:=by
     rw [l2.m σ.next (Nat.lt_succ_self _),upd_same]
    simp only [concL,conc,cAddr,hμ,Nat.zero_add,Nat.add_zero]
   ·simp only [RdL,Rd]
    exact ⟨.inl ⟨rfl,.inr ⟨_,σ.bump.next,[],rfl,Nat.le_succ _,by simp [Img.set]⟩⟩,trivial⟩
   ·simp [ltL,lt];exact Nat.lt_succ_of_lt (Nat.lt_succ_self _)
  ·
   have hrow:∀ i,i < cap→∃ row x',W.cells? 0 (a.add (i * 3)) 3=some row∧DataW.trod enc P W 0 (fun _=>true) true n 27 row=some x'∧∀ m∈x'.1.weights P 27,m≤reachBytes:=by
    intro i hi
    rw [T.c27] at hE
    obtain ⟨hr1,hr2⟩:=hR rfl
    rw [T.c27] at hr2
    by_cases hil:i < len
    ·have h2:=hE i hil
     rw [List.getElem?_eq_getElem (by omega),Option.bind_eq_some_iff] at h2
     obtain ⟨row,h3,h4⟩:=h2
     exact ⟨row,_,h3,h4,fun m hm=>hw m (by
      rw [hx];simp only [DataW.weights,T.u25,List.mem_cons,List.mem_append]
      exact .inr (.inl (mem_weights hm (List.mem_map_of_mem (List.getElem_mem _)))))⟩
    ·have h2:=hr2 (i - len) (by omega)
     rw [List.getElem?_eq_getElem (by omega),Option.bind_eq_some_iff] at h2
     obtain ⟨row,h3,h4⟩:=h2
     rw [show len + (i - len)=i by omega] at h3
     exact ⟨row,_,h3,h4,fun m hm=>hw m (by
      rw [hx];simp only [DataW.weights,T.u25,List.mem_cons,List.mem_append]
      exact .inr (.inr (mem_weights hm (List.mem_map_of_mem (List.getElem_mem _)))))⟩
   have hsp:a.spot=none:=by
    obtain ⟨row,_,h3,_,_⟩:=hrow 0 (by omega)
    unfold World.cells? at h3
    rw [if_pos (Nat.zero_le _)] at h3
    have e:List.range 3=[0,1,2]:=rfl
    rw [e] at h3
    simp only [List.mapM_cons,Option.bind_eq_bind,Option.bind_eq_some_iff] at h3
    obtain ⟨v0,h0,_⟩:=h3
    have:=World.cell?_spot h0
    simpa [Addr.add] using this
   obtain ⟨b,o,s⟩:=a
   simp only at hsp;subst hsp
   obtain ⟨row0,_,h30,_,_⟩:=hrow 0 (by omega)
   rw [Addr.add_none] at h30
   obtain ⟨C,t,fr,hC,_,_⟩:=cells3 rfl h30
   simp only at hC
   have hrow2:∀ i,i < cap→((C.toList.drop o).drop (i * 3)).take 3=((C.toList.drop o).drop (i * 3)).take 3∧o + i * 3 + 3≤C.size∧∃ x',DataW.trod enc P W 0 (fun _=>true) true n 27 (((C.toList.drop o).drop (i * 3)).take 3)=some x'∧∀ m∈x'.1.weights P 27,m≤reachBytes:=by
    intro i hi
    obtain ⟨row,x',h3,h4,h5⟩:=hrow i hi
    rw [Addr.add_none] at h3
    obtain ⟨C',t',fr',hC',he,hs⟩:=cells3 rfl h3
    simp only at hC' he hs
    rw [hC] at hC'
    simp only [Option.some.injEq,Obj.cells.injEq] at hC'
    obtain ⟨rfl,_⟩:=hC'
    refine ⟨rfl,hs,x',?_,h5⟩
    rw [List.drop_drop,← he];exact h4
   obtain ⟨gs,g1,g2,g3,g4⟩:=rows_open (P:=P) (ng:=ng) (ts:=ts) (W:=W) (rows:=(List.range cap).map fun i=>((C.toList.drop o).drop (i * 3)).take 3) (by
    intro r hr
    simp only [List.mem_map,List.mem_range] at hr
    obtain ⟨i,hi,rfl⟩:=hr
    obtain ⟨_,_,x',hx',hx2⟩:=hrow2 i hi
    exact ih n (Nat.lt_succ_self _) _ _ hx' hx2)
   rw [rows_flat] at g4
   simp at g1
   have hsz:=(hrow2 (cap - 1) (by omega)).2.1
   have htl:(gs.take len).length=len:=by rw [List.length_take];omega
   have hlw:len < 2 ^ 50:=by
    have:=hw ((elems.length + rest.length) * P.bytesOf 27) (by rw [hx];simp only [DataW.weights,T.u25,List.length_map,List.mem_cons,true_or])
    have h2:elems.length + rest.length≤(elems.length + rest.length) * P.bytesOf 27:=Nat.le_mul_of_pos_right _ T.b27
    omega
   refine ⟨gs.take len,by rw [htl];exact hlw,oks_take g2 len,oks_takeR g3 len,fun σ μ I ho=>?_⟩
   obtain ⟨σ1,μ1,I1,us,o1,l1,c1,r1,t1⟩:=g4 σ μ I ho
   have hul:us.length=cap * 3:=by
    have:=congrArg List.length c1
    rw [concL_len,List.length_take,List.length_drop] at this
    simp at this;omega
   obtain ⟨o2,l2⟩:=o1.add (blk:=b) (off:=o) (us:=us) t1 ⟨C,t,fr,hC,by omega,fun k v hk=>by
    have h1:(concL μ1 us)[k]? = some (conc μ1 v):=by rw [concL_eq,List.getElem?_map,hk];rfl
    rw [c1,List.getElem?_take] at h1
    split at h1
    ·rw [List.getElem?_drop] at h1;simpa using h1
    ·simp at h1⟩
   refine ⟨_,_,_,[.slice (some ⟨σ1.next,0,none⟩) len cap],o2,l1.trans l2,?_,?_,?_⟩
   ·simp [concL,conc,cAddr,upd_same]
   ·simp only [RdL,Rd]
    refine ⟨.inr ⟨σ1.next,0,cap,us,us.take (len * 3),us.drop (len * 3),by rw [htl],by rw [htl];exact hlc,by simp [Img.set],by simp,?_⟩,trivial⟩
    have hfl:fL (gs.take len)=(fL gs).take (len * 3):=by
     have e:=fL_app (gs.take len) (gs.drop len)
     rw [List.take_append_drop] at e
     rw [e,show len * 3=(fL (gs.take len)).length by rw [fL_len,htl],List.take_left]
    rw [hfl]
    exact (r1.take _).mono l2.i (Eta.le_refl _)
   ·simp [ltL,lt]
theorem fm_open (T:FmT P tO) (hb:∃ (b:Nat) (C:Array Value) (t:TypeId) (fr:Nat × Nat),W.heap[b]? = some (.cells C t fr)):∀ (fuel:Nat) (cs:List Value) (x:DataW H × List MemPlace),DataW.trod enc P W 0 (fun _=>true) true fuel 27 cs=some x→(∀ m∈x.1.weights P 27,m≤reachBytes)→∃ f:Fm,f.ok∧f.opsOK∧OpenAny P ng ts W cs (fC f):=by
 intro fuel
 induction fuel using Nat.strongRecOn with
 | ind fuel ih=>
  intro cs x h hw
  obtain ⟨fs,hu,hfs,hty,⟨f0,a0,a1,a2⟩,⟨f1,b0,b1,b2⟩,⟨f2,c0,c1,c2⟩⟩:=T.u27
  obtain ⟨xs,n,rfl,hx,hl,hxl,hf⟩:=DataW.trod_struct hu h
  rw [T.c27] at hl
  obtain ⟨v0,v1,v2,rfl⟩:∃ a b c,cs=[a,b,c]:=by
   match cs,hl with
   | [a,b,c],_=>exact ⟨a,b,c,rfl⟩
  have g0:=hf 0 f0 a0
  have g1:=hf 1 f1 b0
  have g2:=hf 2 f2 c0
  rw [a1,a2,T.cO,List.getElem?_eq_getElem (by omega)] at g0
  rw [b1,b2,T.c9,List.getElem?_eq_getElem (by omega)] at g1
  rw [c1,c2,T.c25,List.getElem?_eq_getElem (by omega)] at g2
  simp only [List.drop_zero,List.drop_succ_cons,List.take_succ_cons,List.take_zero] at g0 g1 g2
  obtain ⟨x0,x1,x2,rfl⟩:∃ a b c,xs=[a,b,c]:=by
   match xs,hxl.trans hfs with
   | [a,b,c],_=>exact ⟨a,b,c,rfl⟩
  simp only [List.getElem_cons_zero,List.getElem_cons_succ] at g0 g1 g2
  obtain ⟨o,hv0,_,hwf⟩:=DataW.trod_int T.uO g0
  obtain ⟨s,hv1,hx1,hs⟩:=DataW.trod_string T.u9 g1
  have hwx:∀ m,m∈x1.1.weights P 9∨m∈x2.1.weights P 25→m≤reachBytes:=fun m hm=>hw m (by
   rw [hx]
   simp only [DataW.weights,hu,hty,List.map_cons,List.map_nil,DataW.weightsEach,List.mem_append]
   rcases hm with hm | hm
   ·exact .inr (.inl hm)
   ·exact .inr (.inr (.inl hm)))
  have hsz:s.size≤reachBytes:=by
   have:=hwx s.data.toList.length (.inl (by rw [hx1];simp [DataW.weights]))
   rwa [ba_size] at this
  simp at hv0 hv1
  subst hv0 hv1
  have hreach:reachBytes < 2 ^ 50:=by decide
  obtain ⟨ks,k1,k2,k3,k4⟩:=kids_open (ng:=ng) (ts:=ts) T hb (fuel:=n) (fun m hm cs x hx hy=>ih m (by omega) cs x hx hy) g2 (fun m hm=>hwx m (.inr hm))
  have ho:0≤o∧o < 256:=by
   simp [Lit.wf,IntKind.min,IntKind.max,IntKind.signed,IntKind.bits] at hwf
   omega
  refine ⟨.mk o.toNat s ks,⟨by omega,k1,k2⟩,⟨by omega,k3⟩,?_⟩
  have e:fC (.mk o.toNat s ks)=[.lit (.int .u8 o)]++([.lit (.string s)]++[.sz (fL ks) ks.length]):=by
   simp only [fC,List.cons_append,List.nil_append]
   rw [Int.toNat_of_nonneg ho.1]
  rw [e]
  exact (OpenAny.lit (by simp [lt])).append ((OpenAny.lit (by simp [lt])).append k4)
end
end Go.Proofs.YtnpoloachkcadaaGreatDoor.Ai
namespace Go.Proofs.YtnpoloachkcadaaGreatDoor.Ai
open Go
set_option linter.unusedVariables false
set_option linter.unusedSectionVars false
def TR (a b c:Int):Prop:=(a≤0→b≤0→c≤0∧(a < 0∨b < 0→c < 0))∧(0≤a→0≤b→0≤c∧(0 < a∨0 < b→0 < c))
theorem TR.or {a b c a' b' c':Int} (h:TR a b c) (k:a=0→b=0→c=0→TR a' b' c'):TR (orZ a a') (orZ b b') (orZ c c'):=by
 have e:∀ x y:Int,(x=0∧orZ x y=y)∨(x ≠ 0∧orZ x y=x):=by
  intro x y
  unfold orZ
  by_cases hx:x=0
  ·exact .inl ⟨hx,by simp [neB_iff,hx]⟩
  ·exact .inr ⟨hx,by simp [neB_iff,hx]⟩
 rcases e a a' with ⟨h1,e1⟩ | ⟨h1,e1⟩ <;> rcases e b b' with ⟨h2,e2⟩ | ⟨h2,e2⟩ <;> rcases e c c' with ⟨h3,e3⟩ | ⟨h3,e3⟩ <;> rw [e1,e2,e3]
 ·exact k h1 h2 h3
 all_goals (unfold TR at *;omega)
theorem cmpZ_tr (a b c:Int):TR (cmpZ a b) (cmpZ b c) (cmpZ a c):=by
 unfold cmpZ TR
 simp only [ltB_iff]
 repeat' split
 all_goals simp <;> omega
theorem cmpB_tr:∀ a b c:List UInt8,TR (Go.Lib.compareBytes a b) (Go.Lib.compareBytes b c) (Go.Lib.compareBytes a c)
 | [],[],[]=>by simp [Go.Lib.compareBytes,TR]
 | [],[],_::_=>by simp [Go.Lib.compareBytes,TR]
 | [],_::_,[]=>by simp [Go.Lib.compareBytes,TR]
 | _::_,[],[]=>by simp [Go.Lib.compareBytes,TR]
 | _::_,_::_,[]=>by simp only [Go.Lib.compareBytes,TR];omega
 | [],_::_,_::_=>by simp only [Go.Lib.compareBytes,TR];omega
 | _::_,[],_::_=>by simp [Go.Lib.compareBytes,TR]
 | a::as,b::bs,c::cs=>by
  have ih:=cmpB_tr as bs cs
  simp only [Go.Lib.compareBytes,UInt8.lt_iff_toNat_lt]
  unfold TR at *
  repeat' split
  all_goals first | omega | simp_all
theorem cmpB_eq:∀ {a b:List UInt8},Go.Lib.compareBytes a b=0→a=b
 | [],[],_=>rfl
 | [],_::_,h=>by simp [Go.Lib.compareBytes] at h
 | _::_,[],h=>by simp [Go.Lib.compareBytes] at h
 | a::as,b::bs,h=>by
  simp only [Go.Lib.compareBytes,UInt8.lt_iff_toNat_lt] at h
  split at h
  ·simp at h
  ·split at h
   ·simp at h
   ·have:a=b:=UInt8.toNat_inj.1 (by omega)
    rw [this,cmpB_eq h]
theorem cmpZ_eq {a b:Int} (h:cmpZ a b=0):a=b:=by
 unfold cmpZ at h
 simp only [ltB_iff] at h
 split at h
 ·simp at h
 ·split at h
  ·simp at h
  ·omega
theorem orZ_eq {a b:Int} (h:orZ a b=0):a=0∧b=0:=by
 unfold orZ at h
 by_cases ha:a=0
 ·simp only [neB_iff,ha,ne_eq,not_true_eq_false,if_false] at h
  exact ⟨ha,h⟩
 ·simp only [neB_iff,ne_eq,ha,not_false_eq_true,if_true] at h
theorem cmpS_eq {a b:ByteArray} (h:cmpS a b=0):a=b:=by
 have:=cmpB_eq h
 obtain ⟨⟨a⟩⟩:=a;obtain ⟨⟨b⟩⟩:=b
 simp at this;subst this;rfl
mutual
theorem cmp_tr:∀ f g h:Fm,TR (f.cmp g) (g.cmp h) (f.cmp h)
 | .mk o n ks,.mk o' n' ks',.mk o2 n2 ks2=>by
  simp only [Fm.cmp]
  refine TR.or ?_ ?_
  ·exact (cmpZ_tr _ _ _).or fun _ _ _=>TR.or (cmpB_tr _ _ _) fun _ _ _=>cmpZ_tr _ _ _
  ·intro h1 h2 _
   have e1:=cmpZ_eq (orZ_eq (orZ_eq h1).2).2
   have e2:=cmpZ_eq (orZ_eq (orZ_eq h2).2).2
   exact cmps_tr ks ks' ks2 (by omega) (by omega)
theorem cmps_tr:∀ a b c:List Fm,a.length=b.length→b.length=c.length→TR (cmps a b) (cmps b c) (cmps a c)
 | [],[],[],_,_=>by simp [cmps,TR]
 | x::a,y::b,z::c,h1,h2=>by
  simp only [cmps]
  exact (cmp_tr x y z).or fun _ _ _=>cmps_tr a b c (by simpa using h1) (by simpa using h2)
 | [],_::_,_,h1,_=>by simp at h1
 | _::_,[],_,h1,_=>by simp at h1
 | [],[],_::_,_,h2=>by simp at h2
 | _::_,_::_,[],_,h2=>by simp at h2
end
mutual
theorem cmp_eq:∀ f g:Fm,f.cmp g=0→f=g
 | .mk o n ks,.mk o' n' ks',h=>by
  simp only [Fm.cmp] at h
  obtain ⟨h1,h2⟩:=orZ_eq h
  obtain ⟨h3,h4⟩:=orZ_eq h1
  obtain ⟨h5,h6⟩:=orZ_eq h4
  have e1:=cmpZ_eq h3
  have e2:=cmpS_eq h5
  have e3:=cmpZ_eq h6
  have e4:=cmps_eq ks ks' (by omega) h2
  have:o=o':=by omega
  rw [this,e2,e4]
theorem cmps_eq:∀ a b:List Fm,a.length=b.length→cmps a b=0→a=b
 | [],[],_,_=>rfl
 | x::a,y::b,h1,h=>by
  simp only [cmps] at h
  obtain ⟨h2,h3⟩:=orZ_eq h
  rw [cmp_eq x y h2,cmps_eq a b (by simpa using h1) h3]
 | [],_::_,h1,_=>by simp at h1
 | _::_,[],h1,_=>by simp at h1
end
theorem orZ_zero {a b:Int} (ha:a=0) (hb:b=0):orZ a b=0:=by
 subst ha hb
 simp [orZ]
theorem cmpB_refl:∀ a:List UInt8,Go.Lib.compareBytes a a=0
 | []=>rfl
 | a::as=>by simp only [Go.Lib.compareBytes,UInt8.lt_iff_toNat_lt,Nat.lt_irrefl,if_false];exact cmpB_refl as
theorem cmpZ_refl (a:Int):cmpZ a a=0:=by
 unfold cmpZ
 simp only [ltB_iff]
 rw [if_neg (by omega),if_neg (by omega)]
mutual
theorem cmp_refl:∀ f:Fm,f.cmp f=0
 | .mk o n ks=>by
  simp only [Fm.cmp]
  exact orZ_zero (orZ_zero (cmpZ_refl _) (orZ_zero (cmpB_refl _) (cmpZ_refl _))) (cmps_refl ks)
theorem cmps_refl:∀ a:List Fm,cmps a a=0
 | []=>by simp [cmps]
 | x::a=>by
  simp only [cmps]
  exact orZ_zero (cmp_refl x) (cmps_refl a)
end
mutual
theorem size_wt:∀ (f:Fm) (d:Nat),f.wt d≤2147483647→f.size≤f.wt d
 | .mk o n ks,d,h=>by
  simp only [Fm.wt,Fm.size] at h ⊢
  split at h
  ·omega
  ·rename_i hd
   rw [if_neg hd]
   have:=sizes_wt ks (d + 1) (1 + n.size) h
   omega
theorem sizes_wt:∀ (ks:List Fm) (d n:Nat),wts d n ks≤2147483647→n + sizes ks≤wts d n ks
 | [],d,n,h=>by simp [wts,sizes]
 | k::ks,d,n,h=>by
  simp only [wts,sizes] at h ⊢
  split at h
  ·rename_i hn
   rw [if_pos hn]
   have h1:=sizes_wt ks d (n + k.wt d) h
   have h2:=size_wt k d (by omega)
   omega
  ·omega
end
end Go.Proofs.YtnpoloachkcadaaGreatDoor.Ai
namespace Go.Proofs.YtnpoloachkcadaaGreatDoor.Ai
open Go
set_option linter.unusedVariables false
set_option linter.unusedSectionVars false
structure Sub (x f:Fm):Prop where
 formed:∀ tk,f.formed tk→x.formed tk
 size:x.size≤f.size
 depth:x.depth≤f.depth
 ok:f.ok→x.ok
 ops:f.opsOK→x.opsOK
theorem Sub.refl (f:Fm):Sub f f:=⟨fun _ h=>h,Nat.le_refl _,Nat.le_refl _,id,id⟩
theorem visitss_in (itS:Nat→ByteArray) (p:ByteArray):∀ (ks:List Fm) (i:Nat) (y:ByteArray × Fm),y∈visitss itS p i ks→∃ (j:Nat) (k:Fm),ks[j]? = some k∧∃ p',y∈k.visits itS p'
 | [],i,y,h=>by simp [visitss] at h
 | k::ks,i,y,h=>by
  simp only [visitss,List.mem_append] at h
  rcases h with h | h
  ·exact ⟨0,k,rfl,_,h⟩
  ·obtain ⟨j,k',h1,h2⟩:=visitss_in itS p ks (i + 1) y h
   exact ⟨j + 1,k',by simpa using h1,h2⟩
theorem sub_visits (itS:Nat→ByteArray):∀ (n:Nat) (f:Fm),f.size≤n→∀ (p:ByteArray) (y:ByteArray × Fm),y∈f.visits itS p→Sub y.2 f∧(y=(p,f)∨(y.2.size < f.size∧y.2.depth < f.depth)):=by
 intro n
 induction n with
 | zero=>intro f h;have:=f.size_pos;omega
 | succ n ih=>
  intro f hn p y hy
  obtain ⟨o,nm,ks⟩:=f
  simp only [Fm.visits,List.mem_cons] at hy
  rcases hy with rfl | hy
  ·exact ⟨.refl _,.inl rfl⟩
  ·obtain ⟨j,k,h1,p',h2⟩:=visitss_in itS p ks 0 y hy
   have hs:=size_kid h1
   have hd:k.depth≤depths ks:=by
    have h3:=depths_take h1
    have h4:=depths_le ks (j + 1)
    omega
   simp only [Fm.size] at hn ⊢
   simp only [Fm.depth]
   obtain ⟨g1,g2⟩:=ih k (by omega) p' y h2
   have a:=g1.size
   have b:=g1.depth
   refine ⟨⟨fun tk h=>g1.formed tk (formeds_iff.1 (by simp only [Fm.formed] at h;exact h.2.2.2.2.2.2) j k h1),by simp only [Fm.size];omega,by simp only [Fm.depth];omega,fun h=>g1.ok (oks_get (by simp only [Fm.ok] at h;exact h.2.2) h1),fun h=>g1.ops (opsOKs_get (by simp only [Fm.opsOK] at h;exact h.2) h1)⟩,.inr ⟨by omega,by omega⟩⟩
theorem rightE_zero {tk:Nat→Bool} {f:Fm}:rightE tk f=0↔f.formed tk∧¬ (1000 < f.size∨100 < f.depth):=by
 unfold rightE
 by_cases h1:f.formed tk
 ·rw [yes_t h1]
  by_cases h2:1000 < f.size∨100 < f.depth
  ·rw [yes_t h2];simp [h2]
  ·rw [yes_f h2];simp [h1,h2]
 ·rw [yes_f h1];simp [h1]
end Go.Proofs.YtnpoloachkcadaaGreatDoor.Ai
namespace Go.Proofs.YtnpoloachkcadaaGreatDoor.Ai
open Go
set_option linter.unusedVariables false
set_option linter.unusedSectionVars false
set_option maxRecDepth 10000
section
variable {C:Ctx} (hm:C.P.follows .mixedOrders=true) (hC:TabOK C.P C.ng C.ts Tryz.tab)
include hm hC
theorem past_ok (o:Nat):PFun C 60 [.lit (.int .u8 (o:Nat))] (.lit (.bool (pastB o))):=by
 refine PFun.body hm hC (show Tryz.tab.get 60=some Tryz.c60 from rfl) rfl ?_
 simp only [Tryz.c60,startP,List.length_cons,List.length_nil,Nat.reduceAdd,Nat.reduceSub,List.replicate,List.cons_append,List.nil_append]
 by_cases h:((o:Nat):Int) < 9
 ·repeat (refine PRun.wpn rfl ?_;simp only [wp,wo_nil,wo_p,wo_g,onO_s,onG_f,wanted_g,wantB_b,b_tf,pv_t,pv_int,pv_bool,put_some,bi_lss,pevP,getP,setP,PW.none,Option.map_some,or_true,true_and,reduceCtorEq,resPs,resP,tupP,ltB_t h])
  rw [show pastB o=true from yes_t (by omega)]
  exact .refl ⟨_,rfl,.refl _⟩
 ·by_cases h2:(16:Int)≤(o:Nat)
  ·repeat (refine PRun.wpn rfl ?_;simp only [wp,wo_nil,wo_p,wo_g,beq_self_eq_true,onO_s,onG_t,wanted_g,wantB_b,pv_t,pv_int,pv_bool,put_some,bi_lss,bi_geq,pevP,getP,setP,PW.none,Option.map_some,or_true,true_and,reduceCtorEq,resPs,resP,tupP,ltB_f h,leB_t h2])
   rw [show pastB o=true from yes_t (by omega)]
   exact .refl ⟨_,rfl,.refl _⟩
  ·repeat (refine PRun.wpn rfl ?_;simp only [wp,wo_nil,wo_p,wo_g,beq_self_eq_true,onO_s,onG_t,wanted_g,wantB_b,pv_t,pv_int,pv_bool,put_some,bi_lss,bi_geq,pevP,getP,setP,PW.none,Option.map_some,or_true,true_and,reduceCtorEq,resPs,resP,tupP,ltB_f h,leB_f h2])
   rw [show pastB o=false from yes_f (by omega)]
   exact .refl ⟨_,rfl,.refl _⟩
theorem rightPast_ok (hG0:C.G 0=some kidsC) (f:Fm) (ho:f.ok) (hop:f.opsOK) (hn:f.size < 2 ^ 60):PFun C 18 [fP f] (.lit (.int .i64 (rightE pastB f))):=by
 have h1:=right58_ok hm hC 60 pastB hG0 (fun o _=>past_ok hm hC o) f ho hop hn
 generalize rightE pastB f=r at h1
 obtain ⟨o,nm,ks⟩:=f
 simp only [fP,fC,tkP] at h1
 refine PFun.body hm hC (show Tryz.tab.get 18=some Tryz.c18 from rfl) rfl ?_
 simp only [Tryz.c18,startP,List.length_cons,List.length_nil,Nat.reduceAdd,Nat.reduceSub,List.replicate,List.cons_append,List.nil_append,fP,fC]
 repeat (refine PRun.wpn rfl ?_;simp only [wp,wo_nil,wo_p,wo_r,wo_n,wo_call,onO_s,onN_s,ble_self,pv_t,pv_int,put_some,pv_f,pevP,pevR,pevN,getP,setP,evsP,boxP,look,PW.cs?,PW.push,PW.none,cut0,cutS,List.drop_zero,Option.map_some,Option.bind_some,Nat.zero_le,true_and,↓reduceIte,Nat.zero_add,resPs,resP,tupP])
 refine .refl (PFun.to (h1) rfl (POps.wp ?_))
 simp only [wo_nil,wo_p,onO_s,pv_t,put_some,pevP,getP,setP]
 repeat (refine PRun.wpn rfl ?_;simp only [wp,or_true,true_and,reduceCtorEq])
 exact .refl ⟨_,rfl,.refl _⟩
end
end Go.Proofs.YtnpoloachkcadaaGreatDoor.Ai
namespace Go.Proofs.YtnpoloachkcadaaGreatDoor.Ai
open Go
set_option linter.unusedVariables false
set_option linter.unusedSectionVars false
set_option maxRecDepth 10000
open Classical in
mutual
noncomputable def Fm.gs (nm:ByteArray) (s:Nat):Fm→Nat
 | .mk o n ks=>if o=3∧n=nm then s else 1 + gss nm s ks
noncomputable def gss (nm:ByteArray) (s:Nat):List Fm→Nat
 | []=>0
 | k::ks=>k.gs nm s + gss nm s ks
end
open Classical in
mutual
noncomputable def Fm.gd (nm:ByteArray) (d:Nat):Fm→Nat
 | .mk o n ks=>if o=3∧n=nm then d else gds nm d ks + 1
noncomputable def gds (nm:ByteArray) (d:Nat):List Fm→Nat
 | []=>0
 | k::ks=>max (k.gd nm d) (gds nm d ks)
end
theorem gss_app (nm:ByteArray) (s:Nat):∀ a b:List Fm,gss nm s (a++b)=gss nm s a + gss nm s b
 | [],b=>by simp [gss]
 | k::a,b=>by simp [gss,gss_app nm s a b];omega
theorem gds_app (nm:ByteArray) (s:Nat):∀ a b:List Fm,gds nm s (a++b)=max (gds nm s a) (gds nm s b)
 | [],b=>by simp [gds]
 | k::a,b=>by simp [gds,gds_app nm s a b,Nat.max_assoc]
theorem gss_take {ks:List Fm} {i:Nat} {k:Fm} (nm:ByteArray) (s:Nat) (h:ks[i]? = some k):gss nm s (ks.take (i + 1))=gss nm s (ks.take i) + k.gs nm s:=by
 rw [List.take_add_one,h,gss_app];simp [gss]
theorem gds_take {ks:List Fm} {i:Nat} {k:Fm} (nm:ByteArray) (s:Nat) (h:ks[i]? = some k):gds nm s (ks.take (i + 1))=max (gds nm s (ks.take i)) (k.gd nm s):=by
 rw [List.take_add_one,h,gds_app];simp [gds]
mutual
theorem gs_le (nm:ByteArray) (s:Nat):∀ f:Fm,f.gs nm s≤f.size * (s + 1)
 | .mk o n ks=>by
  have h:=gss_le nm s ks
  simp only [Fm.gs,Fm.size]
  rw [Nat.add_mul]
  split <;> omega
theorem gss_le (nm:ByteArray) (s:Nat):∀ ks:List Fm,gss nm s ks≤sizes ks * (s + 1)
 | []=>by simp [gss]
 | k::ks=>by
  have h1:=gs_le nm s k
  have h2:=gss_le nm s ks
  simp only [gss,sizes,Nat.add_mul];omega
end
mutual
theorem gd_le (nm:ByteArray) (s:Nat):∀ f:Fm,f.gd nm s≤f.depth + s
 | .mk o n ks=>by
  have h:=gds_le nm s ks
  simp only [Fm.gd,Fm.depth]
  split <;> omega
theorem gds_le (nm:ByteArray) (s:Nat):∀ ks:List Fm,gds nm s ks≤depths ks + s
 | []=>by simp [gds]
 | k::ks=>by
  have h1:=gd_le nm s k
  have h2:=gds_le nm s ks
  simp only [gds,depths];omega
end
section
variable {C:Ctx} (hm:C.P.follows .mixedOrders=true) (hC:TabOK C.P C.ng C.ts Tryz.tab)
include hm hC
theorem grown_ok (nm:ByteArray) (s d:Nat) (hs:s < 2 ^ 28) (hd:d < 2 ^ 28):∀ (n:Nat) (f:Fm),f.size≤n→n < 2 ^ 30→PFun C 101 [fP f,.lit (.string nm),.lit (.int .i64 (s:Nat)),.lit (.int .i64 (d:Nat))] (.tup [.lit (.int .i64 (f.gs nm s:Nat)),.lit (.int .i64 (f.gd nm d:Nat))]):=by
 intro n
 induction n with
 | zero=>intro f h;have:=f.size_pos;omega
 | succ n ih=>
  intro f hf hn
  obtain ⟨o,nm0,ks⟩:=f
  simp only [Fm.size] at hf
  have hlen:=len_sizes ks
  have hdp:=depths_sizes ks
  have hgs:∀ i,gss nm s (ks.take i)≤2 ^ 59:=fun i=>by
   have h1:=gss_le nm s (ks.take i)
   have h2:=sizes_le ks i
   have h3:sizes (ks.take i) * (s + 1)≤2 ^ 30 * 2 ^ 28:=Nat.mul_le_mul (by omega) (by omega)
   omega
  have hgd:∀ i,gds nm d (ks.take i)≤2 ^ 31:=fun i=>by
   have h1:=gds_le nm d (ks.take i)
   have h2:=depths_le ks i
   omega
  have go:¬ (o=3∧nm0=nm)→(Fm.mk o nm0 ks).gs nm s=1 + gss nm s ks∧(Fm.mk o nm0 ks).gd nm d=gds nm d ks + 1:=fun h=>by
   simp only [Fm.gs,Fm.gd,if_neg h,and_self]
  by_cases hc:o=3∧nm0=nm
  ·obtain ⟨rfl,rfl⟩:=hc
   have e1:(Fm.mk 3 nm0 ks).gs nm0 s=s:=by simp [Fm.gs]
   have e2:(Fm.mk 3 nm0 ks).gd nm0 d=d:=by simp [Fm.gd]
   rw [e1,e2]
   refine PFun.body hm hC (show Tryz.tab.get 101=some Tryz.c101 from rfl) rfl ?_
   simp only [Tryz.c101,startP,List.length_cons,List.length_nil,Nat.reduceAdd,Nat.reduceSub,List.replicate,List.cons_append,List.nil_append,fP,fC]
   repeat (refine PRun.wpn rfl ?_;simp only [wp,wo_nil,wo_p,wo_r,wo_n,wo_g,beq_self_eq_true,onO_s,onN_s,onG_t,wanted_g,wantB_b,ble_self,pv_t,pv_int,put_some,bi_eql,bi_eqlS,pevP,pevR,pevN,getP,setP,boxP,look,PW.cs?,PW.push,PW.none,nthP,Option.map_some,Option.bind_some,or_true,true_and,↓reduceIte,reduceCtorEq,Nat.add_zero,Nat.zero_add,resPs,resP,tupP,eqB_t (show (((3:Nat):Int))=3 from rfl),eqS_t rfl])
   exact .refl ⟨_,rfl,.refl _⟩
  ·obtain ⟨g1,g2⟩:=go hc
   rw [g1,g2]
   by_cases c1:((o:Nat):Int)=3
   ·have c2:¬ nm0=nm:=fun h=>hc ⟨by omega,h⟩
    refine PFun.body hm hC (show Tryz.tab.get 101=some Tryz.c101 from rfl) rfl ?_
    simp only [Tryz.c101,startP,List.length_cons,List.length_nil,Nat.reduceAdd,Nat.reduceSub,List.replicate,List.cons_append,List.nil_append,fP,fC]
    repeat (refine PRun.wpn rfl ?_;simp only [wp,wo_nil,wo_p,wo_r,wo_n,wo_g,beq_self_eq_true,onO_s,onN_s,onG_t,wanted_g,wantB_b,ble_self,pv_t,pv_int,put_some,bi_eql,bi_eqlS,pevP,pevR,pevN,getP,setP,boxP,look,PW.cs?,PW.push,PW.none,nthP,Option.map_some,Option.bind_some,↓reduceIte,reduceCtorEq,Bool.false_eq_true,Nat.add_zero,Nat.zero_add,resPs,resP,tupP,eqB_t c1,eqS_f c2])
    refine PRun.gh (Gh.mr (false::true::true::true::false::false::false::false::false::false::true::true::false::false::false::false::false::false::false::false::false::false::false::false::false::false::false::false::true::true::true::false::false::false::false::false::false::false::false::false::false::false::false::false::false::false::false::false::false::false::false::false::[]) [] 0 rfl ?_)
    simp only [↓reduceIte,Bool.false_eq_true,renL,renP,renH,lkN,maskP]
    refine PRun.loopG (fun m t π=>∃ i:Nat,t=(.junk::.lit (.string nm)::.lit (.int .i64 (s:Nat))::.lit (.int .i64 (d:Nat))::.junk::.junk::.junk::.junk::.junk::.junk::.lit (.int .i64 ((1 + gss nm s (ks.take i):Nat)))::.lit (.int .i64 (gds nm d (ks.take i):Nat))::.junk::.junk::.junk::.junk::.junk::.junk::.junk::.junk::.junk::.junk::.junk::.junk::.junk::.junk::.junk::.junk::.sz (fL ks) ks.length::.lit (.int .i64 (ks.length:Nat))::.lit (.int .i64 (i:Nat))::.junk::.junk::.junk::.junk::.junk::.junk::.junk::.junk::.junk::.junk::.junk::.junk::.junk::.junk::.junk::.junk::.junk::.junk::.junk::.junk::.junk::[])∧i≤ks.length∧m=ks.length - i∧π=⟨0,[]⟩) ?_ ks.length _ _ ⟨0,by simp [gss,gds],by omega,rfl,rfl⟩
    rintro m t π ⟨i,rfl,hi,rfl,rfl⟩
    repeat (refine PRun.wpn rfl ?_;simp only [wp,wo_nil,wo_p,onO_s,pv_t,put_some,bi_lss,pevP,getP,setP,Option.map_some,↓reduceIte,ltB_iff])
    split
    ·rename_i hlt
     obtain ⟨k,hk⟩:∃ k,ks[i]? = some k:=⟨ks[i]'(by omega),List.getElem?_eq_getElem (by omega)⟩
     have h1:=size_kid hk
     have h2:=gss_take nm s hk
     have h3:=gds_take nm d hk
     have b1:=hgs (i + 1)
     have b2:=hgd (i + 1)
     have hcut:=fL_cut hk
     have hrec:=ih k (by omega) (by omega)
     obtain ⟨o',nm',ks'⟩:=k
     simp only [fP,fC] at hrec hcut
     repeat (refine PRun.wpn rfl ?_;simp only [wp,wo_nil,wo_p,wo_r,wo_n,wo_call,wo_st,onO_s,onN_s,onE_s,ble_self,ble_succ,pv_t,ov_nil,ov_cons,ov_int,ov_str,ov_nilS,put_some,put_none,pevP,pevR,pevN,pevE,getP,setP,evsP,spliceP,overP,plainP,isCell,look,PW.cs?,PW.push,cut0,cutS,List.length_cons,List.length_nil,List.drop_zero,Option.map_some,Option.bind_some,Nat.zero_le,Int.natCast_nonneg,Int.toNat_natCast,and_self,true_and,Bool.and_true,↓reduceIte,ltL,lt,Nat.reduceAdd,Bool.false_eq_true,Nat.zero_add,allPlain,PW.wr,setO,killO,Bool.or_self,Bool.not_true,List.length_cons,List.length_nil,hlt,hcut])
     refine .refl (PFun.to (hrec) rfl (POps.wp ?_))
     simp only [wo_nil,wo_p,onO_s,pv_t,put_some,pevP,getP,setP,nthP]
     repeat (refine PRun.wpn rfl ?_;simp only [wp,wo_nil,wo_p,onO_s,pv_t,pv_int,put_some,bi_add,pevP,getP,setP,Option.map_some,gt_iff_lt])
     have e:(if ((gds nm d (ks.take i):Nat):Int) < ((Fm.mk o' nm' ks').gd nm d:Nat) then (((Fm.mk o' nm' ks').gd nm d:Nat):Int) else ((gds nm d (ks.take i):Nat):Int))=((gds nm d (ks.take (i + 1)):Nat):Int):=by
      rw [h3];split <;> omega
     have e2:((1 + gss nm s (ks.take i):Nat):Int) + ((Fm.mk o' nm' ks').gs nm s:Nat)=((1 + gss nm s (ks.take (i + 1)):Nat):Int):=by rw [h2];omega
     rw [e2,wrap64 (by omega) (by omega),wrap64 (by omega) (by omega),e]
     refine Gh.mr (false::true::true::true::false::false::false::false::false::false::true::true::false::false::false::false::false::false::false::false::false::false::false::false::false::false::false::false::true::true::true::false::false::false::false::false::false::false::false::false::false::false::false::false::false::false::false::false::false::false::false::false::[]) [] 0 rfl ?_
     exact ⟨ks.length - (i + 1),by omega,i + 1,rfl,by omega,rfl,rfl⟩
    ·rename_i hge
     have hil:i=ks.length:=by omega
     subst hil
     have b2:=hgd ks.length
     rw [List.take_length] at b2
     repeat (refine PRun.wpn rfl ?_;simp only [wp,wo_nil,wo_p,onO_s,pv_t,pv_int,put_some,bi_add,pevP,getP,setP,Option.map_some,or_true,true_and,reduceCtorEq])
     rw [List.take_length,wrap64 (by omega) (by omega)]
     exact .refl ⟨_,rfl,.refl _⟩
   ·refine PFun.body hm hC (show Tryz.tab.get 101=some Tryz.c101 from rfl) rfl ?_
    simp only [Tryz.c101,startP,List.length_cons,List.length_nil,Nat.reduceAdd,Nat.reduceSub,List.replicate,List.cons_append,List.nil_append,fP,fC]
    repeat (refine PRun.wpn rfl ?_;simp only [wp,wo_nil,wo_p,wo_r,wo_n,wo_g,onO_s,onN_s,onG_f,wanted_g,wantB_b,b_ft,ble_self,pv_t,pv_int,pv_bool,put_some,bi_eql,pevP,pevR,pevN,getP,setP,boxP,look,PW.cs?,PW.push,PW.none,nthP,Option.map_some,Option.bind_some,↓reduceIte,reduceCtorEq,Bool.false_eq_true,Nat.add_zero,Nat.zero_add,resPs,resP,tupP,eqB_f c1])
    refine PRun.gh (Gh.mr (false::true::true::true::false::false::false::false::false::false::true::true::false::false::false::false::false::false::false::false::false::false::false::false::false::false::false::false::true::true::true::false::false::false::false::false::false::false::false::false::false::false::false::false::false::false::false::false::false::false::false::false::[]) [] 0 rfl ?_)
    simp only [↓reduceIte,Bool.false_eq_true,renL,renP,renH,lkN,maskP]
    refine PRun.loopG (fun m t π=>∃ i:Nat,t=(.junk::.lit (.string nm)::.lit (.int .i64 (s:Nat))::.lit (.int .i64 (d:Nat))::.junk::.junk::.junk::.junk::.junk::.junk::.lit (.int .i64 ((1 + gss nm s (ks.take i):Nat)))::.lit (.int .i64 (gds nm d (ks.take i):Nat))::.junk::.junk::.junk::.junk::.junk::.junk::.junk::.junk::.junk::.junk::.junk::.junk::.junk::.junk::.junk::.junk::.sz (fL ks) ks.length::.lit (.int .i64 (ks.length:Nat))::.lit (.int .i64 (i:Nat))::.junk::.junk::.junk::.junk::.junk::.junk::.junk::.junk::.junk::.junk::.junk::.junk::.junk::.junk::.junk::.junk::.junk::.junk::.junk::.junk::.junk::[])∧i≤ks.length∧m=ks.length - i∧π=⟨0,[]⟩) ?_ ks.length _ _ ⟨0,by simp [gss,gds],by omega,rfl,rfl⟩
    rintro m t π ⟨i,rfl,hi,rfl,rfl⟩
    repeat (refine PRun.wpn rfl ?_;simp only [wp,wo_nil,wo_p,onO_s,pv_t,put_some,bi_lss,pevP,getP,setP,Option.map_some,↓reduceIte,ltB_iff])
    split
    ·rename_i hlt
     obtain ⟨k,hk⟩:∃ k,ks[i]? = some k:=⟨ks[i]'(by omega),List.getElem?_eq_getElem (by omega)⟩
     have h1:=size_kid hk
     have h2:=gss_take nm s hk
     have h3:=gds_take nm d hk
     have b1:=hgs (i + 1)
     have b2:=hgd (i + 1)
     have hcut:=fL_cut hk
     have hrec:=ih k (by omega) (by omega)
     obtain ⟨o',nm',ks'⟩:=k
     simp only [fP,fC] at hrec hcut
     repeat (refine PRun.wpn rfl ?_;simp only [wp,wo_nil,wo_p,wo_r,wo_n,wo_call,wo_st,onO_s,onN_s,onE_s,ble_self,ble_succ,pv_t,ov_nil,ov_cons,ov_int,ov_str,ov_nilS,put_some,put_none,pevP,pevR,pevN,pevE,getP,setP,evsP,spliceP,overP,plainP,isCell,look,PW.cs?,PW.push,cut0,cutS,List.length_cons,List.length_nil,List.drop_zero,Option.map_some,Option.bind_some,Nat.zero_le,Int.natCast_nonneg,Int.toNat_natCast,and_self,true_and,Bool.and_true,↓reduceIte,ltL,lt,Nat.reduceAdd,Bool.false_eq_true,Nat.zero_add,allPlain,PW.wr,setO,killO,Bool.or_self,Bool.not_true,List.length_cons,List.length_nil,hlt,hcut])
     refine .refl (PFun.to (hrec) rfl (POps.wp ?_))
     simp only [wo_nil,wo_p,onO_s,pv_t,put_some,pevP,getP,setP,nthP]
     repeat (refine PRun.wpn rfl ?_;simp only [wp,wo_nil,wo_p,onO_s,pv_t,pv_int,put_some,bi_add,pevP,getP,setP,Option.map_some,gt_iff_lt])
     have e:(if ((gds nm d (ks.take i):Nat):Int) < ((Fm.mk o' nm' ks').gd nm d:Nat) then (((Fm.mk o' nm' ks').gd nm d:Nat):Int) else ((gds nm d (ks.take i):Nat):Int))=((gds nm d (ks.take (i + 1)):Nat):Int):=by
      rw [h3];split <;> omega
     have e2:((1 + gss nm s (ks.take i):Nat):Int) + ((Fm.mk o' nm' ks').gs nm s:Nat)=((1 + gss nm s (ks.take (i + 1)):Nat):Int):=by rw [h2];omega
     rw [e2,wrap64 (by omega) (by omega),wrap64 (by omega) (by omega),e]
     refine Gh.mr (false::true::true::true::false::false::false::false::false::false::true::true::false::false::false::false::false::false::false::false::false::false::false::false::false::false::false::false::true::true::true::false::false::false::false::false::false::false::false::false::false::false::false::false::false::false::false::false::false::false::false::false::[]) [] 0 rfl ?_
     exact ⟨ks.length - (i + 1),by omega,i + 1,rfl,by omega,rfl,rfl⟩
    ·rename_i hge
     have hil:i=ks.length:=by omega
     subst hil
     have b2:=hgd ks.length
     rw [List.take_length] at b2
     repeat (refine PRun.wpn rfl ?_;simp only [wp,wo_nil,wo_p,onO_s,pv_t,pv_int,put_some,bi_add,pevP,getP,setP,Option.map_some,or_true,true_and,reduceCtorEq])
     rw [List.take_length,wrap64 (by omega) (by omega)]
     exact .refl ⟨_,rfl,.refl _⟩
end
end Go.Proofs.YtnpoloachkcadaaGreatDoor.Ai
namespace Go.Proofs.YtnpoloachkcadaaGreatDoor.Ai
open Go
set_option linter.unusedVariables false
set_option linter.unusedSectionVars false
set_option maxRecDepth 10000
mutual
noncomputable def Fm.repl (g:Fm→Fm):Fm→Fm
 | .mk o n ks=>if o=3 then g (.mk o n ks) else .mk o ⟨#[]⟩ (repls g ks)
noncomputable def repls (g:Fm→Fm):List Fm→List Fm
 | []=>[]
 | k::ks=>k.repl g::repls g ks
end
theorem repls_len (g:Fm→Fm):∀ ks:List Fm,(repls g ks).length=ks.length
 | []=>by simp [repls]
 | k::ks=>by simp [repls,repls_len g ks]
theorem repls_app (g:Fm→Fm):∀ a b:List Fm,repls g (a++b)=repls g a++repls g b
 | [],b=>by simp [repls]
 | k::a,b=>by simp [repls,repls_app g a b]
section
variable {C:Ctx} (hm:C.P.follows .mixedOrders=true) (hC:TabOK C.P C.ng C.ts Tryz.tab)
include hm hC
theorem replaced_ok (cb:FuncId) (caps:List PV) (hcp:pureL caps=true) (g:Fm→Fm) (hcb:∀ p:Fm,p.op=3→p.size < 2 ^ 38→PFun C cb (fP p::caps) (fP (g p))):∀ (n:Nat) (f:Fm),f.size≤n→n < 2 ^ 38→PFun C 102 [fP f,.fn cb [] caps] (fP (f.repl g)):=by
 have hr:∀ ρ,renL ρ caps=caps:=fun ρ=>renL_pure ρ _ hcp
 have hz:∀ i cs,frzL i cs caps=caps:=fun i cs=>frzL_pure i cs _ hcp
 intro n
 induction n with
 | zero=>intro f h;have:=f.size_pos;omega
 | succ n ih=>
  intro f hf hn
  obtain ⟨o,nm,ks⟩:=f
  simp only [Fm.size] at hf
  have hlen:=len_sizes ks
  by_cases h3:((o:Nat):Int)=3
  ·have e:(Fm.mk o nm ks).repl g=g (.mk o nm ks):=by simp only [Fm.repl];rw [if_pos (by omega)]
   have hc:=hcb (.mk o nm ks) (by show o=3;omega) (by simp only [Fm.size];omega)
   rw [e]
   generalize g (.mk o nm ks)=gr at hc ⊢
   obtain ⟨go,gn,gk⟩:=gr
   simp only [fP,fC] at hc
   refine PFun.body hm hC (show Tryz.tab.get 102=some Tryz.c102 from rfl) rfl ?_
   simp only [Tryz.c102,startP,List.length_cons,List.length_nil,Nat.reduceAdd,Nat.reduceSub,List.replicate,List.cons_append,List.nil_append,fP,fC]
   repeat (refine PRun.wpn rfl ?_;simp only [wp,wo_nil,wo_p,wo_r,wo_n,wo_callv,onO_s,onN_s,ble_self,ble_succ,pv_t,pv_int,ov_nil,ov_cons,ov_int,ov_str,ov_nilS,put_some,bi_eql,pevP,pevR,pevN,getP,setP,evsP,boxP,look,PW.cs?,PW.push,PW.none,nthP,cut0,cutS,List.drop_zero,Option.map_some,Option.bind_some,Nat.zero_le,true_and,Bool.and_true,↓reduceIte,reduceCtorEq,ltL,lt,Nat.reduceAdd,Nat.add_zero,Nat.zero_add,resPs,resP,tupP,eqB_t h3])
   refine .refl (PFun.to hc (by simp [pureL,pureP,hcp]) (POps.wp ?_))
   simp only [wo_nil,wo_st,onE_s,ble0,pv_t,put_none,pevE,getP,setP,spliceP,overP,plainP,isCell,look,List.length_cons,List.length_nil,Option.map_some,Bool.and_true,↓reduceIte,Nat.reduceAdd,Bool.false_eq_true,Nat.zero_add,allPlain,PW.wr,setO,killO,Bool.or_self,Bool.not_true,List.length_cons,List.length_nil]
   repeat (refine PRun.wpn rfl ?_;simp only [wp,or_true,true_and,reduceCtorEq])
   exact .refl ⟨_,rfl,.refl _⟩
  have e:(Fm.mk o nm ks).repl g = .mk o ⟨#[]⟩ (repls g ks):=by simp only [Fm.repl];rw [if_neg (by omega)]
  rw [e]
  refine PFun.body hm hC (show Tryz.tab.get 102=some Tryz.c102 from rfl) rfl ?_
  simp only [Tryz.c102,startP,List.length_cons,List.length_nil,Nat.reduceAdd,Nat.reduceSub,List.replicate,List.cons_append,List.nil_append,fP,fC]
  repeat (refine PRun.wpn rfl ?_;simp only [wp,wo_nil,wo_p,wo_r,wo_n,wo_st,beq_self_eq_true,onO_s,onN_s,onE_s,ble0,ble_self,ble_succ,pv_t,pv_int,ov_nil,ov_cons,ov_int,ov_str,ov_nilS,put_some,put_none,bi_eql,pevP,pevR,pevN,pevE,getP,setP,fillP,boxP,spliceP,overP,plainP,isCell,look,PW.cs?,PW.push,PW.none,nthP,List.length_cons,List.length_nil,Option.map_some,Option.bind_some,Bool.and_true,↓reduceIte,reduceCtorEq,ltL,lt,Nat.reduceAdd,Bool.false_eq_true,Nat.add_zero,Nat.zero_add,allPlain,PW.wr,setO,killO,Bool.or_self,Bool.not_true,resPs,resP,tupP,List.length_cons,List.length_nil,eqB_f h3])
  refine PRun.gh (Gh.mr (false::true::false::false::true::true::false::false::false::false::false::false::false::false::false::false::false::false::true::true::true::false::false::false::false::false::false::false::false::false::false::false::false::false::[]) [(1,0),(2,1)] 2 rfl ?_)
  simp only [↓reduceIte,reduceCtorEq,Nat.reduceEqDiff,Bool.false_eq_true,renL,renP,renO,renH,renA,lkN,maskP,hr]
  refine PRun.loopG (fun m t π=>∃ i:Nat,t=(.junk::.fn cb [] caps::.junk::.junk::.ptr 0 0::.ptr 1 0::.junk::.junk::.junk::.junk::.junk::.junk::.junk::.junk::.junk::.junk::.junk::.junk::.sz (fL ks) ks.length::.lit (.int .i64 (ks.length:Nat))::.lit (.int .i64 (i:Nat))::.junk::.junk::.junk::.junk::.junk::.junk::.junk::.junk::.junk::.junk::.junk::.junk::.junk::[])∧i≤ks.length∧m=ks.length - i∧((i=0∧π=⟨2,[(1,.cells [.lit (.int .u8 (o:Nat)),.lit (.string ⟨#[]⟩),.lit (.slice none 0 0)] 27 3 true false []),(0,.cells [.lit (.int .u8 0),.lit (.string ⟨#[]⟩),.lit (.slice none 0 0)] 27 3 true false [])]⟩)∨
   (0 < i∧π=⟨3,[(2,.cells (fL (repls g (ks.take i))) 27 3 false false []),(1,.cells [.lit (.int .u8 (o:Nat)),.lit (.string ⟨#[]⟩),.loc 2 0 i i] 27 3 true false []),(0,.cells [.lit (.int .u8 0),.lit (.string ⟨#[]⟩),.lit (.slice none 0 0)] 27 3 true false [])]⟩))) ?_ ks.length _ _ ⟨0,rfl,by omega,rfl,.inl ⟨rfl,rfl⟩⟩
  rintro m t π ⟨i,rfl,hi,rfl,hπ⟩
  by_cases hlt:(i:Int) < (ks.length:Nat)
  ·obtain ⟨k,hk⟩:∃ k,ks[i]? = some k:=⟨ks[i]'(by omega),List.getElem?_eq_getElem (by omega)⟩
   have h1:=size_kid hk
   have hcut:=fL_cut hk
   have hrec:=ih k (by omega) (by omega)
   have etake:fL (repls g (ks.take (i + 1)))=fL (repls g (ks.take i))++fC (k.repl g):=by rw [List.take_add_one,hk,repls_app,fL_app];simp [fL,repls]
   have hk3:=fC_len k
   generalize k.repl g=kr at hrec etake
   obtain ⟨ro,rn,rk⟩:=kr
   obtain ⟨o',nm',ks'⟩:=k
   simp only [fP,fC] at hrec hcut etake
   rcases hπ with ⟨rfl,rfl⟩ | ⟨hi0,rfl⟩
   ·simp only [nc0,Nat.zero_mul,List.drop_zero] at hlt hcut
    repeat (refine PRun.wpn rfl ?_;simp only [wp,wo_nil,wo_p,wo_r,wo_n,wo_st,onO_s,onN_s,onE_s,ble0,pv_t,ov_nil,ov_cons,ov_int,ov_str,ov_nilS,put_some,put_none,bi_lss,pevP,pevR,pevN,pevE,getP,setP,spliceP,overP,plainP,isCell,look,PW.push,List.length_cons,List.length_nil,List.drop_zero,Option.map_some,Nat.sub_zero,nc0,tn0,Int.le_refl,and_self,Bool.and_true,↓reduceIte,ltL,lt,Nat.reduceAdd,Nat.reduceMul,Bool.false_eq_true,Nat.zero_add,allPlain,PW.wr,setO,killO,Bool.or_self,Bool.not_true,List.length_cons,List.length_nil,ltB_t hlt,hlt,hcut])
    refine PDraw.stage (Nat.zero_le _) rfl ?_
    try dsimp only
    simp only [onX_s,onXI_s,rdX_e,ltN,ltD_s,onD_s,wx_nil,wx_cons,wx_p,wx_r,wd_cons,wd_e,pv_t,put_some,pevP,pevR,getP,setP,nthO,look,PW.cs?,nthP,cut0,cutS,baseP,ROp.base,List.length_cons,List.length_nil,List.drop_zero,Option.map_some,Option.bind_some,Bool.and_true,↓reduceIte,Nat.reduceAdd,Nat.reduceEqDiff,Option.isSome_some,Nat.zero_add,List.length_cons,List.length_nil]
    refine PDE.pure hrec (by simp only [pv_t,getP,evsP,Bool.and_true,pureL,pureP,hcp]) ?_
    refine PDraw.stage (Nat.zero_le _) rfl ?_
    try dsimp only
    simp only [onXN_s,onXI_s,onD_s,wx_nil,wx_cons,wx_n,wd_cons,wd_e,pv_t,ov_nil,ov_cons,ov_int,ov_str,ov_nilS,put_some,pevN,getP,setP,nthO,fillP,spliceP,overP,PW.push,List.length_cons,List.length_nil,Option.map_some,Option.bind_some,Bool.and_true,↓reduceIte,ltL,lt,Nat.reduceAdd,Nat.zero_add,List.length_cons,List.length_nil]
    refine PDE.ev (Nat.zero_le _) ?_
    simp only [pv_t,pevE,getP,lenP,srcP,appendP,plainP,isCell,look,PW.cs?,PW.push,cut0,cutS,List.drop_zero,Option.map_some,Option.bind_some,Nat.mul_one,Bool.and_true,↓reduceIte,Nat.reduceAdd,Nat.reduceMul,Nat.reduceLeDiff,Nat.reduceLT,Nat.zero_add,allPlain,Bool.false_or,Bool.not_true,gt_iff_lt]
    refine PDraw.stage (Nat.zero_le _) rfl ?_
    try dsimp only
    simp only [onX_s,onXI_s,onD_s,wx_nil,wx_cons,wx_p,wd_cons,wd_e,pv_t,put_some,pevP,getP,setP,nthO,Nat.zero_add]
    refine PDE.ev (Nat.zero_le _) ?_
    simp only [beq_self_eq_true,pv_t,put_none,onDE_s,pevE,getP,spliceP,overP,plainP,look,Option.map_some,Bool.and_true,↓reduceIte,Nat.reduceEqDiff,Bool.false_eq_true,allPlain,PW.wr,setO,killO,Bool.or_self,Bool.not_true]
    refine PDraw.last (Nat.zero_le _) rfl ?_
    try dsimp only
    simp only [wx_nil]
    repeat (refine PRun.wpn rfl ?_;simp only [wp,wo_nil,wo_p,onO_s,pv_t,pv_int,put_some,bi_add,pevP,getP,setP,Option.map_some])
    rw [wrap64 (by omega) (by omega)]
    refine Gh.mr (false::true::false::false::true::true::false::false::false::false::false::false::false::false::false::false::false::false::true::true::true::false::false::false::false::false::false::false::false::false::false::false::false::false::[]) [(0,0),(1,1),(4,2)] 3 rfl ?_
    refine ⟨ks.length - 1,by omega,1,by simp only [nc1,↓reduceIte,reduceCtorEq,Bool.false_eq_true,renL,renP,lkN,maskP,hr];rfl,by omega,rfl,.inr ⟨by omega,?_⟩⟩
    simp only [etake,List.take_zero,repls,fL,List.take_zero,↓reduceIte,reduceCtorEq,Nat.reduceEqDiff,renL,renP,renO,renH,renA,lkN,List.nil_append]
   ·have q1:¬ i + 1≤i:=by omega
    have q2:¬ 140737488355328 < (2 * (i + 1) + 768) * 48:=by omega
    have q3:(fL (repls g (ks.take i))).length=i * 3:=by rw [fL_len,repls_len,List.length_take,Nat.min_eq_left hi]
    have q4:=cut_all q3
    have q5:i ≠ 0:=by omega
    repeat (refine PRun.wpn rfl ?_;simp only [wp,wo_nil,wo_p,wo_r,wo_n,wo_st,onO_s,onN_s,onE_s,ble0,pv_t,ov_nil,ov_cons,ov_int,ov_str,ov_nilS,put_some,put_none,bi_lss,pevP,pevR,pevN,pevE,getP,setP,spliceP,overP,plainP,isCell,look,PW.push,List.length_cons,List.length_nil,Option.map_some,Int.natCast_nonneg,Int.toNat_natCast,and_self,Bool.and_true,↓reduceIte,ltL,lt,Nat.reduceAdd,Bool.false_eq_true,Nat.zero_add,allPlain,PW.wr,setO,killO,Bool.or_self,Bool.not_true,List.length_cons,List.length_nil,ltB_t hlt,hlt,hcut])
    refine PDraw.stage (Nat.zero_le _) rfl ?_
    try dsimp only
    simp only [onX_s,onXI_s,rdX_e,ltN,ltD_s,onD_s,wx_nil,wx_cons,wx_p,wx_r,wd_cons,wd_e,pv_t,put_some,pevP,pevR,getP,setP,nthO,look,PW.cs?,nthP,cut0,cutS,baseP,ROp.base,List.length_cons,List.length_nil,List.drop_zero,Option.map_some,Option.bind_some,Bool.and_true,↓reduceIte,Nat.reduceAdd,Nat.reduceEqDiff,Option.isSome_some,Nat.zero_add,List.length_cons,List.length_nil]
    refine PDE.pure hrec (by simp only [pv_t,getP,evsP,Bool.and_true,pureL,pureP,hcp]) ?_
    refine PDraw.stage (Nat.zero_le _) rfl ?_
    try dsimp only
    simp only [onXN_s,onXI_s,onD_s,wx_nil,wx_cons,wx_n,wd_cons,wd_e,pv_t,ov_nil,ov_cons,ov_int,ov_str,ov_nilS,put_some,pevN,getP,setP,nthO,fillP,spliceP,overP,PW.push,List.length_cons,List.length_nil,Option.map_some,Option.bind_some,Bool.and_true,↓reduceIte,ltL,lt,Nat.reduceAdd,Nat.zero_add,List.length_cons,List.length_nil]
    refine PDE.ev (Nat.zero_le _) ?_
    simp only [pv_t,put_some,onDE_s,pevE,getP,setP,lenP,srcP,appendP,plainP,isCell,look,PW.cs?,PW.push,cut0,cutS,List.drop_zero,Option.map_some,Option.bind_some,Bool.and_true,↓reduceIte,Nat.reduceAdd,Nat.reduceMul,Nat.reduceEqDiff,Bool.false_eq_true,Nat.zero_add,allPlain,setO,Bool.or_self,Bool.not_true,gt_iff_lt,q1,q2,q3,q4,bne_self_eq_false]
    refine PDraw.stage (Nat.zero_le _) rfl ?_
    try dsimp only
    simp only [onX_s,onXI_s,onD_s,wx_nil,wx_cons,wx_p,wd_cons,wd_e,pv_t,put_some,pevP,getP,setP,nthO,Nat.zero_add]
    refine PDE.ev (Nat.zero_le _) ?_
    simp only [beq_self_eq_true,pv_t,put_none,onDE_s,pevE,getP,spliceP,overP,plainP,look,Option.map_some,Bool.and_true,↓reduceIte,Nat.reduceEqDiff,Bool.false_eq_true,allPlain,PW.wr,setO,killO,Bool.or_self,Bool.not_true]
    refine PDraw.last (Nat.zero_le _) rfl ?_
    try dsimp only
    simp only [wx_nil]
    repeat (refine PRun.wpn rfl ?_;simp only [wp,wo_nil,wo_p,onO_s,pv_t,pv_int,put_some,bi_add,pevP,getP,setP,Option.map_some])
    rw [wrap64 (by omega) (by omega)]
    refine Gh.mr (false::true::false::false::true::true::false::false::false::false::false::false::false::false::false::false::false::false::true::true::true::false::false::false::false::false::false::false::false::false::false::false::false::false::[]) [(0,0),(1,1),(5,2)] 3 rfl ?_
    refine ⟨ks.length - (i + 1),by omega,i + 1,by simp only [↓reduceIte,reduceCtorEq,Bool.false_eq_true,renL,renP,lkN,maskP,hr];rfl,by omega,rfl,.inr ⟨by omega,?_⟩⟩
    simp only [← etake,renL_fL,↓reduceIte,reduceCtorEq,Nat.reduceEqDiff,renL,renP,renO,renH,renA,lkN]
  ·have hil:i=ks.length:=by omega
   subst hil
   rcases hπ with ⟨h0,rfl⟩ | ⟨hi0,rfl⟩
   ·have hk0:ks=[]:=List.length_eq_zero_iff.1 h0
    subst hk0
    repeat (refine PRun.wpn rfl ?_;simp only [wp,wo_nil,wo_p,wo_r,wo_st,onO_s,onE_s,ble0,pv_t,put_some,put_none,bi_lss,pevP,pevR,pevE,getP,setP,spliceP,overP,plainP,isCell,look,PW.cs?,cut0,cutS,List.length_cons,List.length_nil,List.drop_zero,Option.map_some,Option.bind_some,or_true,Nat.sub_zero,nc0,Int.lt_irrefl,true_and,Bool.and_true,↓reduceIte,reduceCtorEq,Nat.reduceAdd,Bool.false_eq_true,Nat.zero_add,allPlain,PW.wr,setO,killO,Bool.or_self,Bool.not_true,ltB_iff,List.length_cons,List.length_nil])
    refine .refl ⟨_,rfl,?_⟩
    exact .agg (.cons (.refl _) (.cons (.refl _) (.cons .nil_sz .nil)))
   ·rw [List.take_length]
    repeat (refine PRun.wpn rfl ?_;simp only [wp,wo_nil,wo_p,wo_r,wo_st,onO_s,onE_s,ble0,pv_t,put_some,put_none,bi_lss,pevP,pevR,pevE,getP,setP,spliceP,overP,plainP,isCell,look,PW.cs?,cut0,cutS,List.length_cons,List.length_nil,List.drop_zero,Option.map_some,Option.bind_some,or_true,true_and,Bool.and_true,↓reduceIte,reduceCtorEq,Nat.reduceAdd,Nat.reduceEqDiff,Bool.false_eq_true,Nat.zero_add,allPlain,PW.wr,setO,killO,Bool.or_self,Bool.not_true,List.length_cons,List.length_nil,ltB_f hlt])
    refine Gh.frz 2 rfl (pureL_fL (repls g ks)) rfl ?_
    simp only [List.drop_zero,↓reduceIte,reduceCtorEq,Nat.reduceEqDiff,frzL,frzP,frzO,frzH,Nat.le_refl]
    refine .refl ⟨_,rfl,?_⟩
    rw [← repls_len g ks]
    exact .agg (.cons (.refl _) (.cons (.refl _) (.cons .sl_sz .nil)))
end
end Go.Proofs.YtnpoloachkcadaaGreatDoor.Ai
namespace Go.Proofs.YtnpoloachkcadaaGreatDoor.Ai
open Go
set_option linter.unusedVariables false
set_option linter.unusedSectionVars false
set_option maxRecDepth 10000
open Classical in
noncomputable def putG (nm:ByteArray) (b p:Fm):Fm:=if p.name=nm then b else p
noncomputable def putE (f:Fm) (nm:ByteArray) (b:Fm):Fm × Int:=
 if yesB (f.formed fun _=>true)=true∧yesB (b.formed fun _=>true)=true∧yesB (nameOK nm)=true then
  (if ltB 1000 (f.gs nm b.size:Nat)=true∨ltB 100 (f.gd nm b.depth:Nat)=true then (.mk 0 ⟨#[]⟩ [],31) else (f.repl (putG nm b),0)) else (.mk 0 ⟨#[]⟩ [],30)
section
variable {C:Ctx} (hm:C.P.follows .mixedOrders=true) (hC:TabOK C.P C.ng C.ts Tryz.tab)
include hm hC
theorem any_ok (o:Nat):PFun C 99 [.lit (.int .u8 (o:Nat))] (.lit (.bool true)):=by
 refine PFun.body hm hC (show Tryz.tab.get 99=some Tryz.c99 from rfl) rfl ?_
 simp only [Tryz.c99,startP,List.length_cons,List.length_nil,Nat.reduceAdd,Nat.reduceSub,List.replicate,List.cons_append,List.nil_append]
 repeat (refine PRun.wpn rfl ?_;simp only [wp,wo_nil,wo_p,onO_s,pv_bool,put_some,pevP,setP,PW.none,or_true,true_and,reduceCtorEq,resPs,resP,tupP])
 exact .refl ⟨_,rfl,.refl _⟩
theorem put103_ok (nm:ByteArray) (b p:Fm) (hb:b.size < 2 ^ 38) (hp:p.size < 2 ^ 38):PFun C 103 [fP p,.ref [.lit (.string nm)],.ref (fC b)] (fP (putG nm b p)):=by
 have c1:=copy_ok hm hC b.size b (Nat.le_refl _) hb
 have c2:=copy_ok hm hC p.size p (Nat.le_refl _) hp
 obtain ⟨o,n,ks⟩:=p
 obtain ⟨bo,bn,bk⟩:=b
 by_cases h:n=nm
 ·have e:putG nm (.mk bo bn bk) (.mk o n ks) = .mk bo bn bk:=by unfold putG;exact if_pos h
  rw [e]
  simp only [fP,fC] at c1
  refine PFun.body hm hC (show Tryz.tab.get 103=some Tryz.c103 from rfl) rfl ?_
  simp only [Tryz.c103,startP,List.length_cons,List.length_nil,Nat.reduceAdd,Nat.reduceSub,List.replicate,List.cons_append,List.nil_append,fP,fC]
  repeat (refine PRun.wpn rfl ?_;simp only [wp,wo_nil,wo_p,wo_r,wo_n,wo_call,onO_s,onN_s,ble_self,ble_succ,pv_t,ov_nil,ov_cons,ov_int,ov_str,ov_nilS,put_some,bi_eqlS,pevP,pevR,pevN,getP,setP,evsP,boxP,look,PW.cs?,PW.push,PW.none,nthP,cut0,cutS,Option.map_some,Option.bind_some,Nat.zero_le,true_and,Bool.and_true,↓reduceIte,reduceCtorEq,ltL,lt,Nat.reduceAdd,Nat.zero_add,resPs,resP,tupP,eqS_t h])
  refine .refl (PFun.to (c1) rfl (POps.wp ?_))
  simp only [wo_nil,wo_st,onE_s,ble0,pv_t,put_none,pevE,getP,setP,spliceP,overP,plainP,isCell,look,List.length_cons,List.length_nil,Option.map_some,Bool.and_true,↓reduceIte,Nat.reduceAdd,Bool.false_eq_true,Nat.zero_add,allPlain,PW.wr,setO,killO,Bool.or_self,Bool.not_true,List.length_cons,List.length_nil]
  repeat (refine PRun.wpn rfl ?_;simp only [wp,or_true,true_and,reduceCtorEq])
  exact .refl ⟨_,rfl,.refl _⟩
 ·have e:putG nm (.mk bo bn bk) (.mk o n ks) = .mk o n ks:=by unfold putG;exact if_neg h
  rw [e]
  simp only [fP,fC] at c2
  refine PFun.body hm hC (show Tryz.tab.get 103=some Tryz.c103 from rfl) rfl ?_
  simp only [Tryz.c103,startP,List.length_cons,List.length_nil,Nat.reduceAdd,Nat.reduceSub,List.replicate,List.cons_append,List.nil_append,fP,fC]
  repeat (refine PRun.wpn rfl ?_;simp only [wp,wo_nil,wo_p,wo_r,wo_n,wo_call,onO_s,onN_s,ble_self,ble_succ,pv_t,ov_nil,ov_cons,ov_int,ov_str,ov_nilS,put_some,bi_eqlS,pevP,pevR,pevN,getP,setP,evsP,boxP,look,PW.cs?,PW.push,PW.none,nthP,cut0,cutS,List.drop_zero,Option.map_some,Option.bind_some,Nat.zero_le,true_and,Bool.and_true,↓reduceIte,reduceCtorEq,ltL,lt,Nat.reduceAdd,Bool.false_eq_true,Nat.zero_add,resPs,resP,tupP,eqS_f h])
  refine .refl (PFun.to (c2) rfl (POps.wp ?_))
  simp only [wo_nil,wo_st,onE_s,ble0,pv_t,put_none,pevE,getP,setP,spliceP,overP,plainP,isCell,look,List.length_cons,List.length_nil,Option.map_some,Bool.and_true,↓reduceIte,Nat.reduceAdd,Bool.false_eq_true,Nat.zero_add,allPlain,PW.wr,setO,killO,Bool.or_self,Bool.not_true,List.length_cons,List.length_nil]
  repeat (refine PRun.wpn rfl ?_;simp only [wp,or_true,true_and,reduceCtorEq])
  exact .refl ⟨_,rfl,.refl _⟩
theorem treePut_ok (hG0:C.G 0=some kidsC) (f b:Fm) (nm:ByteArray) (of:f.ok) (ob:b.ok) (pf:f.opsOK) (pb:b.opsOK) (hf:f.size < 2 ^ 28) (hb:b.size < 2 ^ 28) (hn:nm.size < 2 ^ 60) :
  PFun C 47 [fP f,.lit (.string nm),fP b] (.tup [fP (putE f nm b).1,.lit (.int .i64 (putE f nm b).2)]):=by
 have a1:=formed_ok hm hC 99 (fun _=>true) hG0 (fun o _=>any_ok hm hC o) f.size f (Nat.le_refl _) of pf (by omega)
 have a2:=formed_ok hm hC 99 (fun _=>true) hG0 (fun o _=>any_ok hm hC o) b.size b (Nat.le_refl _) ob pb (by omega)
 have a3:=name_ok hm hC nm hn
 have db:=depth_size b
 have s1:=size_ok hm hC b.size b (Nat.le_refl _) (by omega)
 have s2:=depth_ok hm hC b.size b (Nat.le_refl _) (by omega)
 have g1:=grown_ok hm hC nm b.size b.depth hb (by omega) f.size f (Nat.le_refl _) (by omega)
 have r1:=replaced_ok hm hC 103 [.ref [.lit (.string nm)],.ref (fC b)] rfl (putG nm b) (fun p _ hp=>put103_ok hm hC nm b p (by omega) hp) f.size f (Nat.le_refl _) (by omega)
 unfold putE
 generalize yesB (f.formed fun _=>true)=y1 at *
 generalize yesB (b.formed fun _=>true)=y2 at *
 generalize yesB (nameOK nm)=y3 at *
 generalize f.repl (putG nm b)=r at *
 generalize f.gs nm b.size=gs at *
 generalize f.gd nm b.depth=gd at *
 generalize b.size=sb at *
 generalize b.depth=db' at *
 obtain ⟨o,n,ks⟩:=f
 obtain ⟨bo,bn,bk⟩:=b
 obtain ⟨ro,rn,rk⟩:=r
 simp only [fP,fC,tkP] at a1 a2 s1 s2 g1 r1
 cases y1
 ·simp only [Bool.false_eq_true,false_and,if_false,fP,fC]
  refine PFun.body hm hC (show Tryz.tab.get 47=some Tryz.c47 from rfl) rfl ?_
  simp only [Tryz.c47,startP,List.length_cons,List.length_nil,Nat.reduceAdd,Nat.reduceSub,List.replicate,List.cons_append,List.nil_append]
  repeat (refine PRun.wpn rfl ?_;simp only [wp,wo_nil,wo_p,wo_r,wo_n,wo_call,onO_s,onN_s,ble0,ble_self,ble_succ,pv_t,pv_int,ov_nil,ov_cons,ov_int,ov_str,ov_nilS,put_some,pv_f,pevP,pevR,pevN,getP,setP,evsP,boxP,plainP,isCell,look,PW.cs?,PW.push,PW.none,cut0,cutS,List.drop_zero,Option.map_some,Option.bind_some,Nat.zero_le,nc0,true_and,Bool.and_true,↓reduceIte,reduceCtorEq,ltL,lt,Nat.reduceAdd,Nat.zero_add,resPs,resP,tupP])
  refine .refl (PFun.to (a1) rfl (POps.wp ?_))
  simp only [wo_nil,wo_p,wo_g,onO_s,onG_f,wanted_g,wantB_b,b_tf,pv_t,pv_bool,put_some,pevP,getP,setP,Bool.not_false]
  repeat (refine PRun.wpn rfl ?_;simp only [wp,wo_nil,wo_p,wo_st,onO_s,onE_s,ble0,pv_t,pv_int,ov_nil,ov_cons,ov_int,ov_str,ov_nilS,put_some,put_none,pevP,pevE,getP,setP,fillP,spliceP,overP,plainP,isCell,look,List.length_cons,List.length_nil,Option.map_some,or_true,true_and,Bool.and_true,↓reduceIte,reduceCtorEq,ltL,lt,Nat.reduceAdd,Bool.false_eq_true,Nat.zero_add,allPlain,PW.wr,setO,killO,Bool.or_self,Bool.not_true,List.length_cons,List.length_nil])
  exact .refl ⟨_,rfl,.tup (.cons (.agg (.cons (.refl _) (.cons (.refl _) (.cons .nil_sz .nil)))) (.cons (.refl _) .nil))⟩
 cases y2
 ·simp only [Bool.false_eq_true,false_and,and_false,if_false,fP,fC]
  refine PFun.body hm hC (show Tryz.tab.get 47=some Tryz.c47 from rfl) rfl ?_
  simp only [Tryz.c47,startP,List.length_cons,List.length_nil,Nat.reduceAdd,Nat.reduceSub,List.replicate,List.cons_append,List.nil_append]
  repeat (refine PRun.wpn rfl ?_;simp only [wp,wo_nil,wo_p,wo_r,wo_n,wo_call,onO_s,onN_s,ble0,ble_self,ble_succ,pv_t,pv_int,ov_nil,ov_cons,ov_int,ov_str,ov_nilS,put_some,pv_f,pevP,pevR,pevN,getP,setP,evsP,boxP,plainP,isCell,look,PW.cs?,PW.push,PW.none,cut0,cutS,List.drop_zero,Option.map_some,Option.bind_some,Nat.zero_le,nc0,true_and,Bool.and_true,↓reduceIte,reduceCtorEq,ltL,lt,Nat.reduceAdd,Nat.zero_add,resPs,resP,tupP])
  refine .refl (PFun.to (a1) rfl (POps.wp ?_))
  simp only [wo_p,wo_r,wo_call,wo_g,beq_self_eq_true,onO_s,onG_t,wanted_g,wantB_b,pv_t,put_some,pv_f,pevP,pevR,getP,setP,evsP,look,PW.cs?,cut0,cutS,List.drop_zero,Option.map_some,Option.bind_some,Nat.zero_le,true_and,↓reduceIte,Nat.reduceEqDiff,Bool.not_true]
  refine .refl (PFun.to (a2) rfl (POps.wp ?_))
  simp only [wo_nil,wo_p,wo_g,beq_self_eq_true,onO_s,onG_t,onG_f,wanted_g,wantB_b,b_tf,pv_t,pv_bool,put_some,pevP,getP,setP,Bool.not_false]
  repeat (refine PRun.wpn rfl ?_;simp only [wp,wo_nil,wo_p,wo_st,onO_s,onE_s,ble0,pv_t,pv_int,ov_nil,ov_cons,ov_int,ov_str,ov_nilS,put_some,put_none,pevP,pevE,getP,setP,fillP,spliceP,overP,plainP,isCell,look,List.length_cons,List.length_nil,Option.map_some,or_true,true_and,Bool.and_true,↓reduceIte,reduceCtorEq,ltL,lt,Nat.reduceAdd,Bool.false_eq_true,Nat.zero_add,allPlain,PW.wr,setO,killO,Bool.or_self,Bool.not_true,List.length_cons,List.length_nil])
  exact .refl ⟨_,rfl,.tup (.cons (.agg (.cons (.refl _) (.cons (.refl _) (.cons .nil_sz .nil)))) (.cons (.refl _) .nil))⟩
 cases y3
 ·simp only [Bool.false_eq_true,and_false,if_false,fP,fC]
  refine PFun.body hm hC (show Tryz.tab.get 47=some Tryz.c47 from rfl) rfl ?_
  simp only [Tryz.c47,startP,List.length_cons,List.length_nil,Nat.reduceAdd,Nat.reduceSub,List.replicate,List.cons_append,List.nil_append]
  repeat (refine PRun.wpn rfl ?_;simp only [wp,wo_nil,wo_p,wo_r,wo_n,wo_call,onO_s,onN_s,ble0,ble_self,ble_succ,pv_t,pv_int,ov_nil,ov_cons,ov_int,ov_str,ov_nilS,put_some,pv_f,pevP,pevR,pevN,getP,setP,evsP,boxP,plainP,isCell,look,PW.cs?,PW.push,PW.none,cut0,cutS,List.drop_zero,Option.map_some,Option.bind_some,Nat.zero_le,nc0,true_and,Bool.and_true,↓reduceIte,reduceCtorEq,ltL,lt,Nat.reduceAdd,Nat.zero_add,resPs,resP,tupP])
  refine .refl (PFun.to (a1) rfl (POps.wp ?_))
  simp only [wo_p,wo_r,wo_call,wo_g,beq_self_eq_true,onO_s,onG_t,wanted_g,wantB_b,pv_t,put_some,pv_f,pevP,pevR,getP,setP,evsP,look,PW.cs?,cut0,cutS,List.drop_zero,Option.map_some,Option.bind_some,Nat.zero_le,true_and,↓reduceIte,Nat.reduceEqDiff,Bool.not_true]
  refine .refl (PFun.to (a2) rfl (POps.wp ?_))
  simp only [wo_p,wo_r,wo_call,wo_g,beq_self_eq_true,onO_s,onG_t,wanted_g,wantB_b,pv_t,put_some,pevP,pevR,getP,setP,evsP,look,PW.cs?,nthP,Option.bind_some,Nat.zero_le,true_and,↓reduceIte,Nat.reduceEqDiff,Bool.not_true]
  refine .refl (PFun.to (a3) rfl (POps.wp ?_))
  simp only [wo_nil,wo_p,wo_g,beq_self_eq_true,onO_s,onG_t,wanted_g,wantB_b,pv_t,put_some,pevP,getP,setP,Bool.not_false]
  repeat (refine PRun.wpn rfl ?_;simp only [wp,wo_nil,wo_p,wo_st,onO_s,onE_s,ble0,pv_t,pv_int,ov_nil,ov_cons,ov_int,ov_str,ov_nilS,put_some,put_none,pevP,pevE,getP,setP,fillP,spliceP,overP,plainP,isCell,look,List.length_cons,List.length_nil,Option.map_some,or_true,true_and,Bool.and_true,↓reduceIte,reduceCtorEq,ltL,lt,Nat.reduceAdd,Bool.false_eq_true,Nat.zero_add,allPlain,PW.wr,setO,killO,Bool.or_self,Bool.not_true,List.length_cons,List.length_nil])
  exact .refl ⟨_,rfl,.tup (.cons (.agg (.cons (.refl _) (.cons (.refl _) (.cons .nil_sz .nil)))) (.cons (.refl _) .nil))⟩
 simp only [and_self,if_true]
 by_cases c1:(1000:Int) < (gs:Nat)
 ·simp only [ltB_t c1,true_or,if_true,fP,fC]
  refine PFun.body hm hC (show Tryz.tab.get 47=some Tryz.c47 from rfl) rfl ?_
  simp only [Tryz.c47,startP,List.length_cons,List.length_nil,Nat.reduceAdd,Nat.reduceSub,List.replicate,List.cons_append,List.nil_append]
  repeat (refine PRun.wpn rfl ?_;simp only [wp,wo_nil,wo_p,wo_r,wo_n,wo_call,onO_s,onN_s,ble0,ble_self,ble_succ,pv_t,pv_int,ov_nil,ov_cons,ov_int,ov_str,ov_nilS,put_some,pv_f,pevP,pevR,pevN,getP,setP,evsP,boxP,plainP,isCell,look,PW.cs?,PW.push,PW.none,cut0,cutS,List.drop_zero,Option.map_some,Option.bind_some,Nat.zero_le,nc0,true_and,Bool.and_true,↓reduceIte,reduceCtorEq,ltL,lt,Nat.reduceAdd,Nat.zero_add,resPs,resP,tupP])
  refine .refl (PFun.to (a1) rfl (POps.wp ?_))
  simp only [wo_p,wo_r,wo_call,wo_g,beq_self_eq_true,onO_s,onG_t,wanted_g,wantB_b,pv_t,put_some,pv_f,pevP,pevR,getP,setP,evsP,look,PW.cs?,cut0,cutS,List.drop_zero,Option.map_some,Option.bind_some,Nat.zero_le,true_and,↓reduceIte,Nat.reduceEqDiff,Bool.not_true]
  refine .refl (PFun.to (a2) rfl (POps.wp ?_))
  simp only [wo_p,wo_r,wo_call,wo_g,beq_self_eq_true,onO_s,onG_t,wanted_g,wantB_b,pv_t,put_some,pevP,pevR,getP,setP,evsP,look,PW.cs?,nthP,Option.bind_some,Nat.zero_le,true_and,↓reduceIte,Nat.reduceEqDiff,Bool.not_true]
  refine .refl (PFun.to (a3) rfl (POps.wp ?_))
  simp only [wo_nil,wo_p,wo_g,beq_self_eq_true,onO_s,onG_t,wanted_g,wantB_b,pv_t,put_some,pevP,getP,setP,Bool.not_true]
  repeat (refine PRun.wpn rfl ?_;simp only [wp,pv_t,getP,↓reduceIte,Bool.false_eq_true])
  refine PDraw.stage (Nat.zero_le _) rfl ?_
  try dsimp only
  simp only [onX_s,onXI_s,rdX_e,ltN,ltD_s,onD_s,wx_nil,wx_cons,wx_r,wd_cons,wd_e,pv_t,put_some,pevR,getP,setP,nthO,look,PW.cs?,nthP,cut0,cutS,baseP,ROp.base,List.length_cons,List.length_nil,List.drop_zero,Option.map_some,Option.bind_some,Bool.and_true,↓reduceIte,reduceCtorEq,Nat.reduceAdd,Nat.reduceEqDiff,Option.isSome_some,Nat.zero_add,List.length_cons,List.length_nil]
  refine PDE.pure s1 rfl ?_
  refine PDraw.stage (Nat.zero_le _) rfl ?_
  try dsimp only
  simp only [onD_s,wx_nil,wd_cons,wd_e,put_some,setP,nthO]
  refine PDE.pure s2 rfl ?_
  refine PDraw.stage (Nat.zero_le _) rfl ?_
  try dsimp only
  simp only [onD_s,wx_nil,wd_cons,wd_e,put_some,setP,nthO]
  refine PDE.pure g1 rfl ?_
  refine PDraw.last (Nat.zero_le _) rfl ?_
  try dsimp only
  simp only [onX_s,onXI_s,wx_nil,wx_cons,wx_p,pv_t,put_some,pevP,getP,setP,nthO,nthP]
  repeat (refine PRun.wpn rfl ?_;simp only [wp,wo_nil,wo_p,wo_st,wo_g,onO_s,onE_s,onG_f,wanted_g,wantB_b,b_tf,ble0,pv_t,pv_int,pv_bool,ov_nil,ov_cons,ov_int,ov_str,ov_nilS,put_some,put_none,bi_gtr,pevP,pevE,getP,setP,fillP,spliceP,overP,plainP,isCell,look,List.length_cons,List.length_nil,Option.map_some,or_true,true_and,Bool.and_true,↓reduceIte,reduceCtorEq,ltL,lt,Nat.reduceAdd,Bool.false_eq_true,Nat.zero_add,allPlain,PW.wr,setO,killO,Bool.or_self,Bool.not_true,List.length_cons,List.length_nil,ltB_t c1])
  exact .refl ⟨_,rfl,.tup (.cons (.agg (.cons (.refl _) (.cons (.refl _) (.cons .nil_sz .nil)))) (.cons (.refl _) .nil))⟩
 by_cases c2:(100:Int) < (gd:Nat)
 ·simp only [ltB_t c2,or_true,if_true,fP,fC]
  refine PFun.body hm hC (show Tryz.tab.get 47=some Tryz.c47 from rfl) rfl ?_
  simp only [Tryz.c47,startP,List.length_cons,List.length_nil,Nat.reduceAdd,Nat.reduceSub,List.replicate,List.cons_append,List.nil_append]
  repeat (refine PRun.wpn rfl ?_;simp only [wp,wo_nil,wo_p,wo_r,wo_n,wo_call,onO_s,onN_s,ble0,ble_self,ble_succ,pv_t,pv_int,ov_nil,ov_cons,ov_int,ov_str,ov_nilS,put_some,pv_f,pevP,pevR,pevN,getP,setP,evsP,boxP,plainP,isCell,look,PW.cs?,PW.push,PW.none,cut0,cutS,List.drop_zero,Option.map_some,Option.bind_some,Nat.zero_le,nc0,true_and,Bool.and_true,↓reduceIte,reduceCtorEq,ltL,lt,Nat.reduceAdd,Nat.zero_add,resPs,resP,tupP])
  refine .refl (PFun.to (a1) rfl (POps.wp ?_))
  simp only [wo_p,wo_r,wo_call,wo_g,beq_self_eq_true,onO_s,onG_t,wanted_g,wantB_b,pv_t,put_some,pv_f,pevP,pevR,getP,setP,evsP,look,PW.cs?,cut0,cutS,List.drop_zero,Option.map_some,Option.bind_some,Nat.zero_le,true_and,↓reduceIte,Nat.reduceEqDiff,Bool.not_true]
  refine .refl (PFun.to (a2) rfl (POps.wp ?_))
  simp only [wo_p,wo_r,wo_call,wo_g,beq_self_eq_true,onO_s,onG_t,wanted_g,wantB_b,pv_t,put_some,pevP,pevR,getP,setP,evsP,look,PW.cs?,nthP,Option.bind_some,Nat.zero_le,true_and,↓reduceIte,Nat.reduceEqDiff,Bool.not_true]
  refine .refl (PFun.to (a3) rfl (POps.wp ?_))
  simp only [wo_nil,wo_p,wo_g,beq_self_eq_true,onO_s,onG_t,wanted_g,wantB_b,pv_t,put_some,pevP,getP,setP,Bool.not_true]
  repeat (refine PRun.wpn rfl ?_;simp only [wp,pv_t,getP,↓reduceIte,Bool.false_eq_true])
  refine PDraw.stage (Nat.zero_le _) rfl ?_
  try dsimp only
  simp only [onX_s,onXI_s,rdX_e,ltN,ltD_s,onD_s,wx_nil,wx_cons,wx_r,wd_cons,wd_e,pv_t,put_some,pevR,getP,setP,nthO,look,PW.cs?,nthP,cut0,cutS,baseP,ROp.base,List.length_cons,List.length_nil,List.drop_zero,Option.map_some,Option.bind_some,Bool.and_true,↓reduceIte,reduceCtorEq,Nat.reduceAdd,Nat.reduceEqDiff,Option.isSome_some,Nat.zero_add,List.length_cons,List.length_nil]
  refine PDE.pure s1 rfl ?_
  refine PDraw.stage (Nat.zero_le _) rfl ?_
  try dsimp only
  simp only [onD_s,wx_nil,wd_cons,wd_e,put_some,setP,nthO]
  refine PDE.pure s2 rfl ?_
  refine PDraw.stage (Nat.zero_le _) rfl ?_
  try dsimp only
  simp only [onD_s,wx_nil,wd_cons,wd_e,put_some,setP,nthO]
  refine PDE.pure g1 rfl ?_
  refine PDraw.last (Nat.zero_le _) rfl ?_
  try dsimp only
  simp only [onX_s,onXI_s,wx_nil,wx_cons,wx_p,pv_t,put_some,pevP,getP,setP,nthO,nthP]
  repeat (refine PRun.wpn rfl ?_;simp only [wp,wo_nil,wo_p,wo_st,wo_g,beq_self_eq_true,onO_s,onE_s,onG_t,wanted_g,wantB_b,ble0,pv_t,pv_int,ov_nil,ov_cons,ov_int,ov_str,ov_nilS,put_some,put_none,bi_gtr,pevP,pevE,getP,setP,fillP,spliceP,overP,plainP,isCell,look,List.length_cons,List.length_nil,Option.map_some,or_true,true_and,Bool.and_true,↓reduceIte,reduceCtorEq,ltL,lt,Nat.reduceAdd,Bool.false_eq_true,Nat.zero_add,allPlain,PW.wr,setO,killO,Bool.or_self,Bool.not_true,List.length_cons,List.length_nil,ltB_f c1,ltB_t c2])
  exact .refl ⟨_,rfl,.tup (.cons (.agg (.cons (.refl _) (.cons (.refl _) (.cons .nil_sz .nil)))) (.cons (.refl _) .nil))⟩
 simp only [ltB_f c1,ltB_f c2,Bool.false_eq_true,or_self,if_false,fP,fC]
 refine PFun.body hm hC (show Tryz.tab.get 47=some Tryz.c47 from rfl) rfl ?_
 simp only [Tryz.c47,startP,List.length_cons,List.length_nil,Nat.reduceAdd,Nat.reduceSub,List.replicate,List.cons_append,List.nil_append]
 repeat (refine PRun.wpn rfl ?_;simp only [wp,wo_nil,wo_p,wo_r,wo_n,wo_call,onO_s,onN_s,ble0,ble_self,ble_succ,pv_t,pv_int,ov_nil,ov_cons,ov_int,ov_str,ov_nilS,put_some,pv_f,pevP,pevR,pevN,getP,setP,evsP,boxP,plainP,isCell,look,PW.cs?,PW.push,PW.none,cut0,cutS,List.drop_zero,Option.map_some,Option.bind_some,Nat.zero_le,true_and,Bool.and_true,↓reduceIte,reduceCtorEq,ltL,lt,Nat.reduceAdd,Nat.zero_add,resPs,resP,tupP])
 refine .refl (PFun.to (a1) rfl (POps.wp ?_))
 simp only [wo_p,wo_r,wo_call,wo_g,beq_self_eq_true,onO_s,onG_t,wanted_g,wantB_b,pv_t,put_some,pv_f,pevP,pevR,getP,setP,evsP,look,PW.cs?,cut0,cutS,List.drop_zero,Option.map_some,Option.bind_some,Nat.zero_le,true_and,↓reduceIte,Nat.reduceEqDiff,Bool.not_true]
 refine .refl (PFun.to (a2) rfl (POps.wp ?_))
 simp only [wo_p,wo_r,wo_call,wo_g,beq_self_eq_true,onO_s,onG_t,wanted_g,wantB_b,pv_t,put_some,pevP,pevR,getP,setP,evsP,look,PW.cs?,nthP,Option.bind_some,Nat.zero_le,true_and,↓reduceIte,Nat.reduceEqDiff,Bool.not_true]
 refine .refl (PFun.to (a3) rfl (POps.wp ?_))
 simp only [wo_nil,wo_p,wo_g,beq_self_eq_true,onO_s,onG_t,wanted_g,wantB_b,pv_t,put_some,pevP,getP,setP,Bool.not_true]
 repeat (refine PRun.wpn rfl ?_;simp only [wp,pv_t,getP,↓reduceIte,Bool.false_eq_true])
 refine PDraw.stage (Nat.zero_le _) rfl ?_
 try dsimp only
 simp only [onX_s,onXI_s,rdX_e,ltN,ltD_s,onD_s,wx_nil,wx_cons,wx_r,wd_cons,wd_e,pv_t,put_some,pevR,getP,setP,nthO,look,PW.cs?,nthP,cut0,cutS,baseP,ROp.base,List.length_cons,List.length_nil,List.drop_zero,Option.map_some,Option.bind_some,Bool.and_true,↓reduceIte,reduceCtorEq,Nat.reduceAdd,Nat.reduceEqDiff,Option.isSome_some,Nat.zero_add,List.length_cons,List.length_nil]
 refine PDE.pure s1 rfl ?_
 refine PDraw.stage (Nat.zero_le _) rfl ?_
 try dsimp only
 simp only [onD_s,wx_nil,wd_cons,wd_e,put_some,setP,nthO]
 refine PDE.pure s2 rfl ?_
 refine PDraw.stage (Nat.zero_le _) rfl ?_
 try dsimp only
 simp only [onD_s,wx_nil,wd_cons,wd_e,put_some,setP,nthO]
 refine PDE.pure g1 rfl ?_
 refine PDraw.last (Nat.zero_le _) rfl ?_
 try dsimp only
 simp only [onX_s,onXI_s,wx_nil,wx_cons,wx_p,pv_t,put_some,pevP,getP,setP,nthO,nthP]
 repeat (refine PRun.wpn rfl ?_;simp only [wp,wo_nil,wo_p,wo_r,wo_call,wo_g,beq_self_eq_true,onO_s,onG_t,wanted_g,wantB_b,pv_t,pv_int,put_some,bi_gtr,pevP,pevR,getP,setP,evsP,look,PW.cs?,cut0,cutS,List.drop_zero,Option.map_some,Option.bind_some,Nat.zero_le,true_and,↓reduceIte,reduceCtorEq,Bool.false_eq_true,ltB_f c1,ltB_f c2])
 refine Gh.frz 1 rfl rfl rfl ?_
 simp only [List.drop_zero,↓reduceIte,reduceCtorEq,Nat.reduceEqDiff,frzL,frzP,frzO,frzH]
 refine Gh.frz 2 rfl rfl rfl ?_
 simp only [List.drop_zero,↓reduceIte,reduceCtorEq,Nat.reduceEqDiff,frzL,frzP,frzO,frzH]
 refine .refl (PFun.to (r1) rfl (POps.wp ?_))
 simp only [wo_nil,wo_p,wo_st,onO_s,onE_s,ble0,pv_t,pv_int,put_some,put_none,pevP,pevE,getP,setP,spliceP,overP,plainP,isCell,look,List.length_cons,List.length_nil,Option.map_some,Bool.and_true,↓reduceIte,Nat.reduceAdd,Bool.false_eq_true,Nat.zero_add,allPlain,PW.wr,setO,killO,Bool.or_self,Bool.not_true,List.length_cons,List.length_nil]
 repeat (refine PRun.wpn rfl ?_;simp only [wp,or_true,true_and,reduceCtorEq])
 exact .refl ⟨_,rfl,.refl _⟩
end
end Go.Proofs.YtnpoloachkcadaaGreatDoor.Ai
