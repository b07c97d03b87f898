/- A PART OF THE PROOF: a step of the proof that the law's code does what its contracts say, by an interpreter of the program's functions that is proved to be sound. -/
import Derived.Test.YtnpoloachkcadaaGreatDoorTbB
import Derived.Test.YtnpoloachkcadaaGreatDoorPv3
namespace Go.Proofs.YtnpoloachkcadaaGreatDoor.Ai
open Go
set_option linter.unusedVariables false
set_option linter.unusedSectionVars false
set_option maxRecDepth 10000
open Classical in
noncomputable def posN (s:ByteArray):List ByteArray→Nat
 | []=>0
 | x::l=>if s=x then 1 else if posN s l=0 then 0 else posN s l + 1
def mP:Nat→List ByteArray→List (PV × PV × Nat)
 | _,[]=>[]
 | i,s::ns=>(.lit (.string s),.lit (.int .i64 ((i + 1:Nat):Int)),i)::mP (i + 1) ns
theorem mP_app:∀ (a b:List ByteArray) (i:Nat),mP i (a++b)=mP i a++mP (i + a.length) b
 | [],b,i=>by simp [mP]
 | s::a,b,i=>by simp only [List.cons_append,mP,mP_app a b,List.length_cons];congr 3;omega
theorem nmE_mP (n:Nat):∀ (ns:List ByteArray) (i:Nat),nmE n (mP i ns)=true
 | [],i=>rfl
 | s::ns,i=>by simp only [mP,nmE,nmP,nmE_mP n ns,Bool.and_self]
theorem renE_mP (ρ:List (Nat × Nat)):∀ (ns:List ByteArray) (i:Nat),renE ρ (mP i ns)=mP i ns
 | [],i=>rfl
 | s::ns,i=>by simp only [mP,renE,renP,renE_mP ρ ns]
theorem frzE_mP (k:Nat) (cs:List PV):∀ (ns:List ByteArray) (i:Nat),frzE k cs (mP i ns)=mP i ns
 | [],i=>rfl
 | s::ns,i=>by simp only [mP,frzE,frzP,frzE_mP k cs ns]
theorem posN_le (s:ByteArray):∀ ns:List ByteArray,posN s ns≤ns.length
 | []=>by simp [posN]
 | x::ns=>by
  have:=posN_le s ns
  unfold posN
  split
  ·simp
  ·split <;> simp <;> omega
theorem posN_zero {s:ByteArray}:∀ {ns:List ByteArray},posN s ns=0↔s∉ns
 | []=>by simp [posN]
 | x::ns=>by
  have:=@posN_zero s ns
  unfold posN
  split
  ·rename_i h;simp [h]
  ·rename_i h
   split
   ·rename_i h0;simp [h,this.1 h0]
   ·rename_i h0;rw [this] at h0;simp [h];simpa using h0
theorem posN_get {s:ByteArray}:∀ {ns:List ByteArray},s∈ns→ns[posN s ns - 1]? = some s∧0 < posN s ns
 | [],h=>by simp at h
 | x::ns,h=>by
  unfold posN
  split
  ·rename_i e;simp [e]
  ·rename_i e
   have h1:s∈ns:=by simpa [e] using h
   obtain ⟨g1,g2⟩:=posN_get h1
   rw [if_neg (by omega)]
   refine ⟨?_,by omega⟩
   rw [Nat.add_sub_cancel,show posN s ns=(posN s ns - 1) + 1 by omega,List.getElem?_cons_succ]
   exact g1
theorem findP_mP (s:ByteArray):∀ (ns:List ByteArray) (i b:Nat),(posN s ns ≠ 0→∃ k,findP .str (.lit (.string s)) (mP b ns) i=some (some (k,.lit (.int .i64 ((b + posN s ns:Nat):Int)))))∧(posN s ns=0→findP .str (.lit (.string s)) (mP b ns) i=some none)
 | [],i,b=>⟨fun h=>by simp [posN] at h,fun _=>rfl⟩
 | x::ns,i,b=>by
  obtain ⟨ih1,ih2⟩:=findP_mP s ns (i + 1) (b + 1)
  have e:eqP .str (.lit (.string s)) (.lit (.string x))=some (s == x):=by simp only [eqP,eqv]
  by_cases hx:s=x
  ·have e2:(s == x)=true:=(ba_eq _ _).2 hx
   refine ⟨fun _=>⟨i,?_⟩,fun h=>by unfold posN at h;rw [if_pos hx] at h;cases h⟩
   simp only [mP,findP,e,e2]
   unfold posN
   rw [if_pos hx]
  ·have e2:(s == x)=false:=by cases hh:(s == x) with | false=>rfl | true=>exact absurd ((ba_eq _ _).1 hh) hx
   have ep:posN s (x::ns)=if posN s ns=0 then 0 else posN s ns + 1:=by rw [posN,if_neg hx]
   rw [ep]
   constructor
   ·intro h
    split at h
    ·exact absurd rfl h
    ·rename_i h0
     obtain ⟨k,hk⟩:=ih1 h0
     refine ⟨k,?_⟩
     rw [if_neg h0]
     simp only [mP,findP,e,e2]
     rw [hk,show b + 1 + posN s ns=b + (posN s ns + 1) by omega]
   ·intro h
    split at h
    ·rename_i h0
     simp only [mP,findP,e,e2]
     exact ih2 h0
    ·cases h
theorem findM_mP (s:ByteArray):∀ (ns:List ByteArray) (i b:Nat),s∉ns→findM (.string s) (mP b ns) i=some none
 | [],i,b,_=>rfl
 | x::ns,i,b,h=>by
  simp only [List.mem_cons,not_or] at h
  have ih:=findM_mP s ns (i + 1) (b + 1) h.2
  simp only [mP,findM,eqK]
  rw [show (s == x)=false from by cases hh:(s == x) with | false=>rfl | true=>exact absurd ((ba_eq _ _).1 hh) h.1]
  exact ih
theorem sL_drop (ns:List ByteArray) (i:Nat):(sL ns).drop i=sL (ns.drop i):=by simp [sL,List.map_drop]
theorem sL_at {ns:List ByteArray} {i:Nat} {s:ByteArray} (h:ns[i]? = some s):(sL ns).drop i = .lit (.string s)::sL (ns.drop (i + 1)):=by
 obtain ⟨h1,h2⟩:=List.getElem?_eq_some_iff.1 h
 rw [sL_drop,List.drop_eq_getElem_cons h1,h2]
 rfl
noncomputable def renG (from_ to_:List ByteArray):Fm→Fm
 | .mk o n ks=>.mk o (if posN n from_=0 then n else to_.getD (posN n from_ - 1) n) ks
def placeH (ns:List ByteArray):List (Nat × PObj):=[(1,.cells [.map 0] 88 1 true false []),(0,.map (mP 0 ns) ns.length)]
theorem placeH_ok (ns:List ByteArray):(nmH 2 (placeH ns) && uniqH (placeH ns))=true:=by
 simp only [placeH,nmH,nmO,nmE_mP,nmL,nmP,List.isEmpty,uniqH,look]
 rfl
theorem placeH_nm (ns:List ByteArray):nmH 2 (placeH ns)=true:=by
 have:=placeH_ok ns
 simp only [Bool.and_eq_true] at this
 exact this.1
section
variable {C:Ctx} (hm:C.P.follows .mixedOrders=true) (hC:TabOK C.P C.ng C.ts Tryz.tab)
include hm hC
theorem ren105_ok (from_ to_:List ByteArray) (hl:from_.length=to_.length) (hz:from_.length < 2 ^ 38) (p:Fm) (hp:p.size < 2 ^ 38) :
  PFunS C 2 (placeH from_) 105 [fP p,.ptr 1 0,.ref [.sz (sL to_) to_.length]] (fP (renG from_ to_ p)):=by
 have hH:=placeH_nm from_
 obtain ⟨o,n,ks⟩:=p
 obtain ⟨f1,f2⟩:=findP_mP n from_ 0 0
 have hle:=posN_le n from_
 have b2:Nat.ble 2 2=true:=rfl
 have b3:Nat.ble 2 3=true:=rfl
 have b4:Nat.ble 2 4=true:=rfl
 have b5:Nat.ble 2 5=true:=rfl
 by_cases h0:posN n from_=0
 ·have f2:=f2 h0
  have c1:=copy_ok hm hC _ (.mk o n ks) (Nat.le_refl _) hp
  have e:renG from_ to_ (.mk o n ks) = .mk o n ks:=by simp only [renG,if_pos h0]
  rw [e]
  simp only [fP,fC] at c1
  refine PFunS.body hm hC (show Tryz.tab.get 105=some Tryz.c105 from rfl) rfl hH ?_
  simp only [Tryz.c105,startP,List.length_cons,List.length_nil,Nat.reduceAdd,Nat.reduceSub,List.replicate,List.cons_append,List.nil_append,fP,fC,placeH]
  repeat (refine PRun.wpn rfl ?_;simp only [wp,wo_nil,wo_p,wo_r,wo_n,wo_call,onO_s,onN_s,ble_self,ble_succ,pv_t,pv_int,ov_nil,ov_cons,ov_int,ov_str,ov_nilS,put_some,bi_gtr,pevP,pevR,pevN,getP,setP,evsP,boxP,look,PW.cs?,PW.push,nthP,cut0,cutS,List.drop_zero,Option.map_some,Option.bind_some,Bool.and_true,↓reduceIte,reduceCtorEq,ltL,lt,Nat.reduceAdd,Nat.reduceEqDiff,Bool.false_eq_true,Nat.zero_add,resPs,resP,tupP,f2,keyP,ltB_f (show ¬ (0:Int) < 0 by omega)])
  refine .refl ⟨Nat.le_of_ble_eq_true rfl,PFun.to (c1) rfl (POps.wp ?_)⟩
  simp only [wo_st,pv_t,pevE,getP,setP,spliceP,overP,plainP,isCell,look,List.length_cons,List.length_nil,Option.map_some,Bool.and_true,↓reduceIte,Nat.reduceAdd,Bool.false_eq_true,Nat.zero_add,allPlain,PW.wr,setO,killO,Bool.or_self,Bool.not_true,List.length_cons,List.length_nil]
  repeat (refine PRun.wpn rfl ?_;simp only [wp,put_none,or_true,true_and,reduceCtorEq])
  exact .refl ⟨_,rfl,.refl _,[_,_],rfl,rfl⟩
 ·obtain ⟨k,f1⟩:=f1 h0
  rw [Nat.zero_add] at f1
  obtain ⟨t,ht⟩:∃ t,to_[posN n from_ - 1]? = some t:=⟨to_[posN n from_ - 1]'(by omega),List.getElem?_eq_getElem (by omega)⟩
  have e:renG from_ to_ (.mk o n ks) = .mk o t ks:=by simp only [renG,if_neg h0];rw [List.getD_eq_getElem?_getD,ht];rfl
  have c1:=copy_ok hm hC _ (.mk o t ks) (Nat.le_refl _) (by simpa only [Fm.size] using hp)
  have hcut:=sL_at ht
  rw [e]
  simp only [fP,fC] at c1
  have w1:IntKind.i64.wrap (((posN n from_:Nat):Int) - 1)=((posN n from_ - 1:Nat):Int):=by rw [wrap64 (by omega) (by omega)];omega
  have w2:ltB 0 ((posN n from_:Nat):Int)=true:=ltB_t (by omega)
  have w3:((posN n from_ - 1:Nat):Int) < ((to_.length:Nat):Int):=by omega
  refine PFunS.body hm hC (show Tryz.tab.get 105=some Tryz.c105 from rfl) rfl hH ?_
  simp only [Tryz.c105,startP,List.length_cons,List.length_nil,Nat.reduceAdd,Nat.reduceSub,List.replicate,List.cons_append,List.nil_append,fP,fC,placeH]
  repeat (refine PRun.wpn rfl ?_;simp only [wp,wo_nil,wo_p,wo_r,wo_n,wo_call,wo_st,beq_self_eq_true,onO_s,onN_s,onE_s,ble_self,ble_succ,pv_t,pv_int,ov_nil,ov_cons,ov_int,ov_str,ov_nilS,put_some,put_none,bi_sub,bi_gtr,pevP,pevR,pevN,pevE,getP,setP,evsP,boxP,spliceP,overP,plainP,isCell,look,PW.cs?,PW.push,nthP,cut0,cutS,List.drop_zero,Option.map_some,Option.bind_some,Nat.mul_one,Int.natCast_nonneg,Int.toNat_natCast,and_self,Bool.and_true,↓reduceIte,reduceCtorEq,ltL,lt,Nat.reduceAdd,Nat.reduceEqDiff,Bool.false_eq_true,Nat.zero_add,allPlain,PW.wr,setO,killO,Bool.or_self,Bool.not_true,resPs,resP,tupP,b4,f1,keyP,w1,w2,w3,hcut])
  refine .refl ⟨Nat.le_of_ble_eq_true rfl,PFun.to (c1) rfl (POps.wp ?_)⟩
  simp only [wo_st,pv_t,pevE,getP,setP,spliceP,overP,plainP,isCell,look,List.length_cons,List.length_nil,Option.map_some,Bool.and_true,↓reduceIte,Nat.reduceAdd,Bool.false_eq_true,Nat.zero_add,allPlain,PW.wr,setO,killO,Bool.or_self,Bool.not_true,List.length_cons,List.length_nil]
  repeat (refine PRun.wpn rfl ?_;simp only [wp,put_none,or_true,true_and,reduceCtorEq])
  exact .refl ⟨_,rfl,.refl _,[_,_],rfl,rfl⟩
theorem replacedS_ok (from_ to_:List ByteArray) (hl:from_.length=to_.length) (hz:from_.length < 2 ^ 38):∀ (n:Nat) (f:Fm),f.size≤n→n < 2 ^ 38→
  PFunS C 2 (placeH from_) 102 [fP f,.fn 105 [] [.ptr 1 0,.ref [.sz (sL to_) to_.length]]] (fP (f.repl (renG from_ to_))):=by
 have hH:=placeH_nm from_
 have hok:=placeH_ok from_
 have hcb:=ren105_ok hm hC from_ to_ hl hz
 generalize renG from_ to_=g at *
 have b2:Nat.ble 2 2=true:=rfl
 have b3:Nat.ble 2 3=true:=rfl
 have b4:Nat.ble 2 4=true:=rfl
 have b5:Nat.ble 2 5=true:=rfl
 have b6:Nat.ble 2 6=true:=rfl
 have b7:Nat.ble 2 7=true:=rfl
 intro n
 induction n with
 | zero=>intro f h;have:=f.size_pos;omega
 | succ n ih=>
  intro f hf hn
  obtain ⟨o,nm,ks⟩:=f
  simp only [Fm.size] at hf
  have hlen:=len_sizes ks
  by_cases h3:((o:Nat):Int)=3
  ·have e:(Fm.mk o nm ks).repl g=g (.mk o nm ks):=by simp only [Fm.repl];rw [if_pos (by omega)]
   have hc:=hcb (.mk o nm ks) (by simp only [Fm.size];omega)
   rw [e]
   generalize g (.mk o nm ks)=gr at hc ⊢
   obtain ⟨go,gn,gk⟩:=gr
   simp only [fP,fC] at hc
   refine PFunS.body hm hC (show Tryz.tab.get 102=some Tryz.c102 from rfl) rfl hH ?_
   simp only [Tryz.c102,startP,List.length_cons,List.length_nil,Nat.reduceAdd,Nat.reduceSub,List.replicate,List.cons_append,List.nil_append,fP,fC]
   simp only [placeH] at hc hok ⊢
   repeat (refine PRun.wpn rfl ?_;simp only [wp,wo_nil,wo_p,wo_r,wo_n,wo_callv,onO_s,onN_s,ble_self,ble_succ,pv_t,pv_int,ov_nil,ov_cons,ov_int,ov_str,ov_nilS,put_some,bi_eql,pevP,pevR,pevN,getP,setP,evsP,boxP,look,PW.cs?,PW.push,nthP,cut0,cutS,List.drop_zero,Option.map_some,Option.bind_some,Bool.and_true,↓reduceIte,ltL,lt,Nat.reduceAdd,Nat.reduceEqDiff,Nat.add_zero,resPs,resP,tupP,eqB_t h3])
   refine .refl ⟨Nat.le_of_ble_eq_true rfl,PFunS.to hc hok rfl [_,_] rfl rfl (POps.wp ?_)⟩
   simp only [wo_st,pv_t,pevE,getP,setP,spliceP,overP,plainP,isCell,look,List.length_cons,List.length_nil,Option.map_some,Bool.and_true,↓reduceIte,Nat.reduceAdd,Bool.false_eq_true,Nat.zero_add,allPlain,PW.wr,setO,killO,Bool.or_self,Bool.not_true,List.length_cons,List.length_nil]
   repeat (refine PRun.wpn rfl ?_;simp only [wp,put_none,or_true,true_and,reduceCtorEq])
   exact .refl ⟨_,rfl,.refl _,[_,_],rfl,rfl⟩
  have e:(Fm.mk o nm ks).repl g = .mk o ⟨#[]⟩ (repls g ks):=by simp only [Fm.repl];rw [if_neg (by omega)]
  rw [e]
  refine PFunS.body hm hC (show Tryz.tab.get 102=some Tryz.c102 from rfl) rfl hH ?_
  simp only [Tryz.c102,startP,List.length_cons,List.length_nil,Nat.reduceAdd,Nat.reduceSub,List.replicate,List.cons_append,List.nil_append,fP,fC]
  simp only [placeH] at ih hok ⊢
  repeat (refine PRun.wpn rfl ?_;simp only [wp,wo_nil,wo_p,wo_r,wo_n,wo_st,beq_self_eq_true,onO_s,onN_s,onE_s,ble_self,ble_succ,pv_t,pv_int,ov_nil,ov_cons,ov_int,ov_str,ov_nilS,put_some,put_none,bi_eql,pevP,pevR,pevN,pevE,getP,setP,fillP,boxP,spliceP,overP,plainP,isCell,look,PW.cs?,PW.push,nthP,List.length_cons,List.length_nil,Option.map_some,Option.bind_some,Bool.and_true,↓reduceIte,reduceCtorEq,ltL,lt,Nat.reduceAdd,Nat.reduceEqDiff,Bool.false_eq_true,Nat.add_zero,Nat.zero_add,allPlain,PW.wr,setO,killO,Bool.or_self,Bool.not_true,resPs,resP,tupP,List.length_cons,List.length_nil,b4,b5,eqB_f h3])
  refine PRun.gh (Gh.mr (false::true::false::false::true::true::false::false::false::false::false::false::false::false::false::false::false::false::true::true::true::false::false::false::false::false::false::false::false::false::false::false::false::false::[]) [(0,0),(1,1),(3,2),(4,3)] 4 rfl ?_)
  simp only [↓reduceIte,reduceCtorEq,Nat.reduceEqDiff,Bool.false_eq_true,renL,renP,renO,renH,renA,lkN,maskP,renE_mP]
  refine PRun.loopG (fun m t π=>∃ i:Nat,t=(.junk::.fn 105 [] [.ptr 1 0,.ref [.sz (sL to_) to_.length]]::.junk::.junk::.ptr 2 0::.ptr 3 0::.junk::.junk::.junk::.junk::.junk::.junk::.junk::.junk::.junk::.junk::.junk::.junk::.sz (fL ks) ks.length::.lit (.int .i64 (ks.length:Nat))::.lit (.int .i64 (i:Nat))::.junk::.junk::.junk::.junk::.junk::.junk::.junk::.junk::.junk::.junk::.junk::.junk::.junk::[])∧i≤ks.length∧m=ks.length - i∧((i=0∧π=⟨4,[(3,.cells [.lit (.int .u8 (o:Nat)),.lit (.string ⟨#[]⟩),.lit (.slice none 0 0)] 27 3 true false []),(2,.cells [.lit (.int .u8 0),.lit (.string ⟨#[]⟩),.lit (.slice none 0 0)] 27 3 true false []),(1,.cells [.map 0] 88 1 true false []),(0,.map (mP 0 from_) from_.length)]⟩)∨
   (0 < i∧π=⟨5,[(4,.cells (fL (repls g (ks.take i))) 27 3 false false []),(3,.cells [.lit (.int .u8 (o:Nat)),.lit (.string ⟨#[]⟩),.loc 4 0 i i] 27 3 true false []),(2,.cells [.lit (.int .u8 0),.lit (.string ⟨#[]⟩),.lit (.slice none 0 0)] 27 3 true false []),(1,.cells [.map 0] 88 1 true false []),(0,.map (mP 0 from_) from_.length)]⟩))) ?_ ks.length _ _ ⟨0,rfl,by omega,rfl,.inl ⟨rfl,rfl⟩⟩
  rintro m t π ⟨i,rfl,hi,rfl,hπ⟩
  by_cases hlt:(i:Int) < (ks.length:Nat)
  ·obtain ⟨k,hk⟩:∃ k,ks[i]? = some k:=⟨ks[i]'(by omega),List.getElem?_eq_getElem (by omega)⟩
   have h1:=size_kid hk
   have hcut:=fL_cut hk
   have hrec:=ih k (by omega) (by omega)
   have etake:fL (repls g (ks.take (i + 1)))=fL (repls g (ks.take i))++fC (k.repl g):=by rw [List.take_add_one,hk,repls_app,fL_app];simp [fL,repls]
   have hk3:=fC_len k
   generalize k.repl g=kr at hrec etake
   obtain ⟨ro,rn,rk⟩:=kr
   obtain ⟨o',nm',ks'⟩:=k
   simp only [fP,fC] at hrec hcut etake
   rcases hπ with ⟨rfl,rfl⟩ | ⟨hi0,rfl⟩
   ·simp only [nc0,Nat.zero_mul,List.drop_zero] at hlt hcut
    repeat (refine PRun.wpn rfl ?_;simp only [wp,wo_nil,wo_p,wo_r,wo_n,wo_st,onO_s,onN_s,onE_s,pv_t,ov_nil,ov_cons,ov_int,ov_str,ov_nilS,put_some,put_none,bi_lss,pevP,pevR,pevN,pevE,getP,setP,spliceP,overP,plainP,isCell,look,PW.push,List.length_cons,List.length_nil,List.drop_zero,Option.map_some,Nat.sub_zero,nc0,tn0,Int.le_refl,and_self,Bool.and_true,↓reduceIte,ltL,lt,Nat.reduceAdd,Nat.reduceMul,Bool.false_eq_true,Nat.zero_add,allPlain,PW.wr,setO,killO,Bool.or_self,Bool.not_true,List.length_cons,List.length_nil,b4,b5,ltB_t hlt,hlt,hcut])
    refine PDraw.stage (Nat.le_of_ble_eq_true rfl) rfl ?_
    try dsimp only
    simp only [onX_s,onXI_s,rdX_e,ltN,ltD_s,onD_s,wx_nil,wx_cons,wx_p,wx_r,wd_cons,wd_e,pv_t,put_some,pevP,pevR,getP,setP,nthO,look,PW.cs?,nthP,cut0,cutS,baseP,ROp.base,List.length_cons,List.length_nil,List.drop_zero,Option.map_some,Option.bind_some,Bool.and_true,↓reduceIte,Nat.reduceAdd,Nat.reduceEqDiff,Option.isSome_some,Nat.zero_add,List.length_cons,List.length_nil]
    refine PDE.pureS hrec hok rfl [_,_,_] rfl rfl ?_
    refine PDraw.stage (Nat.le_of_ble_eq_true rfl) rfl ?_
    try dsimp only
    simp only [onXN_s,onXI_s,onD_s,wx_nil,wx_cons,wx_n,wd_cons,wd_e,pv_t,ov_nil,ov_cons,ov_int,ov_str,ov_nilS,put_some,pevN,getP,setP,nthO,fillP,spliceP,overP,PW.push,List.length_cons,List.length_nil,Option.map_some,Option.bind_some,Bool.and_true,↓reduceIte,ltL,lt,Nat.reduceAdd,Nat.zero_add,List.length_cons,List.length_nil]
    refine PDE.ev (Nat.le_of_ble_eq_true rfl) ?_
    simp only [pv_t,pevE,getP,lenP,srcP,appendP,plainP,isCell,look,PW.cs?,PW.push,cut0,cutS,List.drop_zero,Option.map_some,Option.bind_some,Nat.mul_one,Bool.and_true,↓reduceIte,Nat.reduceAdd,Nat.reduceMul,Nat.reduceLeDiff,Nat.reduceLT,Nat.zero_add,allPlain,Bool.false_or,Bool.not_true,gt_iff_lt]
    refine PDraw.stage (Nat.le_of_ble_eq_true rfl) rfl ?_
    try dsimp only
    simp only [onX_s,onXI_s,onD_s,wx_nil,wx_cons,wx_p,wd_cons,wd_e,pv_t,put_some,pevP,getP,setP,nthO,Nat.zero_add]
    refine PDE.ev (Nat.le_of_ble_eq_true rfl) ?_
    simp only [beq_self_eq_true,pv_t,put_none,onDE_s,pevE,getP,spliceP,overP,plainP,look,Option.map_some,Bool.and_true,↓reduceIte,Nat.reduceEqDiff,Bool.false_eq_true,allPlain,PW.wr,setO,killO,Bool.or_self,Bool.not_true]
    refine PDraw.last (Nat.le_of_ble_eq_true rfl) rfl ?_
    try dsimp only
    simp only [wx_nil]
    repeat (refine PRun.wpn rfl ?_;simp only [wp,wo_nil,wo_p,onO_s,pv_t,pv_int,put_some,bi_add,pevP,getP,setP,Option.map_some])
    rw [wrap64 (by omega) (by omega)]
    refine Gh.mr (false::true::false::false::true::true::false::false::false::false::false::false::false::false::false::false::false::false::true::true::true::false::false::false::false::false::false::false::false::false::false::false::false::false::[]) [(0,0),(1,1),(2,2),(3,3),(6,4)] 5 rfl ?_
    refine ⟨ks.length - 1,by omega,1,by simp only [nc1,↓reduceIte,reduceCtorEq,Nat.reduceEqDiff,Bool.false_eq_true,renL,renP,lkN,maskP];rfl,by omega,rfl,.inr ⟨by omega,?_⟩⟩
    simp only [etake,List.take_zero,repls,fL,List.take_zero,↓reduceIte,reduceCtorEq,Nat.reduceEqDiff,renL,renP,renO,renH,renA,lkN,List.nil_append,renE_mP]
   ·have q1:¬ i + 1≤i:=by omega
    have q2:¬ 140737488355328 < (2 * (i + 1) + 768) * 48:=by omega
    have q3:(fL (repls g (ks.take i))).length=i * 3:=by rw [fL_len,repls_len,List.length_take,Nat.min_eq_left hi]
    have q4:=cut_all q3
    have q5:i ≠ 0:=by omega
    repeat (refine PRun.wpn rfl ?_;simp only [wp,wo_nil,wo_p,wo_r,wo_n,wo_st,onO_s,onN_s,onE_s,pv_t,ov_nil,ov_cons,ov_int,ov_str,ov_nilS,put_some,put_none,bi_lss,pevP,pevR,pevN,pevE,getP,setP,spliceP,overP,plainP,isCell,look,PW.push,List.length_cons,List.length_nil,Option.map_some,Int.natCast_nonneg,Int.toNat_natCast,and_self,Bool.and_true,↓reduceIte,ltL,lt,Nat.reduceAdd,Bool.false_eq_true,Nat.zero_add,allPlain,PW.wr,setO,killO,Bool.or_self,Bool.not_true,List.length_cons,List.length_nil,b5,b6,ltB_t hlt,hlt,hcut])
    refine PDraw.stage (Nat.le_of_ble_eq_true rfl) rfl ?_
    try dsimp only
    simp only [onX_s,onXI_s,rdX_e,ltN,ltD_s,onD_s,wx_nil,wx_cons,wx_p,wx_r,wd_cons,wd_e,pv_t,put_some,pevP,pevR,getP,setP,nthO,look,PW.cs?,nthP,cut0,cutS,baseP,ROp.base,List.length_cons,List.length_nil,List.drop_zero,Option.map_some,Option.bind_some,Bool.and_true,↓reduceIte,Nat.reduceAdd,Nat.reduceEqDiff,Option.isSome_some,Nat.zero_add,List.length_cons,List.length_nil]
    refine PDE.pureS hrec hok rfl [_,_,_,_] rfl rfl ?_
    refine PDraw.stage (Nat.le_of_ble_eq_true rfl) rfl ?_
    try dsimp only
    simp only [onXN_s,onXI_s,onD_s,wx_nil,wx_cons,wx_n,wd_cons,wd_e,pv_t,ov_nil,ov_cons,ov_int,ov_str,ov_nilS,put_some,pevN,getP,setP,nthO,fillP,spliceP,overP,PW.push,List.length_cons,List.length_nil,Option.map_some,Option.bind_some,Bool.and_true,↓reduceIte,ltL,lt,Nat.reduceAdd,Nat.zero_add,List.length_cons,List.length_nil]
    refine PDE.ev (Nat.le_of_ble_eq_true rfl) ?_
    simp only [pv_t,put_some,onDE_s,pevE,getP,setP,lenP,srcP,appendP,plainP,isCell,look,PW.cs?,PW.push,cut0,cutS,List.drop_zero,Option.map_some,Option.bind_some,Bool.and_true,↓reduceIte,Nat.reduceAdd,Nat.reduceMul,Nat.reduceEqDiff,Bool.false_eq_true,Nat.zero_add,allPlain,setO,Bool.or_self,Bool.not_true,gt_iff_lt,q1,q2,q3,q4,bne_self_eq_false]
    refine PDraw.stage (Nat.le_of_ble_eq_true rfl) rfl ?_
    try dsimp only
    simp only [onX_s,onXI_s,onD_s,wx_nil,wx_cons,wx_p,wd_cons,wd_e,pv_t,put_some,pevP,getP,setP,nthO,Nat.zero_add]
    refine PDE.ev (Nat.le_of_ble_eq_true rfl) ?_
    simp only [beq_self_eq_true,pv_t,put_none,onDE_s,pevE,getP,spliceP,overP,plainP,look,Option.map_some,Bool.and_true,↓reduceIte,Nat.reduceEqDiff,Bool.false_eq_true,allPlain,PW.wr,setO,killO,Bool.or_self,Bool.not_true]
    refine PDraw.last (Nat.le_of_ble_eq_true rfl) rfl ?_
    try dsimp only
    simp only [wx_nil]
    repeat (refine PRun.wpn rfl ?_;simp only [wp,wo_nil,wo_p,onO_s,pv_t,pv_int,put_some,bi_add,pevP,getP,setP,Option.map_some])
    rw [wrap64 (by omega) (by omega)]
    refine Gh.mr (false::true::false::false::true::true::false::false::false::false::false::false::false::false::false::false::false::false::true::true::true::false::false::false::false::false::false::false::false::false::false::false::false::false::[]) [(0,0),(1,1),(2,2),(3,3),(7,4)] 5 rfl ?_
    refine ⟨ks.length - (i + 1),by omega,i + 1,by simp only [↓reduceIte,reduceCtorEq,Nat.reduceEqDiff,Bool.false_eq_true,renL,renP,lkN,maskP];rfl,by omega,rfl,.inr ⟨by omega,?_⟩⟩
    simp only [← etake,renL_fL,↓reduceIte,reduceCtorEq,Nat.reduceEqDiff,renL,renP,renO,renH,renA,lkN,renE_mP]
  ·have hil:i=ks.length:=by omega
   subst hil
   rcases hπ with ⟨h0,rfl⟩ | ⟨hi0,rfl⟩
   ·have hk0:ks=[]:=List.length_eq_zero_iff.1 h0
    subst hk0
    repeat (refine PRun.wpn rfl ?_;simp only [wp,wo_nil,wo_p,wo_r,wo_st,onO_s,onE_s,pv_t,put_some,put_none,bi_lss,pevP,pevR,pevE,getP,setP,spliceP,overP,plainP,isCell,look,PW.cs?,cut0,cutS,List.length_cons,List.length_nil,List.drop_zero,Option.map_some,Option.bind_some,or_true,Nat.sub_zero,nc0,Int.lt_irrefl,true_and,Bool.and_true,↓reduceIte,reduceCtorEq,Nat.reduceAdd,Nat.reduceEqDiff,Bool.false_eq_true,Nat.zero_add,allPlain,PW.wr,setO,killO,Bool.or_self,Bool.not_true,ltB_iff,List.length_cons,List.length_nil,b4])
    refine .refl ⟨_,rfl,?_,[_,_],rfl,rfl⟩
    exact .agg (.cons (.refl _) (.cons (.refl _) (.cons .nil_sz .nil)))
   ·rw [List.take_length]
    repeat (refine PRun.wpn rfl ?_;simp only [wp,wo_nil,wo_p,wo_r,wo_st,onO_s,onE_s,pv_t,put_some,put_none,bi_lss,pevP,pevR,pevE,getP,setP,spliceP,overP,plainP,isCell,look,PW.cs?,cut0,cutS,List.length_cons,List.length_nil,List.drop_zero,Option.map_some,Option.bind_some,or_true,true_and,Bool.and_true,↓reduceIte,reduceCtorEq,Nat.reduceAdd,Nat.reduceEqDiff,Bool.false_eq_true,Nat.zero_add,allPlain,PW.wr,setO,killO,Bool.or_self,Bool.not_true,List.length_cons,List.length_nil,b5,ltB_f hlt])
    refine Gh.frz 4 rfl (pureL_fL (repls g ks)) rfl ?_
    simp only [List.drop_zero,↓reduceIte,reduceCtorEq,Nat.reduceEqDiff,frzL,frzP,frzO,frzH,Nat.le_refl,frzE_mP]
    refine .refl ⟨_,rfl,?_,[_,_],rfl,rfl⟩
    rw [← repls_len g ks]
    exact .agg (.cons (.refl _) (.cons (.refl _) (.cons .sl_sz .nil)))
end
end Go.Proofs.YtnpoloachkcadaaGreatDoor.Ai
namespace Go.Proofs.YtnpoloachkcadaaGreatDoor.Ai
open Go
set_option linter.unusedVariables false
set_option linter.unusedSectionVars false
set_option maxRecDepth 10000
section
variable {C:Ctx} (hm:C.P.follows .mixedOrders=true) (hC:TabOK C.P C.ng C.ts Tryz.tab)
include hm hC
theorem rename_ok (hG0:C.G 0=some kidsC) (f:Fm) (from_ to_:List ByteArray) (of:f.ok) (pf:f.opsOK) (hf:f.size < 2 ^ 28) (hform:f.formed fun _=>true) (hl:from_.length=to_.length) (hz:from_.length < 2 ^ 38) (hnd:from_.Nodup)
  (hn1:∀ s∈from_,nameOK s) (hn2:∀ s∈to_,nameOK s):PFun C 51 [fP f,.sz (sL from_) from_.length,.sz (sL to_) to_.length] (.tup [fP (f.repl (renG from_ to_)),.lit (.int .i64 0)]):=by
 have a1:=formed_ok hm hC 99 (fun _=>true) hG0 (fun o _=>any_ok hm hC o) f.size f (Nat.le_refl _) of pf (by omega)
 have r1:=replacedS_ok hm hC from_ to_ hl hz f.size f (Nat.le_refl _) (by omega)
 have hok:=placeH_ok from_
 rw [yes_t hform] at a1
 generalize f.repl (renG from_ to_)=r at *
 clear hform
 obtain ⟨o,n,ks⟩:=f
 obtain ⟨ro,rn,rk⟩:=r
 simp only [fP,fC,tkP,placeH] at a1 r1 hok ⊢
 have hlen:neB ((from_.length:Nat):Int) ((to_.length:Nat):Int)=false:=neB_f (by omega)
 refine PFun.body hm hC (show Tryz.tab.get 51=some Tryz.c51 from rfl) rfl ?_
 simp only [Tryz.c51,startP,List.length_cons,List.length_nil,Nat.reduceAdd,Nat.reduceSub,List.replicate,List.cons_append,List.nil_append]
 repeat (refine PRun.wpn rfl ?_;simp only [wp,wo_nil,wo_p,wo_r,wo_n,wo_call,onO_s,onN_s,ble0,ble_self,ble_succ,pv_t,pv_int,ov_nil,ov_cons,ov_int,ov_str,ov_nilS,put_some,pv_f,pevP,pevR,pevN,getP,setP,evsP,boxP,plainP,look,PW.cs?,PW.push,PW.none,cut0,cutS,List.drop_zero,Option.map_some,Option.bind_some,Nat.zero_le,true_and,Bool.and_true,↓reduceIte,reduceCtorEq,ltL,lt,Nat.reduceAdd,Nat.zero_add,resPs,resP,tupP])
 refine .refl (PFun.to (a1) rfl (POps.wp ?_))
 simp only [wo_nil,wo_p,onO_s,pv_t,put_some,pevP,getP,setP,Bool.not_true]
 repeat (refine PRun.wpn rfl ?_;simp only [wp,wo_nil,wo_p,wo_r,wo_n,wo_st,beq_self_eq_true,onO_s,onN_s,onE_s,ble0,pv_t,pv_int,ov_nil,ov_cons,ov_nilM,put_some,put_none,bi_neq,pevP,pevR,pevN,pevE,getP,setP,spliceP,overP,plainP,look,PW.cs?,PW.push,nthP,Option.map_some,Option.bind_some,Bool.and_true,↓reduceIte,reduceCtorEq,ltL,lt,Nat.reduceAdd,Nat.reduceEqDiff,Bool.false_eq_true,allPlain,PW.wr,setO,killO,Bool.or_self,Bool.not_true,hlen])
 refine PRun.gh (Gh.mask (false::true::false::true::false::true::true::true::true::false::false::false::false::false::false::false::false::false::false::false::false::false::true::true::true::false::false::false::false::false::false::false::false::false::false::false::false::false::false::false::false::false::false::false::false::false::false::false::false::false::false::false::false::false::false::[]) ?_)
 simp only [↓reduceIte,Bool.false_eq_true,maskP]
 refine PRun.loopG (fun m t π=>∃ i:Nat,t=(.junk::.sz (sL from_) from_.length::.junk::.ptr 0 0::.junk::.ptr 1 0::.ptr 2 0::.lit (.int .i64 0)::.ptr 4 0::.junk::.junk::.junk::.junk::.junk::.junk::.junk::.junk::.junk::.junk::.junk::.junk::.junk::.sz (sL from_) from_.length::.lit (.int .i64 (from_.length:Nat))::.lit (.int .i64 (i:Nat))::.junk::.junk::.junk::.junk::.junk::.junk::.junk::.junk::.junk::.junk::.junk::.junk::.junk::.junk::.junk::.junk::.junk::.junk::.junk::.junk::.junk::.junk::.junk::.junk::.junk::.junk::.junk::.junk::.junk::.junk::[])∧i≤from_.length∧m=from_.length - i∧π=⟨5,[(4,.cells [.map 3] 88 1 true false []),(3,.map (mP 0 (from_.take i)) i),(2,.cells [.lit (.int .u8 0),.lit (.string ⟨#[]⟩),.lit (.slice none 0 0)] 27 3 true false []),(1,.cells [.sz (sL to_) to_.length] 53 1 true false []),(0,.cells [.lit (.int .u8 (o:Nat)),.lit (.string n),.sz (fL ks) ks.length] 27 3 true false [])]⟩) ?_ from_.length _ _ ⟨0,rfl,by omega,rfl,rfl⟩
 rintro m t π ⟨i,rfl,hi,rfl,rfl⟩
 by_cases hlt:(i:Int) < (from_.length:Nat)
 ·obtain ⟨s,hs⟩:∃ s,from_[i]? = some s:=⟨from_[i]'(by omega),List.getElem?_eq_getElem (by omega)⟩
  obtain ⟨t,ht⟩:∃ t,to_[i]? = some t:=⟨to_[i]'(by omega),List.getElem?_eq_getElem (by omega)⟩
  have hc1:=sL_at hs
  have hc2:=sL_at ht
  have hs1:=hn1 s (List.mem_of_getElem? hs)
  have ht1:=hn2 t (List.mem_of_getElem? ht)
  have n1:=name_ok hm hC s (by have:=hs1.2.1;omega)
  have n2:=name_ok hm hC t (by have:=ht1.2.1;omega)
  rw [yes_t hs1] at n1
  rw [yes_t ht1] at n2
  have hnot:s∉from_.take i:=by
   intro hm'
   obtain ⟨j,hj⟩:=List.getElem?_of_mem hm'
   have hji:j < i:=by have:=(List.getElem?_eq_some_iff.1 hj).1;rw [List.length_take] at this;omega
   rw [List.getElem?_take,if_pos hji] at hj
   obtain ⟨a1,a2⟩:=List.getElem?_eq_some_iff.1 hj
   obtain ⟨b1,b2⟩:=List.getElem?_eq_some_iff.1 hs
   have:=(List.getElem_inj hnd).1 (a2.trans b2.symm)
   omega
  have f1:=(findP_mP s (from_.take i) 0 0).2 (posN_zero.2 hnot)
  have f2:=findM_mP s (from_.take i) 0 0 hnot
  have hlt2:(i:Int) < (to_.length:Nat):=by omega
  have w1:IntKind.i64.wrap ((i:Nat) + 1)=((i + 1:Nat):Int):=by rw [wrap64 (by omega) (by omega)];omega
  have etake:mP 0 (from_.take i)++[(PV.lit (.string s),PV.lit (.int .i64 ((i + 1:Nat):Int)),i)]=mP 0 (from_.take (i + 1)):=by
   rw [List.take_add_one,hs,mP_app]
   have:(from_.take i).length=i:=by rw [List.length_take];omega
   simp [mP,this]
  repeat (refine PRun.wpn rfl ?_;simp only [wp,wo_nil,wo_p,wo_r,wo_call,wo_g,beq_self_eq_true,onO_s,onG_t,wanted_g,wantB_b,pv_t,pv_int,ov_int,put_some,bi_lss,bi_gtr,pevP,pevR,getP,setP,evsP,look,PW.cs?,nthP,Option.map_some,Option.bind_some,Nat.zero_le,Nat.mul_one,Int.natCast_nonneg,Int.toNat_natCast,and_self,true_and,Bool.and_true,↓reduceIte,lt,Nat.reduceEqDiff,Bool.false_eq_true,ltB_t hlt,hlt,hc1,f1,keyP,ltB_f (show ¬ (0:Int) < 0 by omega)])
  refine .refl (PFun.to (n1) rfl (POps.wp ?_))
  simp only [wo_p,wo_r,wo_call,wo_g,beq_self_eq_true,onO_s,onG_t,wanted_g,wantB_b,pv_t,put_some,pevP,pevR,getP,setP,evsP,look,PW.cs?,nthP,Option.bind_some,Nat.zero_le,Nat.mul_one,Int.natCast_nonneg,Int.toNat_natCast,and_self,true_and,↓reduceIte,Nat.reduceEqDiff,Bool.not_true,hlt2,hc2]
  refine .refl (PFun.to (n2) rfl (POps.wp ?_))
  simp only [wo_nil,wo_p,wo_g,beq_self_eq_true,onO_s,onG_t,wanted_g,wantB_b,pv_t,put_some,pevP,getP,setP,Bool.not_true]
  repeat (refine PRun.wpn rfl ?_;simp only [wp,wo_nil,wo_p,wo_r,wo_mapUpd,onO_s,onE_s,ble0,pv_t,pv_int,put_some,put_none,bi_add,pevP,pevR,pevE,getP,setP,look,PW.cs?,nthP,Option.map_some,Option.bind_some,↓reduceIte,Nat.reduceEqDiff,Bool.false_eq_true,setO,f2,ktK,w1])
  refine Gh.mask (false::true::false::true::false::true::true::true::true::false::false::false::false::false::false::false::false::false::false::false::false::false::true::true::true::false::false::false::false::false::false::false::false::false::false::false::false::false::false::false::false::false::false::false::false::false::false::false::false::false::false::false::false::false::false::[]) ?_
  refine ⟨from_.length - (i + 1),by omega,i + 1,rfl,by omega,rfl,?_⟩
  rw [etake]
 ·have hil:i=from_.length:=by omega
  subst hil
  rw [List.take_length]
  repeat (refine PRun.wpn rfl ?_;simp only [wp,wo_nil,wo_p,wo_r,wo_call,onO_s,pv_t,put_some,bi_lss,pevP,pevR,getP,setP,evsP,look,PW.cs?,cut0,cutS,List.drop_zero,Option.map_some,Option.bind_some,Nat.zero_le,true_and,↓reduceIte,reduceCtorEq,Bool.false_eq_true,ltB_f hlt])
  refine Gh.frz 1 rfl rfl rfl ?_
  simp only [List.drop_zero,↓reduceIte,reduceCtorEq,Nat.reduceEqDiff,frzL,frzP,frzO,frzH,frzE_mP]
  refine Gh.mr (false::false::false::false::false::false::true::true::true::false::false::false::false::false::false::false::false::false::false::false::false::false::false::false::false::false::false::false::false::false::false::false::false::false::false::false::false::false::false::false::false::false::false::false::false::false::false::false::false::false::false::false::true::true::false::[]) [(3,0),(4,1),(2,2)] 3 rfl ?_
  simp only [getP,setP,↓reduceIte,reduceCtorEq,Nat.reduceEqDiff,Bool.false_eq_true,renL,renP,renO,renH,renA,lkN,maskP,renE_mP]
  refine PFunS.toH r1 hok rfl (fun {j o} hj=>?_) (POps.wp ?_)
  ·simp only [look] at hj ⊢
   split at hj
   ·rename_i e;subst e;exact hj
   ·rename_i e;rw [if_neg e]
    split at hj
    ·rename_i e2;subst e2;exact hj
    ·cases hj
  simp only [wo_nil,wo_p,wo_st,onO_s,onE_s,ble0,pv_t,pv_int,put_some,put_none,pevP,pevE,getP,setP,spliceP,overP,plainP,isCell,look,List.length_cons,List.length_nil,Option.map_some,Bool.and_true,↓reduceIte,reduceCtorEq,Nat.reduceAdd,Nat.reduceEqDiff,Bool.false_eq_true,Nat.zero_add,allPlain,PW.wr,setO,killO,Bool.or_self,Bool.not_true,List.length_cons,List.length_nil]
  repeat (refine PRun.wpn rfl ?_;simp only [wp,or_true,true_and,reduceCtorEq])
  exact .refl ⟨_,rfl,.refl _⟩
end
end Go.Proofs.YtnpoloachkcadaaGreatDoor.Ai
namespace Go.Proofs.YtnpoloachkcadaaGreatDoor.Ai
open Go
set_option linter.unusedVariables false
set_option linter.unusedSectionVars false
mutual
def Fm.allQ (Q:Fm→Prop):Fm→Prop
 | .mk o n ks=>(o=3→Q (.mk o n ks))∧allQs Q ks
def allQs (Q:Fm→Prop):List Fm→Prop
 | []=>True
 | k::ks=>k.allQ Q∧allQs Q ks
end
mutual
theorem allQ_of (itS:Nat→ByteArray) {Q:Fm→Prop}:∀ (f:Fm) (p:ByteArray),(∀ y∈f.visits itS p,y.2.op=3→Q y.2)→f.allQ Q
 | .mk o n ks,p,h=>by
  simp only [Fm.visits,List.mem_cons] at h
  exact ⟨fun e=>h (p,.mk o n ks) (.inl rfl) e,allQs_of itS ks p 0 fun y hy=>h y (.inr hy)⟩
theorem allQs_of (itS:Nat→ByteArray) {Q:Fm→Prop}:∀ (ks:List Fm) (p:ByteArray) (i:Nat),(∀ y∈visitss itS p i ks,y.2.op=3→Q y.2)→allQs Q ks
 | [],p,i,h=>trivial
 | k::ks,p,i,h=>by
  simp only [visitss,List.mem_append] at h
  exact ⟨allQ_of itS k _ fun y hy=>h y (.inl hy),allQs_of itS ks p (i + 1) fun y hy=>h y (.inr hy)⟩
end
mutual
theorem allQ_in (itS:Nat→ByteArray) {Q:Fm→Prop}:∀ (f:Fm) (p:ByteArray),f.allQ Q→∀ y∈f.visits itS p,y.2.op=3→Q y.2
 | .mk o n ks,p,h,y,hy,ho=>by
  simp only [Fm.visits,List.mem_cons] at hy
  rcases hy with rfl | hy
  ·exact h.1 ho
  ·exact allQs_in itS ks p 0 h.2 y hy ho
theorem allQs_in (itS:Nat→ByteArray) {Q:Fm→Prop}:∀ (ks:List Fm) (p:ByteArray) (i:Nat),allQs Q ks→∀ y∈visitss itS p i ks,y.2.op=3→Q y.2
 | [],p,i,h,y,hy,ho=>by simp [visitss] at hy
 | k::ks,p,i,h,y,hy,ho=>by
  simp only [visitss,List.mem_append] at hy
  rcases hy with hy | hy
  ·exact allQ_in itS k _ h.1 y hy ho
  ·exact allQs_in itS ks p (i + 1) h.2 y hy ho
end
mutual
theorem allQ_mono {Q R:Fm→Prop} {tk:Nat→Bool} (h:∀ p:Fm,p.op=3→p.formed tk→Q p→R p):∀ f:Fm,f.formed tk→f.allQ Q→f.allQ R
 | .mk o n ks,hf,hq=>⟨fun e=>h _ e hf (hq.1 e),allQs_mono h ks (by simp only [Fm.formed] at hf;exact hf.2.2.2.2.2.2) hq.2⟩
theorem allQs_mono {Q R:Fm→Prop} {tk:Nat→Bool} (h:∀ p:Fm,p.op=3→p.formed tk→Q p→R p):∀ ks:List Fm,formeds tk ks→allQs Q ks→allQs R ks
 | [],_,_=>trivial
 | k::ks,hf,hq=>⟨allQ_mono h k hf.1 hq.1,allQs_mono h ks hf.2 hq.2⟩
end
mutual
theorem repl_id {g:Fm→Fm} {tk:Nat→Bool}:∀ f:Fm,f.formed tk→f.allQ (fun p=>g p=p)→f.repl g=f
 | .mk o n ks,hf,hq=>by
  simp only [Fm.formed] at hf
  simp only [Fm.repl]
  split
  ·rename_i e;exact hq.1 e
  ·rename_i e;rw [repls_id ks hf.2.2.2.2.2.2 hq.2,← hf.2.2.2.2.2.1 e]
theorem repls_id {g:Fm→Fm} {tk:Nat→Bool}:∀ ks:List Fm,formeds tk ks→allQs (fun p=>g p=p) ks→repls g ks=ks
 | [],_,_=>rfl
 | k::ks,hf,hq=>by simp only [repls,repl_id k hf.1 hq.1,repls_id ks hf.2 hq.2]
end
theorem prop_formed {tk:Nat→Bool} {n:ByteArray} {ks:List Fm} (h:(Fm.mk 3 n ks).formed tk):ks=[]∧nameOK n:=by
 simp only [Fm.formed] at h
 have h5:=h.2.2.2.2.1
 refine ⟨List.length_eq_zero_iff.1 ?_,by simpa using h5⟩
 have h3:=h.2.2.1
 have:kt.getD 3 0=0:=rfl
 rw [this] at h3
 omega
mutual
theorem repl_fix {g:Fm→Fm} {tk:Nat→Bool}:∀ f:Fm,f.formed tk→f.repl g=f→f.allQ (fun p=>g p=p)
 | .mk o n ks,hf,h=>by
  simp only [Fm.repl] at h
  split at h
  ·rename_i e
   refine ⟨fun _=>h,?_⟩
   subst e
   rw [(prop_formed hf).1]
   trivial
  ·rename_i e
   simp only [Fm.mk.injEq] at h
   simp only [Fm.formed] at hf
   exact ⟨fun e'=>absurd e' e,repls_fix ks hf.2.2.2.2.2.2 h.2.2⟩
theorem repls_fix {g:Fm→Fm} {tk:Nat→Bool}:∀ ks:List Fm,formeds tk ks→repls g ks=ks→allQs (fun p=>g p=p) ks
 | [],_,_=>trivial
 | k::ks,hf,h=>by
  simp only [repls,List.cons.injEq] at h
  exact ⟨repl_fix k hf.1 h.1,repls_fix ks hf.2 h.2⟩
end
mutual
theorem repl_back {g h:Fm→Fm} {tk:Nat→Bool}:∀ f:Fm,f.formed tk→f.allQ (fun p=>(g p).repl h=p)→(f.repl g).repl h=f
 | .mk o n ks,hf,hq=>by
  simp only [Fm.formed] at hf
  simp only [Fm.repl]
  split
  ·rename_i e;exact hq.1 e
  ·rename_i e;simp only [Fm.repl];rw [if_neg e,repls_back ks hf.2.2.2.2.2.2 hq.2,← hf.2.2.2.2.2.1 e]
theorem repls_back {g h:Fm→Fm} {tk:Nat→Bool}:∀ ks:List Fm,formeds tk ks→allQs (fun p=>(g p).repl h=p) ks→repls h (repls g ks)=ks
 | [],_,_=>rfl
 | k::ks,hf,hq=>by simp only [repls,repl_back k hf.1 hq.1,repls_back ks hf.2 hq.2]
end
mutual
theorem repl_formed {g:Fm→Fm} {tk:Nat→Bool}:∀ f:Fm,f.formed tk→f.allQ (fun p=>(g p).formed tk)→(f.repl g).formed tk
 | .mk o n ks,hf,hq=>by
  simp only [Fm.formed] at hf
  simp only [Fm.repl]
  split
  ·rename_i e;exact hq.1 e
  ·rename_i e
   simp only [Fm.formed,repls_len]
   exact ⟨hf.1,hf.2.1,hf.2.2.1,hf.2.2.2.1,fun h=>absurd h e,fun _=>trivial,repls_formed ks hf.2.2.2.2.2.2 hq.2⟩
theorem repls_formed {g:Fm→Fm} {tk:Nat→Bool}:∀ ks:List Fm,formeds tk ks→allQs (fun p=>(g p).formed tk) ks→formeds tk (repls g ks)
 | [],_,_=>trivial
 | k::ks,hf,hq=>⟨repl_formed k hf.1 hq.1,repls_formed ks hf.2 hq.2⟩
end
mutual
theorem repl_size {g:Fm→Fm}:∀ f:Fm,f.allQ (fun p=>(g p).size=p.size)→(f.repl g).size=f.size
 | .mk o n ks,hq=>by
  simp only [Fm.repl]
  split
  ·rename_i e;exact hq.1 e
  ·simp only [Fm.size,repls_size ks hq.2]
theorem repls_size {g:Fm→Fm}:∀ ks:List Fm,allQs (fun p=>(g p).size=p.size) ks→sizes (repls g ks)=sizes ks
 | [],_=>rfl
 | k::ks,hq=>by simp only [repls,sizes,repl_size k hq.1,repls_size ks hq.2]
end
mutual
theorem gs_id {nm:ByteArray} {s:Nat}:∀ f:Fm,f.allQ (fun p=>p.name=nm→p.size=s)→f.gs nm s=f.size
 | .mk o n ks,hq=>by
  simp only [Fm.gs]
  split
  ·rename_i e;exact (hq.1 e.1 e.2).symm
  ·simp only [Fm.size,gss_id ks hq.2]
theorem gss_id {nm:ByteArray} {s:Nat}:∀ ks:List Fm,allQs (fun p=>p.name=nm→p.size=s) ks→gss nm s ks=sizes ks
 | [],_=>rfl
 | k::ks,hq=>by simp only [gss,sizes,gs_id k hq.1,gss_id ks hq.2]
end
mutual
theorem gd_id {nm:ByteArray} {s:Nat}:∀ f:Fm,f.allQ (fun p=>p.name=nm→p.depth=s)→f.gd nm s=f.depth
 | .mk o n ks,hq=>by
  simp only [Fm.gd]
  split
  ·rename_i e;exact (hq.1 e.1 e.2).symm
  ·simp only [Fm.depth,gds_id ks hq.2]
theorem gds_id {nm:ByteArray} {s:Nat}:∀ ks:List Fm,allQs (fun p=>p.name=nm→p.depth=s) ks→gds nm s ks=depths ks
 | [],_=>rfl
 | k::ks,hq=>by simp only [gds,depths,gd_id k hq.1,gds_id ks hq.2]
end
theorem formed_prop {n:ByteArray} (h:nameOK n):(Fm.mk 3 n []).formed (fun _=>true):=
 ⟨by omega,by decide,rfl,rfl,fun _=>h,fun h=>absurd rfl h,trivial⟩
theorem any_formed {tk:Nat→Bool}:∀ (k:Nat) (f:Fm),f.size≤k→f.formed tk→f.formed (fun _=>true):=by
 intro k
 induction k with
 | zero=>intro f h;have:=f.size_pos;omega
 | succ k ih=>
  intro f hf h
  obtain ⟨o,n,ks⟩:=f
  simp only [Fm.size] at hf
  simp only [Fm.formed] at h ⊢
  refine ⟨h.1,h.2.1,h.2.2.1,trivial,h.2.2.2.2.1,h.2.2.2.2.2.1,formeds_iff.2 fun i x hx=>ih x ?_ (formeds_iff.1 h.2.2.2.2.2.2 i x hx)⟩
  have:=size_kid hx
  omega
theorem mem_addN {ns:List ByteArray} {f:Fm} {s:ByteArray}:s∈addN ns f↔s∈ns∨(f.op=3∧f.name=s):=by
 unfold addN
 split
 ·rename_i h
  simp only [List.mem_append,List.mem_singleton]
  constructor
  ·rintro (h1 | rfl)
   ·exact .inl h1
   ·exact .inr ⟨h.1,rfl⟩
  ·rintro (h1 | h1)
   ·exact .inl h1
   ·exact .inr h1.2.symm
 ·rename_i h
  constructor
  ·exact .inl
  ·rintro (h1 | ⟨h1,rfl⟩)
   ·exact h1
   ·exact Classical.byContradiction fun h2=>h ⟨h1,h2⟩
theorem nodup_addN {ns:List ByteArray} {f:Fm} (h:ns.Nodup):(addN ns f).Nodup:=by
 unfold addN
 split
 ·rename_i h1
  rw [List.nodup_append]
  refine ⟨h,by simp,?_⟩
  intro a ha b hb
  simp only [List.mem_singleton] at hb
  subst hb
  intro e;subst e;exact h1.2 ha
 ·exact h
theorem mem_fold {s:ByteArray}:∀ (l:List Fm) (ns:List ByteArray),s∈l.foldl addN ns↔s∈ns∨∃ x∈l,x.op=3∧x.name=s
 | [],ns=>by simp
 | x::l,ns=>by
  rw [List.foldl_cons,mem_fold l,mem_addN]
  simp only [List.mem_cons,exists_eq_or_imp,or_assoc]
theorem nodup_fold:∀ (l:List Fm) (ns:List ByteArray),ns.Nodup→(l.foldl addN ns).Nodup
 | [],ns,h=>h
 | x::l,ns,h=>by rw [List.foldl_cons];exact nodup_fold l _ (nodup_addN h)
theorem names_nodup (itS:Nat→ByteArray) (f:Fm):(f.names itS).Nodup:=nodup_fold _ _ List.nodup_nil
theorem mem_names (itS:Nat→ByteArray) (f:Fm) (s:ByteArray):s∈f.names itS↔∃ y∈f.visits itS ⟨#[]⟩,y.2.op=3∧y.2.name=s:=by
 unfold Fm.names
 rw [mem_fold]
 simp only [List.not_mem_nil,false_or,List.mem_map]
 constructor
 ·rintro ⟨x,⟨y,h1,rfl⟩,h2⟩;exact ⟨y,h1,h2⟩
 ·rintro ⟨y,h1,h2⟩;exact ⟨y.2,⟨y,h1,rfl⟩,h2⟩
theorem names_allQ (itS:Nat→ByteArray) (f:Fm):f.allQ fun p=>p.name∈f.names itS:=
 allQ_of itS f ⟨#[]⟩ fun y hy ho=>(mem_names itS f _).2 ⟨y,hy,ho,rfl⟩
theorem names_ok3 (itS:Nat→ByteArray) (f:Fm) {tk:Nat→Bool} (hf:f.formed tk):∀ s∈f.names itS,nameOK s:=by
 intro s hs
 obtain ⟨⟨p,o,n,ks⟩,hy,ho,rfl⟩:=(mem_names itS f s).1 hs
 have h:=(sub_visits itS f.size f (Nat.le_refl _) _ _ hy).1.formed _ hf
 have ho':o=3:=ho
 subst ho'
 exact (prop_formed h).2
theorem put_self (itS:Nat→ByteArray) (f:Fm) (hf:f.formed fun _=>true) (h1:f.size≤1000) (h2:f.depth≤100) (s:ByteArray) (hs:s∈f.names itS):putE f s (.mk 3 s [])=(f,0):=by
 have hn:=names_ok3 itS f hf s hs
 have q:∀ p:Fm,p.op=3→p.formed (fun _=>true)→p.name=s→p = .mk 3 s []:=by
  rintro ⟨o,n,ks⟩ ho hp rfl
  have:o=3:=ho
  subst this
  rw [(prop_formed hp).1];rfl
 have a1:=allQ_mono (R:=fun p=>p.name=s→p.size=(Fm.mk 3 s []).size) (fun p ho hp _ e=>by rw [q p ho hp e]) f hf (names_allQ itS f)
 have a2:=allQ_mono (R:=fun p=>p.name=s→p.depth=(Fm.mk 3 s []).depth) (fun p ho hp _ e=>by rw [q p ho hp e]) f hf (names_allQ itS f)
 have a3:=allQ_mono (R:=fun p=>putG s (.mk 3 s []) p=p) (fun p ho hp _=>by
  unfold putG
  split
  ·rename_i e;exact (q p ho hp e).symm
  ·rfl) f hf (names_allQ itS f)
 unfold putE
 rw [if_pos ⟨yes_t hf,yes_t (formed_prop hn),yes_t hn⟩,gs_id f a1,gd_id f a2,repl_id f hf a3,if_neg]
 rintro (h | h)
 ·rw [ltB_iff] at h;omega
 ·rw [ltB_iff] at h;omega
theorem put_none_there (itS:Nat→ByteArray) (f b:Fm) (hf:f.formed fun _=>true) (hb:b.formed fun _=>true) (h1:f.size≤1000) (h2:f.depth≤100) (s:ByteArray) (hn:nameOK s) (hs:s∉f.names itS):putE f s b=(f,0):=by
 have a1:=allQ_mono (R:=fun p=>p.name=s→p.size=b.size) (fun p ho hp h e=>absurd (e ▸ h) hs) f hf (names_allQ itS f)
 have a2:=allQ_mono (R:=fun p=>p.name=s→p.depth=b.depth) (fun p ho hp h e=>absurd (e ▸ h) hs) f hf (names_allQ itS f)
 have a3:=allQ_mono (R:=fun p=>putG s b p=p) (fun p ho hp h=>by
  unfold putG
  rw [if_neg (fun e:p.name=s=>hs (e ▸ h))]) f hf (names_allQ itS f)
 unfold putE
 rw [if_pos ⟨yes_t hf,yes_t hb,yes_t hn⟩,gs_id f a1,gd_id f a2,repl_id f hf a3,if_neg]
 rintro (h | h)
 ·rw [ltB_iff] at h;omega
 ·rw [ltB_iff] at h;omega
theorem posN_at {ns:List ByteArray} (hn:ns.Nodup) {i:Nat} {s:ByteArray} (h:ns[i]? = some s):posN s ns=i + 1:=by
 have hm:s∈ns:=List.mem_of_getElem? h
 obtain ⟨g1,g2⟩:=posN_get hm
 have hl:=posN_le s ns
 obtain ⟨a1,a2⟩:=List.getElem?_eq_some_iff.1 h
 obtain ⟨b1,b2⟩:=List.getElem?_eq_some_iff.1 g1
 have:posN s ns - 1=i:=(List.getElem_inj hn).1 (b2.trans a2.symm)
 omega
theorem renG_at {from_ to_:List ByteArray} (hn:from_.Nodup) {i:Nat} {s t:ByteArray} (h:from_[i]? = some s) (h2:to_[i]? = some t):renG from_ to_ (.mk 3 s []) = .mk 3 t []:=by
 have e:=posN_at hn h
 simp only [renG,e]
 rw [if_neg (by omega),Nat.add_sub_cancel,List.getD_eq_getElem?_getD,h2];rfl
theorem ren_all (itS:Nat→ByteArray) (f:Fm) (hf:f.formed fun _=>true) (to_:List ByteArray) (hl:(f.names itS).length=to_.length) (hnd:to_.Nodup) (hok:∀ t∈to_,nameOK t) (hdis:∀ t∈to_,t∉f.names itS) :
  (f.repl (renG (f.names itS) to_)).formed (fun _=>true)∧(f.repl (renG (f.names itS) to_)).repl (renG to_ (f.names itS))=f∧(f.repl (renG (f.names itS) to_)).size=f.size∧(f.names itS ≠ []→f.repl (renG (f.names itS) to_) ≠ f):=by
 have hns:=names_nodup itS f
 have key:∀ p:Fm,p.op=3→p.formed (fun _=>true)→p.name∈f.names itS→∃ t,t∈to_∧p = .mk 3 p.name []∧renG (f.names itS) to_ p = .mk 3 t []∧renG to_ (f.names itS) (.mk 3 t [])=p:=by
  rintro ⟨o,n,ks⟩ ho hp hm
  have:o=3:=ho
  subst this
  obtain ⟨rfl,h2⟩:=prop_formed hp
  obtain ⟨i,hi⟩:=List.getElem?_of_mem hm
  have hil:=(List.getElem?_eq_some_iff.1 hi).1
  have ht:to_[i]? = some (to_[i]'(by omega)):=List.getElem?_eq_getElem (by omega)
  exact ⟨_,List.mem_of_getElem? ht,rfl,renG_at hns hi ht,renG_at hnd ht hi⟩
 refine ⟨repl_formed f hf (allQ_mono (fun p ho hp h=>?_) f hf (names_allQ itS f)),repl_back f hf (allQ_mono (fun p ho hp h=>?_) f hf (names_allQ itS f)),repl_size f (allQ_mono (fun p ho hp h=>?_) f hf (names_allQ itS f)),fun hne he=>?_⟩
 ·obtain ⟨t,ht,_,e,_⟩:=key p ho hp h
  rw [e];exact formed_prop (hok t ht)
 ·obtain ⟨t,ht,_,e,e2⟩:=key p ho hp h
  rw [e]
  simp only [Fm.repl,if_true]
  exact e2
 ·obtain ⟨t,ht,e1,e,e2⟩:=key p ho hp h
  rw [e,e1];rfl
 ·obtain ⟨s,hs⟩:=List.exists_mem_of_ne_nil _ hne
  obtain ⟨y,hy,ho,rfl⟩:=(mem_names itS f s).1 hs
  have h:=(sub_visits itS f.size f (Nat.le_refl _) _ _ hy).1.formed _ hf
  obtain ⟨t,ht,e1,e,e2⟩:=key y.2 ho h hs
  have:=allQ_in itS f ⟨#[]⟩ (repl_fix f hf he) y hy ho
  rw [e] at this
  refine hdis t ht ?_
  have e3:t=y.2.name:=by rw [← this];rfl
  rw [e3];exact hs
end Go.Proofs.YtnpoloachkcadaaGreatDoor.Ai
namespace Go.Proofs.YtnpoloachkcadaaGreatDoor.Ai
open Go
set_option linter.unusedVariables false
set_option linter.unusedSectionVars false
set_option maxRecDepth 10000
set_option maxHeartbeats 1000000
def toN (i:Nat):ByteArray:=⟨#[126,UInt8.ofNat (97 + i % 26),UInt8.ofNat (97 + i / 26 % 26),UInt8.ofNat (97 + i / 676 % 26)]⟩
def tosN (n:Nat):List ByteArray:=(List.range n).map toN
theorem tosN_len (n:Nat):(tosN n).length=n:=by simp [tosN]
theorem tosN_succ (n:Nat):tosN (n + 1)=tosN n++[toN n]:=by simp [tosN,List.range_succ]
def tilS:ByteArray:=⟨#[126,126]⟩
theorem tmodN (a b:Nat):((a:Nat):Int).tmod (b:Nat)=((a % b:Nat):Int):=by simp [Int.tmod]
theorem tdivN (a b:Nat):((a:Nat):Int).tdiv (b:Nat)=((a / b:Nat):Int):=by simp [Int.tdiv]
theorem byteOf_nat {a:Nat} (h:a < 256):byteOf (.int .u8 ((a:Nat):Int))=some (UInt8.ofNat a):=by
 simp only [byteOf]
 rw [if_pos (by omega)]
 rfl
def mk1:List Bool:=(false::false::true::true::true::true::false::false::false::false::false::false::false::false::false::false::false::false::false::false::false::false::false::false::false::false::false::false::false::false::false::false::false::false::false::false::false::false::false::false::false::false::false::false::false::false::false::false::false::false::false::false::false::false::false::false::false::false::false::false::false::false::false::false::false::false::false::false::false::false::false::false::false::false::false::false::false::false::false::false::false::false::false::false::false::false::false::false::false::false::false::false::false::false::false::false::false::false::false::false::false::false::false::false::false::false::false::false::false::false::false::false::false::false::false::false::false::false::false::false::false::false::false::false::false::false::false::false::false::false::false::false::false::false::false::false::false::false::false::false::false::false::false::false::false::false::false::false::false::false::false::false::false::false::false::false::false::false::false::false::false::false::false::false::false::false::false::false::false::false::false::false::false::false::false::false::false::false::false::false::false::false::false::false::false::false::false::false::false::false::false::false::false::false::false::false::false::false::false::false::false::false::false::false::false::[])
def mk2:List Bool:=(false::false::true::true::true::true::false::true::true::true::false::false::false::false::false::false::false::false::false::false::false::false::false::false::false::false::false::false::false::false::false::false::false::false::false::false::false::false::false::false::false::false::false::false::false::false::false::false::false::false::false::false::false::false::false::false::false::false::false::false::false::false::false::false::false::false::false::false::false::false::false::false::false::false::false::false::false::false::false::false::false::false::false::false::false::false::false::false::false::false::false::false::false::false::false::false::false::false::false::false::false::false::false::false::false::false::false::false::false::false::false::false::false::false::false::false::false::false::false::false::false::false::false::false::false::false::false::false::false::false::false::false::false::false::false::false::false::false::false::false::false::false::false::false::false::false::false::false::false::false::false::false::false::false::false::false::false::false::false::false::false::false::false::false::false::false::false::false::false::false::false::false::false::false::false::false::false::false::false::false::false::false::false::false::false::false::false::false::false::false::false::false::false::false::false::false::false::false::false::false::false::false::false::false::false::[])
def mk3:List Bool:=(false::false::true::true::true::true::false::true::true::false::false::false::false::false::false::false::false::false::false::false::false::false::false::false::false::false::false::false::false::false::false::false::false::false::false::false::false::false::false::false::false::false::false::false::false::false::false::false::false::false::false::false::false::false::false::false::false::false::false::false::false::false::false::false::false::false::false::false::false::false::false::false::false::false::false::false::false::false::false::false::false::false::false::false::false::false::false::false::false::false::false::false::false::false::false::false::false::false::false::false::false::false::false::false::false::false::false::false::false::false::false::false::false::false::false::false::false::false::false::false::false::false::false::false::false::false::false::false::false::false::false::false::false::false::false::false::false::false::false::false::false::false::false::false::false::false::false::false::false::false::false::false::false::false::false::false::false::false::false::false::false::false::false::false::false::false::false::false::false::false::false::false::false::false::false::false::false::false::false::false::false::false::false::false::false::false::false::false::false::false::false::false::false::false::false::false::false::false::false::false::false::false::false::false::false::[])
def mk4:List Bool:=(false::false::true::true::true::true::false::true::true::false::false::false::true::true::true::false::false::false::false::false::false::false::false::false::false::false::false::false::false::false::false::false::false::false::false::false::false::false::false::false::false::false::false::false::false::false::false::false::false::false::false::false::false::false::false::false::false::false::false::false::false::false::false::false::false::false::false::false::false::false::false::false::false::false::false::false::false::false::false::false::false::false::false::false::false::false::false::false::false::false::false::false::false::false::false::false::false::false::false::false::false::false::false::false::false::false::false::false::false::false::false::false::false::false::false::false::false::false::false::false::false::false::false::false::false::false::false::false::false::false::false::false::false::false::false::false::false::false::false::false::false::false::false::false::false::false::false::false::false::false::false::false::false::false::false::false::false::false::false::false::false::false::false::false::false::false::false::false::false::false::false::false::false::false::false::false::false::false::false::false::false::false::false::false::false::false::false::false::false::false::false::false::false::false::false::false::false::false::false::false::false::false::false::false::false::[])
def mk5:List Bool:=(false::false::true::true::true::true::false::true::true::false::false::false::true::true::true::true::true::true::false::false::false::false::false::false::false::false::false::false::false::false::false::false::false::false::false::false::false::false::false::false::false::false::false::false::false::false::false::false::false::false::false::false::false::false::false::false::false::false::false::false::false::false::false::false::false::false::false::false::false::false::false::false::false::false::false::false::false::false::false::false::false::false::false::false::false::false::false::false::false::false::false::false::false::false::false::false::false::false::false::false::false::false::false::false::false::false::false::false::false::false::false::false::false::false::false::false::false::false::false::false::false::false::false::false::false::false::false::false::false::false::false::false::false::false::false::false::false::false::false::false::false::false::false::false::false::false::false::false::false::false::false::false::false::false::false::false::false::false::false::false::false::false::false::false::false::false::false::false::false::false::false::false::false::false::false::false::false::false::false::false::false::false::false::false::false::false::false::false::false::false::false::false::false::false::false::false::false::false::false::false::false::false::false::false::false::[])
def mk6:List Bool:=(false::false::true::true::true::true::false::true::true::false::false::false::true::true::true::true::true::true::true::false::false::false::false::false::false::false::false::false::false::false::false::false::false::false::false::false::false::false::false::false::false::false::false::false::false::false::false::false::false::false::false::false::false::false::false::false::false::false::false::false::false::false::false::false::false::false::false::false::false::false::false::false::false::false::false::false::false::false::false::false::false::false::false::false::false::false::false::false::false::false::false::false::false::false::false::false::false::false::false::false::false::false::false::false::false::false::false::false::false::false::false::false::false::false::false::false::false::false::false::false::false::false::false::false::false::false::false::false::false::false::false::false::false::false::false::false::false::false::false::false::false::false::false::false::false::false::false::false::false::false::false::false::false::false::false::false::false::false::false::false::false::false::false::false::false::false::false::false::false::false::false::false::false::false::false::false::false::false::false::false::false::false::false::false::false::false::false::false::false::false::false::false::false::false::false::false::false::false::false::false::false::false::false::false::false::[])
def mk7:List Bool:=(false::false::true::true::true::true::false::true::true::false::false::false::true::true::true::true::true::false::false::false::false::false::false::false::false::false::false::false::false::false::false::false::false::false::false::false::false::false::false::false::false::false::false::false::false::false::false::false::false::false::false::false::false::false::false::false::false::false::false::false::false::false::false::false::false::false::false::false::false::false::false::false::false::false::false::false::false::false::false::false::false::false::false::false::false::false::false::false::false::false::false::false::false::false::false::false::false::false::false::false::false::false::false::false::false::false::false::false::false::false::false::false::false::false::false::false::false::false::false::false::false::false::false::false::false::false::false::false::false::false::false::false::false::false::false::false::false::false::false::false::false::false::false::false::false::false::false::false::false::false::false::false::false::false::false::false::false::false::false::false::false::false::false::false::false::false::false::false::false::false::false::false::false::false::false::false::false::false::false::false::false::false::false::false::false::false::false::false::false::false::false::false::false::false::false::false::false::false::false::false::false::false::false::false::false::[])
section
variable {C:Ctx} (hm:C.P.follows .mixedOrders=true) (hC:TabOK C.P C.ng C.ts Tryz.tab)
include hm hC
theorem prop_ok (s:ByteArray):PFun C 54 [.lit (.string s)] (fP (.mk 3 s [])):=by
 refine PFun.body hm hC (show Tryz.tab.get 54=some Tryz.c54 from rfl) rfl ?_
 simp only [Tryz.c54,startP,List.length_cons,List.length_nil,Nat.reduceAdd,Nat.reduceSub,List.replicate,List.cons_append,List.nil_append,fP,fC]
 repeat (refine PRun.wpn rfl ?_;simp only [wp,wo_nil,wo_p,wo_n,wo_st,beq_self_eq_true,onO_s,onN_s,onE_s,ble_self,ble_succ,pv_t,pv_int,ov_nil,ov_cons,ov_int,ov_str,ov_nilS,put_some,put_none,pevP,pevR,pevN,pevE,getP,setP,fillP,spliceP,overP,plainP,isCell,look,PW.cs?,PW.push,PW.none,List.length_cons,List.length_nil,Option.map_some,Option.bind_some,or_true,true_and,Bool.and_true,↓reduceIte,reduceCtorEq,ltL,lt,Nat.reduceAdd,Bool.false_eq_true,Nat.zero_add,allPlain,PW.wr,setO,killO,Bool.or_self,Bool.not_true,resPs,resP,tupP,List.length_cons,List.length_nil])
 exact .refl ⟨_,rfl,.agg (.cons (.refl _) (.cons (.refl _) (.cons .nil_sz .nil)))⟩
theorem back_run (o1:Nat) (n1:ByteArray) (k1:List Fm) (o2:Nat) (n2:ByteArray) (k2:List Fm) (ns:List ByteArray) (hw:PFun C 14 [] (.lit (.bool true)))
  (hmu:PFun C 15 [.sl (fL [.mk o1 n1 k1,.mk o2 n2 k2]) 2] (.lit (.bool false)))
  (rf rp:Int) (c1:PFun C 17 [fP (.mk o1 n1 k1)] (.lit (.int .i64 rf))) (c2:PFun C 18 [fP (.mk o1 n1 k1)] (.lit (.int .i64 rp))) (hr:rf=0∨rp=0)
  (hnm:PFun C 26 [fP (.mk o1 n1 k1)] (.sz (sL ns) ns.length)) (hlen:ns.length≤1000)
  (hput:∀ s∈ns,PFun C 47 [fP (.mk o1 n1 k1),.lit (.string s),fP (.mk 3 s [])] (.tup [fP (.mk o1 n1 k1),.lit (.int .i64 0)]))
  (oh:Nat) (nh:ByteArray) (kh:List Fm) (e:Int) (hput2:PFun C 47 [fP (.mk o1 n1 k1),.lit (.string tilS),fP (.mk o2 n2 k2)] (.tup [fP (.mk oh nh kh),.lit (.int .i64 e)]))
  (bf bp:Int) (c3:PFun C 17 [fP (.mk o2 n2 k2)] (.lit (.int .i64 bf))) (c4:PFun C 18 [fP (.mk o2 n2 k2)] (.lit (.int .i64 bp)))
  (hcm:PFun C 39 [fP (.mk o1 n1 k1),fP (.mk o1 n1 k1)] (.lit (.int .i64 0)))
  (hthere:(eqB bf 0 || eqB bp 0)=true→tilS∉ns→e=0∧PFun C 39 [fP (.mk oh nh kh),fP (.mk o1 n1 k1)] (.lit (.int .i64 0)))
  (og:Nat) (ng:ByteArray) (kg:List Fm) (hren1:(∀ s∈ns,∀ t∈tosN ns.length,t ≠ s)→PFun C 51 [fP (.mk o1 n1 k1),.sz (sL ns) ns.length,.sz (sL (tosN ns.length)) (tosN ns.length).length] (.tup [fP (.mk og ng kg),.lit (.int .i64 0)]))
  (hren2:(∀ s∈ns,∀ t∈tosN ns.length,t ≠ s)→PFun C 51 [fP (.mk og ng kg),.sz (sL (tosN ns.length)) (tosN ns.length).length,.sz (sL ns) ns.length] (.tup [fP (.mk o1 n1 k1),.lit (.int .i64 0)]))
  (c5:Int) (hcm3:(∀ s∈ns,∀ t∈tosN ns.length,t ≠ s)→PFun C 39 [fP (.mk og ng kg),fP (.mk o1 n1 k1)] (.lit (.int .i64 c5))) (hc5:(∀ s∈ns,∀ t∈tosN ns.length,t ≠ s)→ns ≠ []→c5 ≠ 0)
  (sz:Nat) (hs1:(∀ s∈ns,∀ t∈tosN ns.length,t ≠ s)→PFun C 32 [fP (.mk og ng kg)] (.lit (.int .i64 (sz:Nat)))) (hs2:PFun C 32 [fP (.mk o1 n1 k1)] (.lit (.int .i64 (sz:Nat)))):PTop C Tryz.tab 12 [fP (.mk o1 n1 k1),fP (.mk o2 n2 k2)] (.lit (.bool true)):=by
 have hpr:=prop_ok hm hC
 simp only [fP,fC,fL,List.cons_append,List.nil_append,List.length_nil] at hmu c1 c2 c3 c4 hnm hput hput2 hcm hthere hcm3 hren1 hren2 hs1 hs2 hpr
 refine PTop.body (show Tryz.tab.get 12=some Tryz.c12 from rfl) ?_
 simp only [Tryz.c12,startP,List.length_cons,List.length_nil,Nat.reduceAdd,Nat.reduceSub,List.replicate,List.cons_append,List.nil_append,fP,fC]
 repeat (refine PRun.wpn rfl ?_;simp only [wp,wo_nil,wo_p,wo_n,wo_call,onO_s,onN_s,ble_self,ble_succ,pv_t,pv_bool,put_some,pevP,pevN,getP,setP,evsP,boxP,PW.push,PW.none,Option.map_some,Nat.zero_le,true_and,Nat.reduceAdd,Nat.zero_add,resPs,resP,tupP])
 refine .refl (PFun.to (hw) rfl (POps.wp ?_))
 simp only [wo_nil,wo_p,onO_s,pv_t,put_some,pevP,getP,setP]
 repeat (refine PRun.wpn rfl ?_;simp only [wp,wo_r,wo_n,wo_call,onO_s,onN_s,ble0,pv_t,ov_nil,ov_cons,ov_int,ov_str,ov_nilS,put_some,pevR,pevN,getP,setP,evsP,fillP,spliceP,overP,look,PW.cs?,PW.push,cut0,cutS,List.length_cons,List.length_nil,List.drop_zero,Option.map_some,Option.bind_some,Nat.zero_le,true_and,Bool.and_true,↓reduceIte,reduceCtorEq,ltL,lt,Nat.reduceAdd,Nat.zero_add,List.length_cons,List.length_nil])
 refine Gh.frz 2 rfl rfl rfl ?_
 simp only [List.drop_zero,↓reduceIte,reduceCtorEq,Nat.reduceEqDiff,frzL,frzP,frzO,frzH,Nat.le_refl]
 refine .refl (PFun.to (hmu) rfl (POps.wp ?_))
 simp only [wo_nil,wo_p,onO_s,pv_t,put_some,pevP,getP,setP]
 refine PRun.seqc (fun t π=>t=(.junk::.junk::.ref [.lit (.int .u8 (o1:Nat)),.lit (.string n1),.sz (fL k1) k1.length]::.ref [.lit (.int .u8 (o2:Nat)),.lit (.string n2),.sz (fL k2) k2.length]::.lit (.bool false)::.lit (.bool true)::.junk::.junk::.junk::.junk::.junk::.junk::.junk::.junk::.junk::.junk::.junk::.junk::.junk::.junk::.junk::.junk::.junk::.junk::.junk::.junk::.junk::.junk::.junk::.junk::.junk::.junk::.junk::.junk::.junk::.junk::.junk::.junk::.junk::.junk::.junk::.junk::.junk::.junk::.junk::.junk::.junk::.junk::.junk::.junk::.junk::.junk::.junk::.junk::.junk::.junk::.junk::.junk::.junk::.junk::.junk::.junk::.junk::.junk::.junk::.junk::.junk::.junk::.junk::.junk::.junk::.junk::.junk::.junk::.junk::.junk::.junk::.junk::.junk::.junk::.junk::.junk::.junk::.junk::.junk::.junk::.junk::.junk::.junk::.junk::.junk::.junk::.junk::.junk::.junk::.junk::.junk::.junk::.junk::.junk::.junk::.junk::.junk::.junk::.junk::.junk::.junk::.junk::.junk::.junk::.junk::.junk::.junk::.junk::.junk::.junk::.junk::.junk::.junk::.junk::.junk::.junk::.junk::.junk::.junk::.junk::.junk::.junk::.junk::.junk::.junk::.junk::.junk::.junk::.junk::.junk::.junk::.junk::.junk::.junk::.junk::.junk::.junk::.junk::.junk::.junk::.junk::.junk::.junk::.junk::.junk::.junk::.junk::.junk::.junk::.junk::.junk::.junk::.junk::.junk::.junk::.junk::.junk::.junk::.junk::.junk::.junk::.junk::.junk::.junk::.junk::.junk::.junk::.junk::.junk::.junk::.junk::.junk::.junk::.junk::.junk::.junk::.junk::.junk::.junk::.junk::.junk::.junk::.junk::.junk::.junk::.junk::.junk::.junk::.junk::.junk::.junk::.junk::.junk::.junk::.junk::.junk::.junk::.junk::.junk::[])∧π=⟨0,[]⟩) ?_ ?_
 ·by_cases e1:rf=0
  ·repeat (refine PRun.wpn rfl ?_;simp only [wp,wo_p,wo_r,wo_call,wo_g,beq_self_eq_true,onO_s,onG_t,wanted_g,wantB_b,pv_t,put_some,pevP,pevR,getP,setP,evsP,look,PW.cs?,cut0,cutS,List.drop_zero,Option.map_some,Option.bind_some,Nat.zero_le,true_and,↓reduceIte,reduceCtorEq])
   refine .refl (PFun.to (c1) rfl (POps.wp ?_))
   simp only [wo_nil,wo_p,wo_g,beq_self_eq_true,onO_s,onG_t,onG_f,wanted_g,wantB_b,b_ft,pv_t,pv_int,pv_bool,put_some,bi_neq,pevP,getP,setP,Option.map_some,neB_f e1]
   repeat (refine PRun.wpn rfl ?_;simp only [wp,pv_t,getP,↓reduceIte,Bool.false_eq_true])
   refine Gh.frz 0 rfl rfl rfl ?_
   simp only [frzP_u,List.drop_zero,↓reduceIte,reduceCtorEq,frzL,frzP,frzO,frzH]
   refine Gh.frz 1 rfl rfl rfl ?_
   simp only [frzP_u,List.drop_zero,↓reduceIte,frzL,frzP,frzH]
   refine Gh.mr mk1 [] 0 rfl ?_
   exact ⟨rfl,rfl⟩
  ·have e2:rp=0:=hr.resolve_left e1
   repeat (refine PRun.wpn rfl ?_;simp only [wp,wo_p,wo_r,wo_call,wo_g,beq_self_eq_true,onO_s,onG_t,wanted_g,wantB_b,pv_t,put_some,pevP,pevR,getP,setP,evsP,look,PW.cs?,cut0,cutS,List.drop_zero,Option.map_some,Option.bind_some,Nat.zero_le,true_and,↓reduceIte,reduceCtorEq])
   refine .refl (PFun.to (c1) rfl (POps.wp ?_))
   simp only [wo_p,wo_r,wo_call,wo_g,beq_self_eq_true,onO_s,onG_t,wanted_g,wantB_b,pv_t,pv_int,put_some,bi_neq,pevP,pevR,getP,setP,evsP,look,PW.cs?,cut0,cutS,List.drop_zero,Option.map_some,Option.bind_some,Nat.zero_le,true_and,↓reduceIte,reduceCtorEq,neB_t e1]
   refine .refl (PFun.to (c2) rfl (POps.wp ?_))
   simp only [wo_nil,wo_p,wo_g,beq_self_eq_true,onO_s,onG_t,wanted_g,wantB_b,pv_t,pv_int,put_some,bi_neq,pevP,getP,setP,Option.map_some,neB_f e2]
   repeat (refine PRun.wpn rfl ?_;simp only [wp,pv_t,getP,↓reduceIte,Bool.false_eq_true])
   refine Gh.frz 0 rfl rfl rfl ?_
   simp only [List.drop_zero,↓reduceIte,reduceCtorEq,frzL,frzP,frzO,frzH]
   refine Gh.frz 1 rfl rfl rfl ?_
   simp only [List.drop_zero,↓reduceIte,frzL,frzP,frzH]
   refine Gh.mr mk1 [] 0 rfl ?_
   exact ⟨rfl,rfl⟩
 rintro t π ⟨rfl,rfl⟩
 repeat (refine PRun.wpn rfl ?_;simp only [wp,wo_r,wo_call,onO_s,pv_t,put_some,pevR,getP,setP,evsP,cut0,cutS,Option.map_some,Nat.zero_le,true_and])
 refine .refl (PFun.to (hnm) rfl (POps.wp ?_))
 simp only [wo_nil,wo_p,onO_s,pv_t,put_some,pevP,getP,setP]
 refine PRun.wpn rfl ?_
 simp only [wp,wo_nil,wo_p,onO_s,pv_nilS,put_some,pevP,setP]
 refine PRun.seqc (fun t π=>t=(.junk::.junk::.ref [.lit (.int .u8 (o1:Nat)),.lit (.string n1),.sz (fL k1) k1.length]::.ref [.lit (.int .u8 (o2:Nat)),.lit (.string n2),.sz (fL k2) k2.length]::.lit (.bool false)::.lit (.bool true)::.junk::.sz (sL ns) ns.length::.sz (sL (tosN ns.length)) (tosN ns.length).length::.junk::.junk::.junk::.junk::.junk::.junk::.junk::.junk::.junk::.junk::.junk::.junk::.junk::.junk::.junk::.junk::.junk::.junk::.junk::.junk::.junk::.junk::.junk::.junk::.junk::.junk::.junk::.junk::.junk::.junk::.junk::.junk::.junk::.junk::.junk::.junk::.junk::.junk::.junk::.junk::.junk::.junk::.junk::.junk::.junk::.junk::.junk::.junk::.junk::.junk::.junk::.junk::.junk::.junk::.junk::.junk::.junk::.junk::.junk::.junk::.junk::.junk::.junk::.junk::.junk::.junk::.junk::.junk::.junk::.junk::.junk::.junk::.junk::.junk::.junk::.junk::.junk::.junk::.junk::.junk::.junk::.junk::.junk::.junk::.junk::.junk::.junk::.junk::.junk::.junk::.junk::.junk::.junk::.junk::.junk::.junk::.junk::.junk::.junk::.junk::.junk::.junk::.junk::.junk::.junk::.junk::.junk::.junk::.junk::.junk::.junk::.junk::.junk::.junk::.junk::.junk::.junk::.junk::.junk::.junk::.junk::.junk::.junk::.junk::.junk::.junk::.junk::.junk::.junk::.junk::.junk::.junk::.junk::.junk::.junk::.junk::.junk::.junk::.junk::.junk::.junk::.junk::.junk::.junk::.junk::.junk::.junk::.junk::.junk::.junk::.junk::.junk::.junk::.junk::.junk::.junk::.junk::.junk::.junk::.junk::.junk::.junk::.junk::.junk::.junk::.junk::.junk::.junk::.junk::.junk::.junk::.junk::.junk::.junk::.junk::.junk::.junk::.junk::.junk::.junk::.junk::.junk::.junk::.junk::.junk::.junk::.junk::.junk::.junk::.junk::.junk::.junk::.junk::.junk::.junk::.junk::[])∧π=⟨0,[]⟩) ?_ ?_
 ·repeat (refine PRun.wpn rfl ?_;simp only [wp,wo_nil,wo_p,onO_s,pv_int,put_some,pevP,setP])
  refine PRun.gh (Gh.mask mk2 ?_)
  simp only [mk2,↓reduceIte,Bool.false_eq_true,maskP]
  refine PRun.loopG (fun m t π=>∃ i:Nat,i≤ns.length∧m=ns.length - i∧((i=0∧t=(.junk::.junk::.ref [.lit (.int .u8 (o1:Nat)),.lit (.string n1),.sz (fL k1) k1.length]::.ref [.lit (.int .u8 (o2:Nat)),.lit (.string n2),.sz (fL k2) k2.length]::.lit (.bool false)::.lit (.bool true)::.junk::.sz (sL ns) ns.length::.lit (.slice none 0 0)::.lit (.int .i64 (i:Nat))::.junk::.junk::.junk::.junk::.junk::.junk::.junk::.junk::.junk::.junk::.junk::.junk::.junk::.junk::.junk::.junk::.junk::.junk::.junk::.junk::.junk::.junk::.junk::.junk::.junk::.junk::.junk::.junk::.junk::.junk::.junk::.junk::.junk::.junk::.junk::.junk::.junk::.junk::.junk::.junk::.junk::.junk::.junk::.junk::.junk::.junk::.junk::.junk::.junk::.junk::.junk::.junk::.junk::.junk::.junk::.junk::.junk::.junk::.junk::.junk::.junk::.junk::.junk::.junk::.junk::.junk::.junk::.junk::.junk::.junk::.junk::.junk::.junk::.junk::.junk::.junk::.junk::.junk::.junk::.junk::.junk::.junk::.junk::.junk::.junk::.junk::.junk::.junk::.junk::.junk::.junk::.junk::.junk::.junk::.junk::.junk::.junk::.junk::.junk::.junk::.junk::.junk::.junk::.junk::.junk::.junk::.junk::.junk::.junk::.junk::.junk::.junk::.junk::.junk::.junk::.junk::.junk::.junk::.junk::.junk::.junk::.junk::.junk::.junk::.junk::.junk::.junk::.junk::.junk::.junk::.junk::.junk::.junk::.junk::.junk::.junk::.junk::.junk::.junk::.junk::.junk::.junk::.junk::.junk::.junk::.junk::.junk::.junk::.junk::.junk::.junk::.junk::.junk::.junk::.junk::.junk::.junk::.junk::.junk::.junk::.junk::.junk::.junk::.junk::.junk::.junk::.junk::.junk::.junk::.junk::.junk::.junk::.junk::.junk::.junk::.junk::.junk::.junk::.junk::.junk::.junk::.junk::.junk::.junk::.junk::.junk::.junk::.junk::.junk::.junk::.junk::.junk::.junk::.junk::.junk::[])∧π=⟨0,[]⟩)∨(0 < i∧t=(.junk::.junk::.ref [.lit (.int .u8 (o1:Nat)),.lit (.string n1),.sz (fL k1) k1.length]::.ref [.lit (.int .u8 (o2:Nat)),.lit (.string n2),.sz (fL k2) k2.length]::.lit (.bool false)::.lit (.bool true)::.junk::.sz (sL ns) ns.length::.loc 0 0 i i::.lit (.int .i64 (i:Nat))::.junk::.junk::.junk::.junk::.junk::.junk::.junk::.junk::.junk::.junk::.junk::.junk::.junk::.junk::.junk::.junk::.junk::.junk::.junk::.junk::.junk::.junk::.junk::.junk::.junk::.junk::.junk::.junk::.junk::.junk::.junk::.junk::.junk::.junk::.junk::.junk::.junk::.junk::.junk::.junk::.junk::.junk::.junk::.junk::.junk::.junk::.junk::.junk::.junk::.junk::.junk::.junk::.junk::.junk::.junk::.junk::.junk::.junk::.junk::.junk::.junk::.junk::.junk::.junk::.junk::.junk::.junk::.junk::.junk::.junk::.junk::.junk::.junk::.junk::.junk::.junk::.junk::.junk::.junk::.junk::.junk::.junk::.junk::.junk::.junk::.junk::.junk::.junk::.junk::.junk::.junk::.junk::.junk::.junk::.junk::.junk::.junk::.junk::.junk::.junk::.junk::.junk::.junk::.junk::.junk::.junk::.junk::.junk::.junk::.junk::.junk::.junk::.junk::.junk::.junk::.junk::.junk::.junk::.junk::.junk::.junk::.junk::.junk::.junk::.junk::.junk::.junk::.junk::.junk::.junk::.junk::.junk::.junk::.junk::.junk::.junk::.junk::.junk::.junk::.junk::.junk::.junk::.junk::.junk::.junk::.junk::.junk::.junk::.junk::.junk::.junk::.junk::.junk::.junk::.junk::.junk::.junk::.junk::.junk::.junk::.junk::.junk::.junk::.junk::.junk::.junk::.junk::.junk::.junk::.junk::.junk::.junk::.junk::.junk::.junk::.junk::.junk::.junk::.junk::.junk::.junk::.junk::.junk::.junk::.junk::.junk::.junk::.junk::.junk::.junk::.junk::.junk::.junk::.junk::.junk::[])∧π=⟨1,[(0,.cells (sL (tosN i)) 9 1 false false [])]⟩))) ?_ ns.length _ _ ⟨0,by omega,rfl,.inl ⟨rfl,rfl,rfl⟩⟩
  rintro m t π ⟨i,hi,rfl,hπ⟩
  by_cases hlt:(i:Int) < (ns.length:Nat)
  ·obtain ⟨s,hs⟩:∃ s,ns[i]? = some s:=⟨ns[i]'(by omega),List.getElem?_eq_getElem (by omega)⟩
   have hcut:=sL_at hs
   have hp1:=hput s (List.mem_of_getElem? hs)
   have hp2:=hpr s
   have r0:bin .rem (.int .i64 (i:Nat)) (.int .i64 26)=some (.int .i64 ((i % 26:Nat):Int)):=by rw [bi_rem (by decide),show ((i:Nat):Int).tmod 26=_ from tmodN i 26]
   have r1:bin .rem (.int .i64 ((i / 26:Nat):Int)) (.int .i64 26)=some (.int .i64 ((i / 26 % 26:Nat):Int)):=by rw [bi_rem (by decide),show ((i / 26:Nat):Int).tmod 26=_ from tmodN (i / 26) 26]
   have r2:bin .rem (.int .i64 ((i / 676:Nat):Int)) (.int .i64 26)=some (.int .i64 ((i / 676 % 26:Nat):Int)):=by rw [bi_rem (by decide),show ((i / 676:Nat):Int).tmod 26=_ from tmodN (i / 676) 26]
   have q1:bin .quo (.int .i64 (i:Nat)) (.int .i64 26)=some (.int .i64 ((i / 26:Nat):Int)):=by rw [bi_quo (by decide),show ((i:Nat):Int).tdiv 26=_ from tdivN i 26,wrap64 (by omega) (by omega)]
   have q2:bin .quo (.int .i64 (i:Nat)) (.int .i64 676)=some (.int .i64 ((i / 676:Nat):Int)):=by rw [bi_quo (by decide),show ((i:Nat):Int).tdiv 676=_ from tdivN i 676,wrap64 (by omega) (by omega)]
   have etake:=tosN_succ i
   have hx0:i % 26 < 26:=Nat.mod_lt _ (by decide)
   have hx1:i / 26 % 26 < 26:=Nat.mod_lt _ (by decide)
   have hx2:i / 676 % 26 < 26:=Nat.mod_lt _ (by decide)
   have et:toN i=⟨⟨[126,UInt8.ofNat (97 + i % 26),UInt8.ofNat (97 + i / 26 % 26),UInt8.ofNat (97 + i / 676 % 26)]⟩⟩:=rfl
   generalize i % 26=x0 at *
   generalize i / 26 % 26=x1 at *
   generalize i / 676 % 26=x2 at *
   generalize i / 26=y1 at *
   generalize i / 676=y2 at *
   rw [et] at etake
   have w0:IntKind.i64.wrap (97 + ((x0:Nat):Int))=((97 + x0:Nat):Int):=by rw [wrap64 (by omega) (by omega)];omega
   have w1:IntKind.i64.wrap (97 + ((x1:Nat):Int))=((97 + x1:Nat):Int):=by rw [wrap64 (by omega) (by omega)];omega
   have w2:IntKind.i64.wrap (97 + ((x2:Nat):Int))=((97 + x2:Nat):Int):=by rw [wrap64 (by omega) (by omega)];omega
   have v0:IntKind.u8.wrap ((97 + x0:Nat):Int)=((97 + x0:Nat):Int):=Int.emod_eq_of_lt (by omega) (by simp only [IntKind.bits];omega)
   have v1:IntKind.u8.wrap ((97 + x1:Nat):Int)=((97 + x1:Nat):Int):=Int.emod_eq_of_lt (by omega) (by simp only [IntKind.bits];omega)
   have v2:IntKind.u8.wrap ((97 + x2:Nat):Int)=((97 + x2:Nat):Int):=Int.emod_eq_of_lt (by omega) (by simp only [IntKind.bits];omega)
   have b0:byteOf (.int .u8 ((97 + x0:Nat):Int))=some (UInt8.ofNat (97 + x0)):=byteOf_nat (by omega)
   have b1:byteOf (.int .u8 ((97 + x1:Nat):Int))=some (UInt8.ofNat (97 + x1)):=byteOf_nat (by omega)
   have b2:byteOf (.int .u8 ((97 + x2:Nat):Int))=some (UInt8.ofNat (97 + x2)):=byteOf_nat (by omega)
   have b3:byteOf (.int .u8 126)=some 126:=rfl
   generalize UInt8.ofNat (97 + x0)=u0 at *
   generalize UInt8.ofNat (97 + x1)=u1 at *
   generalize UInt8.ofNat (97 + x2)=u2 at *
   generalize 97 + x0=a0 at *
   generalize 97 + x1=a1 at *
   generalize 97 + x2=a2 at *
   rcases hπ with ⟨hi0,rfl,rfl⟩ | ⟨hi0,rfl,rfl⟩
   ·have z0:sL (tosN i)=[]:=by rw [hi0];rfl
    repeat (refine PRun.wpn rfl ?_;simp only [wp,wo_nil,wo_p,wo_r,wo_n,wo_append,beq_self_eq_true,onO_s,onN_s,onE_s,ble0,ble_self,ble_succ,pv_t,pv_int,ov_nil,ov_cons,ov_int,ov_str,put_some,bi_add,bi_lss,pevP,pevR,pevN,pevE,getP,setP,lenP,srcP,appendP,fillP,spliceP,overP,plainP,isCell,look,PW.cs?,PW.push,cut0,cutS,List.drop_zero,Option.map_some,Option.bind_some,Nat.mul_one,Bool.and_true,↓reduceIte,ltL,lt,Nat.reduceAdd,Nat.reduceMul,Nat.reduceLeDiff,Nat.reduceLT,Bool.false_eq_true,Nat.zero_add,allPlain,Bool.or_false,Bool.not_true,gt_iff_lt,ltB_t hlt,r0,r1,r2,q1,q2,w0,w1,w2,v0,v1,v2,b0,b1,b2,b3,bytesP,bne_self_eq_false])
    refine PDraw.stage (Nat.zero_le _) rfl ?_
    try dsimp only
    simp only [onX_s,onXI_s,rdX_e,ltN,ltD_s,onD_s,wx_nil,wx_cons,wx_p,wx_r,wd_cons,wd_e,pv_t,put_some,pevP,pevR,getP,setP,nthO,cut0,cutS,baseP,ROp.base,List.length_cons,List.length_nil,Option.map_some,Nat.mul_one,Int.natCast_nonneg,Int.toNat_natCast,and_self,Bool.and_true,↓reduceIte,Nat.reduceAdd,Nat.zero_add,List.length_cons,List.length_nil,hlt,hcut]
    refine PDE.pure hp2 rfl ?_
    refine PDraw.stage (Nat.zero_le _) rfl ?_
    try dsimp only
    simp only [onD_s,wx_nil,wd_cons,wd_e,put_some,setP,nthO]
    refine PDE.pure hp1 rfl ?_
    refine PDraw.stage (Nat.zero_le _) rfl ?_
    try dsimp only
    simp only [onX_s,onXN_s,onXI_s,onD_s,wx_nil,wx_cons,wx_p,wx_n,wd_cons,wd_e,pv_t,ov_nil,ov_cons,ov_int,ov_str,ov_nilS,put_some,pevP,pevN,getP,setP,nthO,PW.push,nthP,Bool.and_true,↓reduceIte,ltL,lt,Nat.reduceAdd]
    refine PDE.ev (Nat.zero_le _) ?_
    simp only [pv_t,put_none,onDE_s,pevE,getP,spliceP,overP,plainP,isCell,look,List.length_cons,List.length_nil,Option.map_some,Bool.and_true,↓reduceIte,Nat.reduceAdd,Bool.false_eq_true,Nat.zero_add,allPlain,PW.wr,setO,killO,Bool.or_self,Bool.not_true,List.length_cons,List.length_nil]
    refine PDraw.last (Nat.zero_le _) rfl ?_
    try dsimp only
    simp only [onX_s,onXI_s,wx_nil,wx_cons,wx_p,pv_t,put_some,pevP,getP,setP,nthO]
    repeat (refine PRun.wpn rfl ?_;simp only [wp,wo_p,wo_r,wo_call,wo_g,beq_self_eq_true,onO_s,onG_t,wanted_g,wantB_b,pv_t,pv_int,put_some,bi_neq,pevP,pevR,getP,setP,evsP,look,PW.cs?,cut0,cutS,List.drop_zero,Option.map_some,Option.bind_some,Nat.zero_le,true_and,↓reduceIte,neB_f (show (0:Int)=0 from rfl)])
    refine .refl (PFun.to (hcm) rfl (POps.wp ?_))
    simp only [wo_nil,wo_p,wo_g,beq_self_eq_true,onO_s,onG_t,wanted_g,wantB_b,pv_t,pv_int,put_some,bi_neq,pevP,getP,setP,Option.map_some,neB_f (show (0:Int)=0 from rfl)]
    repeat (refine PRun.wpn rfl ?_;simp only [wp,wo_nil,wo_p,onO_s,pv_t,pv_int,put_some,bi_add,pevP,getP,setP,Option.map_some,↓reduceIte,Bool.false_eq_true])
    rw [wrap64 (by omega) (by omega)]
    refine Gh.mr mk2 [(2,0)] 1 rfl ?_
    refine ⟨ns.length - (i + 1),by omega,i + 1,by omega,rfl,.inr ⟨by omega,?_,?_⟩⟩
    ·rw [hi0];rfl
    ·rw [etake,sL_app,z0];rfl
   ·have q3:¬ i + 1≤i:=by omega
    have q4:¬ 140737488355328 < (2 * (i + 1) + 768) * 16:=by omega
    have q5:=cut_all (show (sL (tosN i)).length=i * 1 by rw [sL_len,tosN_len];omega)
    have q6:(sL (tosN i)).length=i:=by rw [sL_len,tosN_len]
    rw [Nat.mul_one] at q5
    repeat (refine PRun.wpn rfl ?_;simp only [wp,wo_nil,wo_p,wo_r,wo_n,wo_append,beq_self_eq_true,onO_s,onN_s,onE_s,ble0,ble_succ,pv_t,pv_int,ov_nil,ov_cons,ov_int,ov_str,put_some,bi_add,bi_lss,pevP,pevR,pevN,pevE,getP,setP,lenP,srcP,appendP,fillP,spliceP,overP,plainP,isCell,look,PW.cs?,PW.push,cut0,cutS,List.drop_zero,Option.map_some,Option.bind_some,Nat.mul_one,Bool.and_true,↓reduceIte,reduceCtorEq,ltL,lt,Nat.reduceAdd,Bool.false_eq_true,Nat.zero_add,allPlain,setO,Bool.or_self,Bool.not_true,gt_iff_lt,ltB_t hlt,r0,r1,r2,q1,q2,w0,w1,w2,v0,v1,v2,b0,b1,b2,b3,bytesP,bne_self_eq_false,q3,q4,q5,q6])
    refine PDraw.stage (Nat.zero_le _) rfl ?_
    try dsimp only
    simp only [onX_s,onXI_s,rdX_e,ltN,ltD_s,onD_s,wx_nil,wx_cons,wx_p,wx_r,wd_cons,wd_e,pv_t,put_some,pevP,pevR,getP,setP,nthO,cut0,cutS,baseP,ROp.base,List.length_cons,List.length_nil,Option.map_some,Nat.mul_one,Int.natCast_nonneg,Int.toNat_natCast,and_self,Bool.and_true,↓reduceIte,Nat.reduceAdd,Nat.zero_add,List.length_cons,List.length_nil,hlt,hcut]
    refine PDE.pure hp2 rfl ?_
    refine PDraw.stage (Nat.zero_le _) rfl ?_
    try dsimp only
    simp only [onD_s,wx_nil,wd_cons,wd_e,put_some,setP,nthO]
    refine PDE.pure hp1 rfl ?_
    refine PDraw.stage (Nat.zero_le _) rfl ?_
    try dsimp only
    simp only [onX_s,onXN_s,onXI_s,onD_s,wx_nil,wx_cons,wx_p,wx_n,wd_cons,wd_e,pv_t,ov_nil,ov_cons,ov_int,ov_str,ov_nilS,put_some,pevP,pevN,getP,setP,nthO,PW.push,nthP,Bool.and_true,↓reduceIte,ltL,lt,Nat.reduceAdd]
    refine PDE.ev (Nat.zero_le _) ?_
    simp only [pv_t,put_none,onDE_s,pevE,getP,spliceP,overP,plainP,isCell,look,List.length_cons,List.length_nil,Option.map_some,Bool.and_true,↓reduceIte,Nat.reduceAdd,Bool.false_eq_true,Nat.zero_add,allPlain,PW.wr,setO,killO,Bool.or_self,Bool.not_true,List.length_cons,List.length_nil]
    refine PDraw.last (Nat.zero_le _) rfl ?_
    try dsimp only
    simp only [onX_s,onXI_s,wx_nil,wx_cons,wx_p,pv_t,put_some,pevP,getP,setP,nthO]
    repeat (refine PRun.wpn rfl ?_;simp only [wp,wo_p,wo_r,wo_call,wo_g,beq_self_eq_true,onO_s,onG_t,wanted_g,wantB_b,pv_t,pv_int,put_some,bi_neq,pevP,pevR,getP,setP,evsP,look,PW.cs?,cut0,cutS,List.drop_zero,Option.map_some,Option.bind_some,Nat.zero_le,true_and,↓reduceIte,neB_f (show (0:Int)=0 from rfl)])
    refine .refl (PFun.to (hcm) rfl (POps.wp ?_))
    simp only [wo_nil,wo_p,wo_g,beq_self_eq_true,onO_s,onG_t,wanted_g,wantB_b,pv_t,pv_int,put_some,bi_neq,pevP,getP,setP,Option.map_some,neB_f (show (0:Int)=0 from rfl)]
    repeat (refine PRun.wpn rfl ?_;simp only [wp,wo_nil,wo_p,onO_s,pv_t,pv_int,put_some,bi_add,pevP,getP,setP,Option.map_some,↓reduceIte,Bool.false_eq_true])
    rw [wrap64 (by omega) (by omega)]
    refine Gh.mr mk2 [(3,0)] 1 rfl ?_
    refine ⟨ns.length - (i + 1),by omega,i + 1,by omega,rfl,.inr ⟨by omega,rfl,?_⟩⟩
    have e3:sL (tosN i)++[PV.lit (.string ⟨⟨[126,u0,u1,u2]⟩⟩)]=sL (tosN (i + 1)):=by rw [etake,sL_app];rfl
    simp only [↓reduceIte,reduceCtorEq,Nat.reduceEqDiff,renO,renH,renA,lkN,e3,renL_sL]
  ·have hil:i=ns.length:=by omega
   rcases hπ with ⟨hi0,rfl,rfl⟩ | ⟨hi0,rfl,rfl⟩
   ·have hn0:ns=[]:=List.length_eq_zero_iff.1 (by omega)
    repeat (refine PRun.wpn rfl ?_;simp only [wp,wo_nil,wo_p,onO_s,pv_t,put_some,bi_lss,pevP,getP,setP,Option.map_some,↓reduceIte,Bool.false_eq_true,ltB_f hlt])
    refine (Gh.mask (A:=fun e π=>Gh C 0 e π _) mk3 ?_).trans fun _ _ h=>h
    simp only [mk3,↓reduceIte,Bool.false_eq_true,maskP]
    refine Gh.wk (.cons (.refl _) (.cons (.refl _) (.cons (.refl _) (.cons (.refl _) (.cons (.refl _) (.cons (.refl _) (.cons (.refl _) (.cons (.refl _) (.cons (q:=.sz (sL (tosN ns.length)) (tosN ns.length).length) (by rw [hn0];exact .nil_sz) (.refl _)))))))))) ?_
    exact ⟨rfl,rfl⟩
   ·repeat (refine PRun.wpn rfl ?_;simp only [wp,wo_nil,wo_p,onO_s,pv_t,put_some,bi_lss,pevP,getP,setP,Option.map_some,↓reduceIte,Bool.false_eq_true,ltB_f hlt])
    refine Gh.frz 0 rfl (pureL_sL _) rfl ?_
    simp only [List.drop_zero,↓reduceIte,frzL,frzP,frzH,Nat.le_refl]
    refine (Gh.mr (A:=fun e π=>Gh C 0 e π _) mk3 [] 0 rfl ?_).trans fun _ _ h=>h
    simp only [mk3,↓reduceIte,Bool.false_eq_true,renL,renP,renH,maskP]
    refine Gh.wk (.cons (.refl _) (.cons (.refl _) (.cons (.refl _) (.cons (.refl _) (.cons (.refl _) (.cons (.refl _) (.cons (.refl _) (.cons (.refl _) (.cons (q:=.sz (sL (tosN ns.length)) (tosN ns.length).length) (by rw [tosN_len,← hil];exact .sl_sz) (.refl _)))))))))) ?_
    exact ⟨rfl,rfl⟩
 rintro t π ⟨rfl,rfl⟩
 unfold tilS at hput2
 refine PRun.wpn rfl ?_
 simp only [wp,wo_r,wo_call,onO_s,pv_t,pv_str,put_some,pevR,getP,setP,evsP,cut0,cutS,Option.map_some,Nat.zero_le,true_and]
 refine .refl (PFun.to (hput2) rfl (POps.wp ?_))
 simp only [wo_nil,wo_p,wo_n,wo_st,onO_s,onN_s,onE_s,ble_self,ble_succ,pv_t,ov_nil,ov_cons,ov_int,ov_str,ov_nilS,put_some,put_none,pevP,pevN,pevE,getP,setP,spliceP,overP,plainP,isCell,look,PW.push,nthP,List.length_cons,List.length_nil,Option.map_some,Bool.and_true,↓reduceIte,ltL,lt,Nat.reduceAdd,Bool.false_eq_true,Nat.zero_add,allPlain,PW.wr,setO,killO,Bool.or_self,Bool.not_true,List.length_cons,List.length_nil]
 refine PRun.seqc (fun t π=>t=(.junk::.junk::.ref [.lit (.int .u8 (o1:Nat)),.lit (.string n1),.sz (fL k1) k1.length]::.ref [.lit (.int .u8 (o2:Nat)),.lit (.string n2),.sz (fL k2) k2.length]::.lit (.bool false)::.lit (.bool true)::.junk::.sz (sL ns) ns.length::.sz (sL (tosN ns.length)) (tosN ns.length).length::.junk::.junk::.junk::.ref [.lit (.int .u8 (oh:Nat)),.lit (.string nh),.sz (fL kh) kh.length]::.lit (.int .i64 e)::.lit (.bool (eqB bf 0 || eqB bp 0))::.junk::.junk::.junk::.junk::.junk::.junk::.junk::.junk::.junk::.junk::.junk::.junk::.junk::.junk::.junk::.junk::.junk::.junk::.junk::.junk::.junk::.junk::.junk::.junk::.junk::.junk::.junk::.junk::.junk::.junk::.junk::.junk::.junk::.junk::.junk::.junk::.junk::.junk::.junk::.junk::.junk::.junk::.junk::.junk::.junk::.junk::.junk::.junk::.junk::.junk::.junk::.junk::.junk::.junk::.junk::.junk::.junk::.junk::.junk::.junk::.junk::.junk::.junk::.junk::.junk::.junk::.junk::.junk::.junk::.junk::.junk::.junk::.junk::.junk::.junk::.junk::.junk::.junk::.junk::.junk::.junk::.junk::.junk::.junk::.junk::.junk::.junk::.junk::.junk::.junk::.junk::.junk::.junk::.junk::.junk::.junk::.junk::.junk::.junk::.junk::.junk::.junk::.junk::.junk::.junk::.junk::.junk::.junk::.junk::.junk::.junk::.junk::.junk::.junk::.junk::.junk::.junk::.junk::.junk::.junk::.junk::.junk::.junk::.junk::.junk::.junk::.junk::.junk::.junk::.junk::.junk::.junk::.junk::.junk::.junk::.junk::.junk::.junk::.junk::.junk::.junk::.junk::.junk::.junk::.junk::.junk::.junk::.junk::.junk::.junk::.junk::.junk::.junk::.junk::.junk::.junk::.junk::.junk::.junk::.junk::.junk::.junk::.junk::.junk::.junk::.junk::.junk::.junk::.junk::.junk::.junk::.junk::.junk::.junk::.junk::.junk::.junk::.junk::.junk::.junk::.junk::.junk::.junk::.junk::.junk::.junk::.junk::.junk::.junk::.junk::[])∧π=⟨0,[]⟩) ?_ ?_
 ·by_cases e1:bf=0
  ·repeat (refine PRun.wpn rfl ?_;simp only [wp,wo_r,wo_call,onO_s,pv_t,put_some,pevR,getP,setP,evsP,cut0,cutS,Option.map_some,Nat.zero_le,true_and])
   refine .refl (PFun.to (c3) rfl (POps.wp ?_))
   simp only [wo_nil,wo_p,wo_g,onO_s,onG_f,wanted_g,wantB_b,b_tf,pv_t,pv_int,pv_bool,put_some,bi_eql,pevP,getP,setP,Option.map_some,eqB_t e1]
   repeat (refine PRun.wpn rfl ?_;simp only [wp,wo_nil,wo_p,wo_r,wo_n,wo_call,wo_st,wo_append,wo_appendZ,wo_callv,pval_fn,pval_yld,wo_mapUpd,wo_mapEnt,wo_entSt,wo_copy,wo_s2b,wo_sdata,wo_ustr,wo_g,beq_self_eq_true,onO_s,onN_s,onE_s,onG_t,onG_f,wanted_g,wantB_b,wantB_u,renP_u,frzP_u,pureP_u,b_tt,b_ff,b_tf,b_ft,onX_s,onXN_s,onXG_t,onXG_f,onXI_s,rdX_e,ltN,ble0,ble_self,ble_succ,and_tt,ltD_s,onD_s,onDG_t,onDG_f,wx_nil,wx_cons,wx_p,wx_r,wx_n,wx_g,wd_cons,wd_e,wd_g,pv_t,pv_int,pv_bool,pv_str,pv_nilS,pv_nilP,pv_nilI,pv_nilF,pv_nilM,ov_nil,ov_cons,ov_int,ov_bool,ov_str,ov_nilS,ov_nilP,ov_nilI,ov_nilF,ov_nilM,ov_agg,put_some,put_none,bi_add,bi_sub,bi_mul,bi_eql,bi_neq,bi_eqlS,bi_neqS,pv_f,onDE_s,bi_lss,bi_leq,bi_gtr,bi_geq,pevP,pevR,pevN,pevE,getP,setP,nthO,evsP,eqP,lenP,srcP,appendP,fillP,boxP,pcells,spliceP,overP,plainP,isCell,look,PW.cs?,PW.exactAt,PW.push,PW.none,nthP,cut0,cutS,partP,boundP,baseP,ROp.base,List.length_cons,List.length_nil,List.drop_zero,List.drop_succ_cons,List.take_zero,List.take_succ_cons,Option.map_some,Option.map_none,Option.bind_some,Option.bind_none,Nat.zero_le,Option.isNone_none,Option.isNone_some,true_or,or_true,Nat.mul_one,Nat.sub_zero,Int.natCast_nonneg,Int.toNat_natCast,nc0,nc1,nc2,tn0,tn1,tn2,Int.le_refl,Int.lt_irrefl,Nat.lt_irrefl,Int.sub_self,Int.sub_zero,and_self,flat_one,true_and,and_true,Bool.and_true,Bool.true_and,Bool.false_and,Bool.and_false,if_true,if_false,↓reduceIte,reduceCtorEq,ltL,lt,ltFn,Nat.reduceAdd,Nat.reduceMul,Nat.reduceLeDiff,Nat.reduceLT,Nat.reduceEqDiff,Nat.reduceSub,Option.isSome_some,Option.isSome_none,Bool.false_eq_true,Nat.add_zero,Nat.zero_add,allPlain,PW.wr,setO,killO,Bool.or_self,Bool.or_false,Bool.false_or,Bool.not_true,Bool.not_false,Bool.true_bne,Bool.false_bne,Bool.bne_false,Bool.bne_true,resPs,resP,tupP,ltB_iff,leB_iff,eqB_iff,neB_iff,decide_eq_true_eq,frzL,frzP,frzO,frzE,frzH,noAlP,pureL,pureP,renL,renP,renO,renE,renH,renA,lkN,maskP,List.nil_append,List.append_nil,List.cons_append,List.length_cons,List.length_nil,Nat.not_lt,ge_iff_le,gt_iff_lt,Nat.le_refl,eqB_t e1])
   refine Gh.frz 0 rfl rfl rfl ?_
   simp only [frzP_u,List.drop_zero,↓reduceIte,frzL,frzP,frzH]
   refine Gh.mr mk4 [] 0 rfl ?_
   exact ⟨rfl,rfl⟩
  ·repeat (refine PRun.wpn rfl ?_;simp only [wp,wo_r,wo_call,onO_s,pv_t,put_some,pevR,getP,setP,evsP,cut0,cutS,Option.map_some,Nat.zero_le,true_and])
   refine .refl (PFun.to (c3) rfl (POps.wp ?_))
   simp only [wo_p,wo_r,wo_call,wo_g,beq_self_eq_true,onO_s,onG_t,wanted_g,wantB_b,pv_t,pv_int,put_some,bi_eql,pevP,pevR,getP,setP,evsP,cut0,cutS,Option.map_some,Nat.zero_le,true_and,Bool.false_or,eqB_f e1]
   refine .refl (PFun.to (c4) rfl (POps.wp ?_))
   simp only [wo_nil,wo_p,wo_g,beq_self_eq_true,onO_s,onG_t,wanted_g,wantB_b,pv_t,pv_int,put_some,bi_eql,pevP,getP,setP,Option.map_some]
   repeat (refine PRun.wpn rfl ?_;simp only [wp,wo_nil,wo_p,wo_r,wo_n,wo_call,wo_st,wo_append,wo_appendZ,wo_callv,pval_fn,pval_yld,wo_mapUpd,wo_mapEnt,wo_entSt,wo_copy,wo_s2b,wo_sdata,wo_ustr,wo_g,beq_self_eq_true,onO_s,onN_s,onE_s,onG_t,onG_f,wanted_g,wantB_b,wantB_u,renP_u,frzP_u,pureP_u,b_tt,b_ff,b_tf,b_ft,onX_s,onXN_s,onXG_t,onXG_f,onXI_s,rdX_e,ltN,ble0,ble_self,ble_succ,and_tt,ltD_s,onD_s,onDG_t,onDG_f,wx_nil,wx_cons,wx_p,wx_r,wx_n,wx_g,wd_cons,wd_e,wd_g,pv_t,pv_int,pv_bool,pv_str,pv_nilS,pv_nilP,pv_nilI,pv_nilF,pv_nilM,ov_nil,ov_cons,ov_int,ov_bool,ov_str,ov_nilS,ov_nilP,ov_nilI,ov_nilF,ov_nilM,ov_agg,put_some,put_none,bi_add,bi_sub,bi_mul,bi_eql,bi_neq,bi_eqlS,bi_neqS,pv_f,onDE_s,bi_lss,bi_leq,bi_gtr,bi_geq,pevP,pevR,pevN,pevE,getP,setP,nthO,evsP,eqP,lenP,srcP,appendP,fillP,boxP,pcells,spliceP,overP,plainP,isCell,look,PW.cs?,PW.exactAt,PW.push,PW.none,nthP,cut0,cutS,partP,boundP,baseP,ROp.base,List.length_cons,List.length_nil,List.drop_zero,List.drop_succ_cons,List.take_zero,List.take_succ_cons,Option.map_some,Option.map_none,Option.bind_some,Option.bind_none,Nat.zero_le,Option.isNone_none,Option.isNone_some,true_or,or_true,Nat.mul_one,Nat.sub_zero,Int.natCast_nonneg,Int.toNat_natCast,nc0,nc1,nc2,tn0,tn1,tn2,Int.le_refl,Int.lt_irrefl,Nat.lt_irrefl,Int.sub_self,Int.sub_zero,and_self,flat_one,true_and,and_true,Bool.and_true,Bool.true_and,Bool.false_and,Bool.and_false,if_true,if_false,↓reduceIte,reduceCtorEq,ltL,lt,ltFn,Nat.reduceAdd,Nat.reduceMul,Nat.reduceLeDiff,Nat.reduceLT,Nat.reduceEqDiff,Nat.reduceSub,Option.isSome_some,Option.isSome_none,Bool.false_eq_true,Nat.add_zero,Nat.zero_add,allPlain,PW.wr,setO,killO,Bool.or_self,Bool.or_false,Bool.false_or,Bool.not_true,Bool.not_false,Bool.true_bne,Bool.false_bne,Bool.bne_false,Bool.bne_true,resPs,resP,tupP,ltB_iff,leB_iff,eqB_iff,neB_iff,decide_eq_true_eq,frzL,frzP,frzO,frzE,frzH,noAlP,pureL,pureP,renL,renP,renO,renE,renH,renA,lkN,maskP,List.nil_append,List.append_nil,List.cons_append,List.length_cons,List.length_nil,Nat.not_lt,ge_iff_le,gt_iff_lt,Nat.le_refl])
   refine Gh.frz 0 rfl rfl rfl ?_
   simp only [List.drop_zero,↓reduceIte,frzL,frzP,frzH]
   refine Gh.mr mk4 [] 0 rfl ?_
   exact ⟨rfl,rfl⟩
 rintro t π ⟨rfl,rfl⟩
 refine PRun.wpn rfl ?_
 simp only [wp,wo_nil,wo_p,onO_s,pv_bool,put_some,pevP,setP]
 refine PRun.wpn rfl ?_
 simp only [wp,wo_nil,wo_p,onO_s,pv_bool,put_some,pevP,setP]
 refine PRun.seqc (fun t π=>t=(.junk::.junk::.ref [.lit (.int .u8 (o1:Nat)),.lit (.string n1),.sz (fL k1) k1.length]::.ref [.lit (.int .u8 (o2:Nat)),.lit (.string n2),.sz (fL k2) k2.length]::.lit (.bool false)::.lit (.bool true)::.junk::.sz (sL ns) ns.length::.sz (sL (tosN ns.length)) (tosN ns.length).length::.junk::.junk::.junk::.ref [.lit (.int .u8 (oh:Nat)),.lit (.string nh),.sz (fL kh) kh.length]::.lit (.int .i64 e)::.lit (.bool (eqB bf 0 || eqB bp 0))::.lit (.bool (yesB (tilS∈ns)))::.lit (.bool (yesB (∀ s∈ns,∀ t∈tosN ns.length,t ≠ s)))::.junk::.junk::.junk::.junk::.junk::.junk::.junk::.junk::.junk::.junk::.junk::.junk::.junk::.junk::.junk::.junk::.junk::.junk::.junk::.junk::.junk::.junk::.junk::.junk::.junk::.junk::.junk::.junk::.junk::.junk::.junk::.junk::.junk::.junk::.junk::.junk::.junk::.junk::.junk::.junk::.junk::.junk::.junk::.junk::.junk::.junk::.junk::.junk::.junk::.junk::.junk::.junk::.junk::.junk::.junk::.junk::.junk::.junk::.junk::.junk::.junk::.junk::.junk::.junk::.junk::.junk::.junk::.junk::.junk::.junk::.junk::.junk::.junk::.junk::.junk::.junk::.junk::.junk::.junk::.junk::.junk::.junk::.junk::.junk::.junk::.junk::.junk::.junk::.junk::.junk::.junk::.junk::.junk::.junk::.junk::.junk::.junk::.junk::.junk::.junk::.junk::.junk::.junk::.junk::.junk::.junk::.junk::.junk::.junk::.junk::.junk::.junk::.junk::.junk::.junk::.junk::.junk::.junk::.junk::.junk::.junk::.junk::.junk::.junk::.junk::.junk::.junk::.junk::.junk::.junk::.junk::.junk::.junk::.junk::.junk::.junk::.junk::.junk::.junk::.junk::.junk::.junk::.junk::.junk::.junk::.junk::.junk::.junk::.junk::.junk::.junk::.junk::.junk::.junk::.junk::.junk::.junk::.junk::.junk::.junk::.junk::.junk::.junk::.junk::.junk::.junk::.junk::.junk::.junk::.junk::.junk::.junk::.junk::.junk::.junk::.junk::.junk::.junk::.junk::.junk::.junk::.junk::.junk::.junk::.junk::.junk::.junk::.junk::[])∧π=⟨0,[]⟩) ?_ ?_
 ·repeat (refine PRun.wpn rfl ?_;simp only [wp,wo_nil,wo_p,onO_s,pv_int,put_some,pevP,setP])
  refine PRun.gh (Gh.mask mk5 ?_)
  simp only [mk5,↓reduceIte,Bool.false_eq_true,maskP]
  refine PRun.loopG (fun m t π=>∃ i:Nat,i≤ns.length∧m=ns.length - i∧t=(.junk::.junk::.ref [.lit (.int .u8 (o1:Nat)),.lit (.string n1),.sz (fL k1) k1.length]::.ref [.lit (.int .u8 (o2:Nat)),.lit (.string n2),.sz (fL k2) k2.length]::.lit (.bool false)::.lit (.bool true)::.junk::.sz (sL ns) ns.length::.sz (sL (tosN ns.length)) (tosN ns.length).length::.junk::.junk::.junk::.ref [.lit (.int .u8 (oh:Nat)),.lit (.string nh),.sz (fL kh) kh.length]::.lit (.int .i64 e)::.lit (.bool (eqB bf 0 || eqB bp 0))::.lit (.bool (yesB (tilS∈ns.take i)))::.lit (.bool (yesB (∀ s∈ns.take i,∀ t∈tosN ns.length,t ≠ s)))::.lit (.int .i64 (i:Nat))::.junk::.junk::.junk::.junk::.junk::.junk::.junk::.junk::.junk::.junk::.junk::.junk::.junk::.junk::.junk::.junk::.junk::.junk::.junk::.junk::.junk::.junk::.junk::.junk::.junk::.junk::.junk::.junk::.junk::.junk::.junk::.junk::.junk::.junk::.junk::.junk::.junk::.junk::.junk::.junk::.junk::.junk::.junk::.junk::.junk::.junk::.junk::.junk::.junk::.junk::.junk::.junk::.junk::.junk::.junk::.junk::.junk::.junk::.junk::.junk::.junk::.junk::.junk::.junk::.junk::.junk::.junk::.junk::.junk::.junk::.junk::.junk::.junk::.junk::.junk::.junk::.junk::.junk::.junk::.junk::.junk::.junk::.junk::.junk::.junk::.junk::.junk::.junk::.junk::.junk::.junk::.junk::.junk::.junk::.junk::.junk::.junk::.junk::.junk::.junk::.junk::.junk::.junk::.junk::.junk::.junk::.junk::.junk::.junk::.junk::.junk::.junk::.junk::.junk::.junk::.junk::.junk::.junk::.junk::.junk::.junk::.junk::.junk::.junk::.junk::.junk::.junk::.junk::.junk::.junk::.junk::.junk::.junk::.junk::.junk::.junk::.junk::.junk::.junk::.junk::.junk::.junk::.junk::.junk::.junk::.junk::.junk::.junk::.junk::.junk::.junk::.junk::.junk::.junk::.junk::.junk::.junk::.junk::.junk::.junk::.junk::.junk::.junk::.junk::.junk::.junk::.junk::.junk::.junk::.junk::.junk::.junk::.junk::.junk::.junk::.junk::.junk::.junk::.junk::.junk::.junk::.junk::.junk::.junk::.junk::.junk::.junk::[])∧π=⟨0,[]⟩) ?_ ns.length _ _ ⟨0,by omega,rfl,?_,rfl⟩
  rotate_left
  ·rw [yes_f (p:=tilS∈ns.take 0) (by simp),yes_t (p:=∀ s∈ns.take 0,∀ t∈tosN ns.length,t ≠ s) (by simp)];rfl
  rintro m t π ⟨i,hi,rfl,rfl,rfl⟩
  by_cases hlt:(i:Int) < (ns.length:Nat)
  ·obtain ⟨si,hs⟩:∃ s,ns[i]? = some s:=⟨ns[i]'(by omega),List.getElem?_eq_getElem (by omega)⟩
   have hcut:=sL_at hs
   have htk:ns.take (i + 1)=ns.take i++[si]:=by rw [List.take_add_one,hs];rfl
   refine PRun.wpn rfl ?_
   simp only [wp,wo_nil,wo_p,onO_s,pv_t,put_some,bi_lss,pevP,getP,setP,Option.map_some,ltB_t hlt]
   refine PRun.wpn rfl ?_
   simp only [wp,pv_t,getP,↓reduceIte]
   refine PRun.seq (PRun.block ?_)
   refine PRun.seqc (fun t π=>t=(.junk::.junk::.ref [.lit (.int .u8 (o1:Nat)),.lit (.string n1),.sz (fL k1) k1.length]::.ref [.lit (.int .u8 (o2:Nat)),.lit (.string n2),.sz (fL k2) k2.length]::.lit (.bool false)::.lit (.bool true)::.junk::.sz (sL ns) ns.length::.sz (sL (tosN ns.length)) (tosN ns.length).length::.junk::.junk::.junk::.ref [.lit (.int .u8 (oh:Nat)),.lit (.string nh),.sz (fL kh) kh.length]::.lit (.int .i64 e)::.lit (.bool (eqB bf 0 || eqB bp 0))::.lit (.bool (yesB (tilS∈ns.take (i + 1))))::.lit (.bool (yesB (∀ s∈ns.take i,∀ t∈tosN ns.length,t ≠ s)))::.lit (.int .i64 (i:Nat))::.junk::.junk::.junk::.junk::.junk::.junk::.junk::.junk::.junk::.junk::.junk::.junk::.junk::.junk::.junk::.junk::.junk::.junk::.junk::.junk::.junk::.junk::.junk::.junk::.junk::.junk::.junk::.junk::.junk::.junk::.junk::.junk::.junk::.junk::.junk::.junk::.junk::.junk::.junk::.junk::.junk::.junk::.junk::.junk::.junk::.junk::.junk::.junk::.junk::.junk::.junk::.junk::.junk::.junk::.junk::.junk::.junk::.junk::.junk::.junk::.junk::.junk::.junk::.junk::.junk::.junk::.junk::.junk::.junk::.junk::.junk::.junk::.junk::.junk::.junk::.junk::.junk::.junk::.junk::.junk::.junk::.junk::.junk::.junk::.junk::.junk::.junk::.junk::.junk::.junk::.junk::.junk::.junk::.junk::.junk::.junk::.junk::.junk::.junk::.junk::.junk::.junk::.junk::.junk::.junk::.junk::.junk::.junk::.junk::.junk::.junk::.junk::.junk::.junk::.junk::.junk::.junk::.junk::.junk::.junk::.junk::.junk::.junk::.junk::.junk::.junk::.junk::.junk::.junk::.junk::.junk::.junk::.junk::.junk::.junk::.junk::.junk::.junk::.junk::.junk::.junk::.junk::.junk::.junk::.junk::.junk::.junk::.junk::.junk::.junk::.junk::.junk::.junk::.junk::.junk::.junk::.junk::.junk::.junk::.junk::.junk::.junk::.junk::.junk::.junk::.junk::.junk::.junk::.junk::.junk::.junk::.junk::.junk::.junk::.junk::.junk::.junk::.junk::.junk::.junk::.junk::.junk::.junk::.junk::.junk::.junk::.junk::[])∧π=⟨0,[]⟩) ?_ ?_
   ·by_cases hT:tilS∈ns.take i
    ·have hT2:tilS∈ns.take (i + 1):=by rw [htk];simp [hT]
     rw [yes_t hT,yes_t hT2]
     repeat (refine PRun.wpn rfl ?_;simp only [wp,wo_nil,wo_p,wo_g,onO_s,onG_f,wanted_g,wantB_b,b_tf,pv_t,pv_bool,put_some,pevP,getP,setP])
     refine Gh.mask mk5 ?_
     exact ⟨rfl,rfl⟩
    ·by_cases hE:si=tilS
     ·have hT2:tilS∈ns.take (i + 1):=by rw [htk,hE];simp
      rw [yes_f hT,yes_t hT2]
      unfold tilS at hE
      repeat (refine PRun.wpn rfl ?_;simp only [wp,wo_nil,wo_p,wo_r,wo_g,beq_self_eq_true,onO_s,onG_t,wanted_g,wantB_b,pv_t,pv_str,put_some,bi_eqlS,pevP,pevR,getP,setP,Option.map_some,Nat.mul_one,Int.natCast_nonneg,Int.toNat_natCast,and_self,↓reduceIte,hlt,hcut,eqS_t hE])
      refine Gh.mask mk5 ?_
      exact ⟨rfl,rfl⟩
     ·have hT2:tilS∉ns.take (i + 1):=by rw [htk];simp [hT,Ne.symm hE]
      rw [yes_f hT,yes_f hT2]
      unfold tilS at hE
      repeat (refine PRun.wpn rfl ?_;simp only [wp,wo_nil,wo_p,wo_r,wo_g,beq_self_eq_true,onO_s,onG_t,wanted_g,wantB_b,pv_t,pv_str,put_some,bi_eqlS,pevP,pevR,getP,setP,Option.map_some,Nat.mul_one,Int.natCast_nonneg,Int.toNat_natCast,and_self,↓reduceIte,hlt,hcut,eqS_f hE])
      refine Gh.mask mk5 ?_
      exact ⟨rfl,rfl⟩
   rintro t π ⟨rfl,rfl⟩
   repeat (refine PRun.wpn rfl ?_;simp only [wp,wo_nil,wo_p,onO_s,pv_int,put_some,pevP,setP])
   refine PRun.gh (Gh.mask mk6 ?_)
   simp only [mk6,↓reduceIte,Bool.false_eq_true,maskP]
   refine PRun.loopG (fun m t π=>∃ k:Nat,k≤ns.length∧m=ns.length - k∧t=(.junk::.junk::.ref [.lit (.int .u8 (o1:Nat)),.lit (.string n1),.sz (fL k1) k1.length]::.ref [.lit (.int .u8 (o2:Nat)),.lit (.string n2),.sz (fL k2) k2.length]::.lit (.bool false)::.lit (.bool true)::.junk::.sz (sL ns) ns.length::.sz (sL (tosN ns.length)) (tosN ns.length).length::.junk::.junk::.junk::.ref [.lit (.int .u8 (oh:Nat)),.lit (.string nh),.sz (fL kh) kh.length]::.lit (.int .i64 e)::.lit (.bool (eqB bf 0 || eqB bp 0))::.lit (.bool (yesB (tilS∈ns.take (i + 1))))::.lit (.bool (yesB ((∀ s∈ns.take i,∀ t∈tosN ns.length,t ≠ s)∧∀ t∈(tosN ns.length).take k,t ≠ si)))::.lit (.int .i64 (i:Nat))::.lit (.int .i64 (k:Nat))::.junk::.junk::.junk::.junk::.junk::.junk::.junk::.junk::.junk::.junk::.junk::.junk::.junk::.junk::.junk::.junk::.junk::.junk::.junk::.junk::.junk::.junk::.junk::.junk::.junk::.junk::.junk::.junk::.junk::.junk::.junk::.junk::.junk::.junk::.junk::.junk::.junk::.junk::.junk::.junk::.junk::.junk::.junk::.junk::.junk::.junk::.junk::.junk::.junk::.junk::.junk::.junk::.junk::.junk::.junk::.junk::.junk::.junk::.junk::.junk::.junk::.junk::.junk::.junk::.junk::.junk::.junk::.junk::.junk::.junk::.junk::.junk::.junk::.junk::.junk::.junk::.junk::.junk::.junk::.junk::.junk::.junk::.junk::.junk::.junk::.junk::.junk::.junk::.junk::.junk::.junk::.junk::.junk::.junk::.junk::.junk::.junk::.junk::.junk::.junk::.junk::.junk::.junk::.junk::.junk::.junk::.junk::.junk::.junk::.junk::.junk::.junk::.junk::.junk::.junk::.junk::.junk::.junk::.junk::.junk::.junk::.junk::.junk::.junk::.junk::.junk::.junk::.junk::.junk::.junk::.junk::.junk::.junk::.junk::.junk::.junk::.junk::.junk::.junk::.junk::.junk::.junk::.junk::.junk::.junk::.junk::.junk::.junk::.junk::.junk::.junk::.junk::.junk::.junk::.junk::.junk::.junk::.junk::.junk::.junk::.junk::.junk::.junk::.junk::.junk::.junk::.junk::.junk::.junk::.junk::.junk::.junk::.junk::.junk::.junk::.junk::.junk::.junk::.junk::.junk::.junk::.junk::.junk::.junk::.junk::.junk::[])∧π=⟨0,[]⟩) ?_ ns.length _ _ ⟨0,by omega,rfl,?_,rfl⟩
   rotate_left
   ·rw [show yesB ((∀ s∈ns.take i,∀ t∈tosN ns.length,t ≠ s)∧∀ t∈(tosN ns.length).take 0,t ≠ si)=yesB (∀ s∈ns.take i,∀ t∈tosN ns.length,t ≠ s) from congrArg yesB (propext ⟨fun h=>h.1,fun h=>⟨h,by simp⟩⟩)];rfl
   rintro m t π ⟨k,hk,rfl,rfl,rfl⟩
   have htl:=tosN_len ns.length
   by_cases hlk:(k:Int) < ((tosN ns.length).length:Nat)
   ·obtain ⟨tk,hts⟩:∃ s,(tosN ns.length)[k]? = some s:=⟨(tosN ns.length)[k]'(by omega),List.getElem?_eq_getElem (by omega)⟩
    have hcut2:=sL_at hts
    have htk2:(tosN ns.length).take (k + 1)=(tosN ns.length).take k++[tk]:=by rw [List.take_add_one,hts];rfl
    have hki:IntKind.i64.wrap (((k:Nat):Int) + 1)=((k + 1:Nat):Int):=by rw [wrap64 (by omega) (by omega)];omega
    by_cases hV:(∀ s∈ns.take i,∀ t∈tosN ns.length,t ≠ s)∧∀ t∈(tosN ns.length).take k,t ≠ si
    ·by_cases hE:tk=si
     ·have hV2:=yes_f (p:=(∀ s∈ns.take i,∀ t∈tosN ns.length,t ≠ s)∧∀ t∈(tosN ns.length).take (k + 1),t ≠ si) (fun h=>h.2 tk (by rw [htk2];simp) hE)
      rw [yes_t hV]
      repeat (refine PRun.wpn rfl ?_;simp only [wp,wo_nil,wo_p,onO_s,pv_t,put_some,bi_lss,pevP,getP,setP,Option.map_some,↓reduceIte,ltB_t hlk])
      refine PDraw.last (Nat.zero_le _) rfl ?_
      try dsimp only
      simp only [beq_self_eq_true,wanted_g,wantB_b,onX_s,onXG_t,onXI_s,rdX_e,ltN,ltD_s,wx_nil,wx_cons,wx_p,wx_r,wx_g,pv_t,put_some,bi_neqS,pevP,pevR,getP,setP,nthO,baseP,ROp.base,List.length_cons,List.length_nil,Option.map_some,Nat.mul_one,Int.natCast_nonneg,Int.toNat_natCast,and_self,Bool.and_true,↓reduceIte,Nat.reduceAdd,Nat.zero_add,List.length_cons,List.length_nil,hlk,hlt,hcut,hcut2,neS_f hE]
      repeat (refine PRun.wpn rfl ?_;simp only [wp,wo_nil,wo_p,onO_s,pv_t,pv_int,put_some,bi_add,pevP,getP,setP,Option.map_some,hki])
      refine Gh.mask mk6 ?_
      refine ⟨ns.length - (k + 1),by omega,k + 1,by omega,rfl,?_,rfl⟩
      rw [hV2];rfl
     ·have hV2:=yes_t (p:=(∀ s∈ns.take i,∀ t∈tosN ns.length,t ≠ s)∧∀ t∈(tosN ns.length).take (k + 1),t ≠ si) ⟨hV.1,fun t ht=>by
       rw [htk2,List.mem_append,List.mem_singleton] at ht
       rcases ht with ht | rfl
       ·exact hV.2 t ht
       ·exact hE⟩
      rw [yes_t hV]
      repeat (refine PRun.wpn rfl ?_;simp only [wp,wo_nil,wo_p,onO_s,pv_t,put_some,bi_lss,pevP,getP,setP,Option.map_some,↓reduceIte,ltB_t hlk])
      refine PDraw.last (Nat.zero_le _) rfl ?_
      try dsimp only
      simp only [beq_self_eq_true,wanted_g,wantB_b,onX_s,onXG_t,onXI_s,rdX_e,ltN,ltD_s,wx_nil,wx_cons,wx_p,wx_r,wx_g,pv_t,put_some,bi_neqS,pevP,pevR,getP,setP,nthO,baseP,ROp.base,List.length_cons,List.length_nil,Option.map_some,Nat.mul_one,Int.natCast_nonneg,Int.toNat_natCast,and_self,Bool.and_true,↓reduceIte,Nat.reduceAdd,Nat.zero_add,List.length_cons,List.length_nil,hlk,hlt,hcut,hcut2,neS_t hE]
      repeat (refine PRun.wpn rfl ?_;simp only [wp,wo_nil,wo_p,onO_s,pv_t,pv_int,put_some,bi_add,pevP,getP,setP,Option.map_some,hki])
      refine Gh.mask mk6 ?_
      refine ⟨ns.length - (k + 1),by omega,k + 1,by omega,rfl,?_,rfl⟩
      rw [hV2];rfl
    ·have hV2:=yes_f (p:=(∀ s∈ns.take i,∀ t∈tosN ns.length,t ≠ s)∧∀ t∈(tosN ns.length).take (k + 1),t ≠ si) (fun h=>hV ⟨h.1,fun t ht=>h.2 t (by rw [htk2];simp [ht])⟩)
     rw [yes_f hV]
     repeat (refine PRun.wpn rfl ?_;simp only [wp,wo_nil,wo_p,onO_s,pv_t,put_some,bi_lss,pevP,getP,setP,Option.map_some,↓reduceIte,ltB_t hlk])
     refine PDraw.last (Nat.zero_le _) rfl ?_
     try dsimp only
     simp only [wanted_g,wantB_b,b_ft,onX_s,onXG_f,onXI_s,wx_nil,wx_cons,wx_p,wx_g,pv_t,pv_bool,put_some,pevP,getP,setP,nthO]
     repeat (refine PRun.wpn rfl ?_;simp only [wp,wo_nil,wo_p,onO_s,pv_t,pv_int,put_some,bi_add,pevP,getP,setP,Option.map_some,hki])
     refine Gh.mask mk6 ?_
     refine ⟨ns.length - (k + 1),by omega,k + 1,by omega,rfl,?_,rfl⟩
     rw [hV2];rfl
   ·have hkl:k=ns.length:=by omega
    have hV2:yesB ((∀ s∈ns.take i,∀ t∈tosN ns.length,t ≠ s)∧∀ t∈(tosN ns.length).take k,t ≠ si)=yesB (∀ s∈ns.take (i + 1),∀ t∈tosN ns.length,t ≠ s):=by
     refine congrArg yesB (propext ⟨fun h s hs=>?_,fun h=>⟨fun s hs=>h s (by rw [htk];simp [hs]),fun t ht=>h si (by rw [htk];simp) t (List.mem_of_mem_take ht)⟩⟩)
     rw [htk,List.mem_append,List.mem_singleton] at hs
     rcases hs with hs | rfl
     ·exact h.1 s hs
     ·exact fun t ht=>h.2 t (by rw [hkl,List.take_of_length_le (by omega)];exact ht)
    have hii:IntKind.i64.wrap (((i:Nat):Int) + 1)=((i + 1:Nat):Int):=by rw [wrap64 (by omega) (by omega)];omega
    rw [hV2]
    repeat (refine PRun.wpn rfl ?_;simp only [wp,wo_nil,wo_p,onO_s,pv_t,pv_int,put_some,bi_add,bi_lss,pevP,getP,setP,Option.map_some,↓reduceIte,Bool.false_eq_true,ltB_f hlk,hii])
    refine Gh.mask mk5 ?_
    exact ⟨ns.length - (i + 1),by omega,i + 1,by omega,rfl,rfl,rfl⟩
  ·have hil:i=ns.length:=by omega
   have htk:ns.take i=ns:=by rw [hil,List.take_length]
   repeat (refine PRun.wpn rfl ?_;simp only [wp,wo_nil,wo_p,onO_s,pv_t,put_some,bi_lss,pevP,getP,setP,Option.map_some,↓reduceIte,Bool.false_eq_true,ltB_f hlt])
   refine Gh.mask mk7 ?_
   rw [htk]
   exact ⟨rfl,rfl⟩
 rintro t π ⟨rfl,rfl⟩
 refine PRun.seqc (fun t π=>t=(.junk::.junk::.ref [.lit (.int .u8 (o1:Nat)),.lit (.string n1),.sz (fL k1) k1.length]::.ref [.lit (.int .u8 (o2:Nat)),.lit (.string n2),.sz (fL k2) k2.length]::.lit (.bool false)::.lit (.bool true)::.junk::.sz (sL ns) ns.length::.sz (sL (tosN ns.length)) (tosN ns.length).length::.junk::.junk::.junk::.ref [.lit (.int .u8 (oh:Nat)),.lit (.string nh),.sz (fL kh) kh.length]::.lit (.int .i64 e)::.lit (.bool (eqB bf 0 || eqB bp 0))::.lit (.bool (yesB (tilS∈ns)))::.lit (.bool (yesB (∀ s∈ns,∀ t∈tosN ns.length,t ≠ s)))::.junk::.junk::.junk::.junk::.junk::.junk::.junk::.junk::.junk::.junk::.junk::.junk::.junk::.junk::.junk::.junk::.junk::.junk::.junk::.junk::.junk::.junk::.junk::.junk::.junk::.junk::.junk::.junk::.junk::.junk::.junk::.junk::.junk::.junk::.junk::.junk::.junk::.junk::.junk::.junk::.junk::.junk::.junk::.junk::.junk::.junk::.junk::.junk::.junk::.junk::.junk::.junk::.junk::.junk::.junk::.junk::.junk::.junk::.junk::.junk::.junk::.junk::.junk::.junk::.junk::.junk::.junk::.junk::.junk::.junk::.junk::.junk::.junk::.junk::.junk::.junk::.junk::.junk::.junk::.junk::.junk::.junk::.junk::.junk::.junk::.junk::.junk::.junk::.junk::.junk::.junk::.junk::.junk::.junk::.junk::.junk::.junk::.junk::.junk::.junk::.junk::.junk::.junk::.junk::.junk::.junk::.junk::.junk::.junk::.junk::.junk::.junk::.junk::.junk::.junk::.junk::.junk::.junk::.junk::.junk::.junk::.junk::.junk::.junk::.junk::.junk::.junk::.junk::.junk::.junk::.junk::.junk::.junk::.junk::.junk::.junk::.junk::.junk::.junk::.junk::.junk::.junk::.junk::.junk::.junk::.junk::.junk::.junk::.junk::.junk::.junk::.junk::.junk::.junk::.junk::.junk::.junk::.junk::.junk::.junk::.junk::.junk::.junk::.junk::.junk::.junk::.junk::.junk::.junk::.junk::.junk::.junk::.junk::.junk::.junk::.junk::.junk::.junk::.junk::.junk::.junk::.junk::.junk::.junk::.junk::.junk::.junk::.junk::[])∧π=⟨0,[]⟩) ?_ ?_
 ·generalize (eqB bf 0 || eqB bp 0)=b1 at *
  cases b1
  ·repeat (refine PRun.wpn rfl ?_;simp only [wp,wo_nil,wo_p,wo_g,onO_s,onG_f,wanted_g,wantB_b,wantB_u,b_ft,pv_t,pv_bool,put_some,pevP,getP,setP,↓reduceIte,Bool.false_eq_true])
   refine Gh.mask mk7 ?_
   exact ⟨rfl,rfl⟩
  ·by_cases hT:tilS∈ns
   ·rw [yes_t hT]
    repeat (refine PRun.wpn rfl ?_;simp only [wp,wo_nil,wo_p,wo_g,beq_self_eq_true,onO_s,onG_t,onG_f,wanted_g,wantB_b,wantB_u,b_ft,pv_t,pv_bool,put_some,pevP,getP,setP,↓reduceIte,Bool.false_eq_true,Bool.not_true])
    refine Gh.mask mk7 ?_
    exact ⟨rfl,rfl⟩
   ·obtain ⟨e1,hcm2⟩:=hthere rfl hT
    have e2:(0:Int)=0:=rfl
    rw [yes_f hT]
    repeat (refine PRun.wpn rfl ?_;simp only [wp,wo_p,wo_r,wo_call,wo_g,beq_self_eq_true,onO_s,onG_t,wanted_g,wantB_b,pv_t,pv_int,put_some,bi_neq,pevP,pevR,getP,setP,evsP,cut0,cutS,Option.map_some,Nat.zero_le,true_and,Bool.not_false,neB_f e1])
    refine .refl (PFun.to (hcm2) rfl (POps.wp ?_))
    simp only [wo_nil,wo_p,wo_g,beq_self_eq_true,onO_s,onG_t,wanted_g,wantB_b,pv_t,pv_int,put_some,bi_neq,pevP,getP,setP,Option.map_some,neB_f e2]
    repeat (refine PRun.wpn rfl ?_;simp only [wp,pv_t,getP,↓reduceIte,Bool.false_eq_true])
    refine Gh.mask mk7 ?_
    exact ⟨rfl,rfl⟩
 rintro t π ⟨rfl,rfl⟩
 have h3000:ltB 3000 ((ns.length:Nat):Int)=false:=ltB_f (by omega)
 by_cases hN:∀ s∈ns,∀ t∈tosN ns.length,t ≠ s
 ·have hren1:=hren1 hN
  have hren2:=hren2 hN
  have hs1:=hs1 hN
  have hcm3:=hcm3 hN
  rw [yes_t hN]
  repeat (refine PRun.wpn rfl ?_;simp only [wp,wo_nil,wo_p,wo_r,wo_call,wo_g,beq_self_eq_true,onO_s,onG_t,wanted_g,wantB_b,pv_t,pv_int,put_some,bi_gtr,pevP,pevR,getP,setP,evsP,cut0,cutS,Option.map_some,Nat.zero_le,true_and,↓reduceIte,Bool.false_eq_true,Bool.not_true,h3000])
  refine .refl (PFun.to (hren1) rfl (POps.wp ?_))
  simp only [wo_nil,wo_p,wo_n,wo_st,onO_s,onN_s,onE_s,ble_self,ble_succ,pv_t,ov_nil,ov_cons,ov_int,ov_str,ov_nilS,put_some,put_none,pevP,pevN,pevE,getP,setP,spliceP,overP,plainP,isCell,look,PW.push,nthP,List.length_cons,List.length_nil,Option.map_some,Bool.and_true,↓reduceIte,ltL,lt,Nat.reduceAdd,Bool.false_eq_true,Nat.zero_add,allPlain,PW.wr,setO,killO,Bool.or_self,Bool.not_true,List.length_cons,List.length_nil]
  repeat (refine PRun.wpn rfl ?_;simp only [wp,wo_p,wo_r,wo_call,onO_s,pv_t,put_some,pevP,pevR,getP,setP,evsP,look,PW.cs?,cut0,cutS,List.drop_zero,Option.map_some,Option.bind_some,Nat.zero_le,true_and,↓reduceIte])
  refine .refl (PFun.to hren2 rfl (POps.wp ?_))
  simp only [wo_nil,wo_p,wo_n,wo_st,onO_s,onN_s,onE_s,ble0,ble_succ,pv_t,ov_nil,ov_cons,ov_int,ov_str,ov_nilS,put_some,put_none,pevP,pevN,pevE,getP,setP,spliceP,overP,plainP,isCell,look,PW.push,nthP,List.length_cons,List.length_nil,Option.map_some,Bool.and_true,↓reduceIte,ltL,lt,Nat.reduceAdd,Bool.false_eq_true,Nat.zero_add,allPlain,PW.wr,setO,killO,Bool.or_self,Bool.not_true,List.length_cons,List.length_nil]
  by_cases hn0:((ns.length:Nat):Int)=0
  ·repeat (refine PRun.wpn rfl ?_;simp only [wp])
   refine PDraw.stage (Nat.zero_le _) rfl ?_
   try dsimp only
   simp only [beq_self_eq_true,wanted_g,wantB_b,onX_s,onXG_t,onXI_s,rdX_e,ltN,ltD_s,onD_s,onDG_t,wx_nil,wx_cons,wx_p,wx_r,wx_g,wd_cons,wd_e,wd_g,pv_t,pv_int,put_some,bi_eql,pevP,pevR,getP,setP,nthO,look,PW.cs?,cut0,cutS,baseP,ROp.base,List.length_cons,List.length_nil,List.drop_zero,Option.map_some,Option.bind_some,Bool.and_true,↓reduceIte,Nat.reduceAdd,Option.isSome_some,Nat.zero_add,List.length_cons,List.length_nil,eqB_t (show (0:Int)=0 from rfl)]
   refine PDE.pure hcm rfl ?_
   refine PDraw.stage (Nat.zero_le _) rfl ?_
   try dsimp only
   simp only [beq_self_eq_true,wanted_g,wantB_b,b_tf,onX_s,onXG_t,onXG_f,onXI_s,onD_s,onDG_f,wx_nil,wx_cons,wx_p,wx_g,wd_cons,wd_g,pv_t,pv_int,put_some,bi_eql,pevP,getP,setP,nthO,Option.map_some,eqB_t (show (0:Int)=0 from rfl),eqB_t hn0]
   refine PDraw.stage (Nat.zero_le _) rfl ?_
   try dsimp only
   simp only [beq_self_eq_true,wanted_g,wantB_b,b_tf,onX_s,onXG_t,onXG_f,onXI_s,rdX_e,ltN,ltD_s,onD_s,onDG_t,wx_nil,wx_cons,wx_p,wx_r,wx_g,wd_cons,wd_e,wd_g,pv_t,pv_bool,put_some,pevP,pevR,getP,setP,nthO,look,PW.cs?,cut0,cutS,baseP,ROp.base,List.length_cons,List.length_nil,List.drop_zero,Option.map_some,Option.bind_some,Bool.and_true,↓reduceIte,reduceCtorEq,Nat.reduceAdd,Option.isSome_some,Nat.zero_add,List.length_cons,List.length_nil]
   refine PDE.pure hs1 rfl ?_
   refine PDraw.stage (Nat.zero_le _) rfl ?_
   try dsimp only
   simp only [beq_self_eq_true,wanted_g,wantB_b,onD_s,onDG_t,wx_nil,wd_cons,wd_e,wd_g,put_some,getP,setP,nthO]
   refine PDE.pure hs2 rfl ?_
   refine PDraw.last (Nat.zero_le _) rfl ?_
   try dsimp only
   simp only [beq_self_eq_true,wanted_g,wantB_b,onX_s,onXG_t,onXI_s,wx_nil,wx_cons,wx_p,wx_g,pv_t,put_some,bi_eql,pevP,getP,setP,nthO,Option.map_some,eqB_t (show ((sz:Nat):Int)=(sz:Nat) from rfl)]
   repeat (refine PRun.wpn rfl ?_;simp only [wp,or_true,true_and,reduceCtorEq])
   exact .refl ⟨_,rfl,.refl _⟩
  ·have h5:=hc5 hN (fun h=>hn0 (by rw [h];rfl))
   repeat (refine PRun.wpn rfl ?_;simp only [wp])
   refine PDraw.stage (Nat.zero_le _) rfl ?_
   try dsimp only
   simp only [beq_self_eq_true,wanted_g,wantB_b,onX_s,onXG_t,onXI_s,rdX_e,ltN,ltD_s,onD_s,onDG_t,wx_nil,wx_cons,wx_p,wx_r,wx_g,wd_cons,wd_e,wd_g,pv_t,pv_int,put_some,bi_eql,pevP,pevR,getP,setP,nthO,look,PW.cs?,cut0,cutS,baseP,ROp.base,List.length_cons,List.length_nil,List.drop_zero,Option.map_some,Option.bind_some,Bool.and_true,↓reduceIte,Nat.reduceAdd,Option.isSome_some,Nat.zero_add,List.length_cons,List.length_nil,eqB_t (show (0:Int)=0 from rfl)]
   refine PDE.pure hcm rfl ?_
   refine PDraw.stage (Nat.zero_le _) rfl ?_
   try dsimp only
   simp only [beq_self_eq_true,wanted_g,wantB_b,onX_s,onXG_t,onXI_s,rdX_e,ltN,ltD_s,onD_s,onDG_t,wx_nil,wx_cons,wx_p,wx_r,wx_g,wd_cons,wd_e,wd_g,pv_t,pv_int,put_some,bi_eql,pevP,pevR,getP,setP,nthO,look,PW.cs?,cut0,cutS,baseP,ROp.base,List.length_cons,List.length_nil,List.drop_zero,Option.map_some,Option.bind_some,Bool.and_true,↓reduceIte,reduceCtorEq,Nat.reduceAdd,Option.isSome_some,Nat.zero_add,List.length_cons,List.length_nil,eqB_t (show (0:Int)=0 from rfl),eqB_f hn0]
   refine PDE.pure hcm3 rfl ?_
   refine PDraw.stage (Nat.zero_le _) rfl ?_
   try dsimp only
   simp only [beq_self_eq_true,wanted_g,wantB_b,onX_s,onXG_t,onXI_s,rdX_e,ltN,ltD_s,onD_s,onDG_t,wx_nil,wx_cons,wx_p,wx_r,wx_g,wd_cons,wd_e,wd_g,pv_t,pv_int,put_some,bi_neq,pevP,pevR,getP,setP,nthO,look,PW.cs?,cut0,cutS,baseP,ROp.base,List.length_cons,List.length_nil,List.drop_zero,Option.map_some,Option.bind_some,Bool.and_true,↓reduceIte,reduceCtorEq,Nat.reduceAdd,Option.isSome_some,Nat.zero_add,List.length_cons,List.length_nil,neB_t h5]
   refine PDE.pure hs1 rfl ?_
   refine PDraw.stage (Nat.zero_le _) rfl ?_
   try dsimp only
   simp only [beq_self_eq_true,wanted_g,wantB_b,onD_s,onDG_t,wx_nil,wd_cons,wd_e,wd_g,put_some,getP,setP,nthO]
   refine PDE.pure hs2 rfl ?_
   refine PDraw.last (Nat.zero_le _) rfl ?_
   try dsimp only
   simp only [beq_self_eq_true,wanted_g,wantB_b,onX_s,onXG_t,onXI_s,wx_nil,wx_cons,wx_p,wx_g,pv_t,put_some,bi_eql,pevP,getP,setP,nthO,Option.map_some,eqB_t (show ((sz:Nat):Int)=(sz:Nat) from rfl)]
   repeat (refine PRun.wpn rfl ?_;simp only [wp,or_true,true_and,reduceCtorEq])
   exact .refl ⟨_,rfl,.refl _⟩
 ·rw [yes_f hN]
  repeat (refine PRun.wpn rfl ?_;simp only [wp,wo_nil,wo_p,wo_g,onO_s,onG_f,wanted_g,wantB_b,b_tf,pv_t,pv_bool,put_some,pevP,getP,setP,or_true,true_and,↓reduceIte,reduceCtorEq,Bool.not_false])
  exact .refl ⟨_,rfl,.refl _⟩
end
end Go.Proofs.YtnpoloachkcadaaGreatDoor.Ai
namespace Go.Proofs.YtnpoloachkcadaaGreatDoor.Ai
open Go
set_option linter.unusedVariables false
set_option linter.unusedSectionVars false
set_option maxRecDepth 10000
theorem much2 {f g:Fm} (hm:muchN 0 [f,g]≤1048576):f.size≤1048576∧g.size≤1048576:=by
 simp only [muchN] at hm
 rw [if_pos (by omega)] at hm
 split at hm
 ·have h1:=size_wt f 0 (by omega)
  have h2:=size_wt g 0 (by omega)
  omega
 ·omega
theorem u8_inj {a b:Nat} (ha:a < 256) (hb:b < 256) (h:UInt8.ofNat a=UInt8.ofNat b):a=b:=by
 have:=congrArg UInt8.toNat h
 rw [UInt8.toNat_ofNat',UInt8.toNat_ofNat'] at this
 omega
theorem toN_inj {i j:Nat} (hi:i < 17576) (hj:j < 17576) (h:toN i=toN j):i=j:=by
 simp only [toN,ByteArray.mk.injEq,Array.mk.injEq,List.cons.injEq,and_true,true_and] at h
 obtain ⟨h1,h2,h3⟩:=h
 have:=u8_inj (by omega) (by omega) h1
 have:=u8_inj (by omega) (by omega) h2
 have:=u8_inj (by omega) (by omega) h3
 omega
theorem tosN_nodup {n:Nat} (h:n≤17576):(tosN n).Nodup:=by
 unfold tosN List.Nodup
 rw [List.pairwise_map]
 exact List.Pairwise.imp_of_mem (fun {a b} ha hb hne he=>hne (toN_inj (by have:=List.mem_range.1 ha;omega) (by have:=List.mem_range.1 hb;omega) he)) List.nodup_range
theorem char_at {a:Nat} (h:a < 26):charOK (UInt8.ofNat (97 + a)):=by
 unfold charOK
 rw [UInt8.toNat_ofNat']
 omega
theorem toN_ok (i:Nat):nameOK (toN i):=by
 have s:(toN i).size=4:=rfl
 refine ⟨by omega,by omega,fun j hj=>?_⟩
 rw [s] at hj
 have h0:i % 26 < 26:=Nat.mod_lt _ (by decide)
 have h1:i / 26 % 26 < 26:=Nat.mod_lt _ (by decide)
 have h2:i / 676 % 26 < 26:=Nat.mod_lt _ (by decide)
 rcases j with _ | _ | _ | _ | j
 ·show charOK 126
  unfold charOK;decide
 ·exact char_at h0
 ·exact char_at h1
 ·exact char_at h2
 ·omega
theorem tilS_ok:nameOK tilS:=by
 have s:tilS.size=2:=rfl
 refine ⟨by omega,by omega,fun j hj=>?_⟩
 rw [s] at hj
 rcases j with _ | _ | j
 ·show charOK 126
  unfold charOK;decide
 ·show charOK 126
  unfold charOK;decide
 ·omega
theorem tosN_ok (n:Nat):∀ t∈tosN n,nameOK t:=by
 intro t ht
 obtain ⟨i,_,rfl⟩:=List.mem_map.1 ht
 exact toN_ok i
mutual
theorem repl_ok {g:Fm→Fm}:∀ f:Fm,f.ok→f.allQ (fun p=>(g p).ok)→(f.repl g).ok
 | .mk o n ks,hf,hq=>by
  simp only [Fm.ok] at hf
  simp only [Fm.repl]
  split
  ·rename_i e;exact hq.1 e
  ·simp only [Fm.ok,repls_len]
   exact ⟨by decide,hf.2.1,repls_ok ks hf.2.2 hq.2⟩
theorem repls_ok {g:Fm→Fm}:∀ ks:List Fm,oks ks→allQs (fun p=>(g p).ok) ks→oks (repls g ks)
 | [],_,_=>trivial
 | k::ks,hf,hq=>⟨repl_ok k hf.1 hq.1,repls_ok ks hf.2 hq.2⟩
end
mutual
theorem repl_ops {g:Fm→Fm}:∀ f:Fm,f.opsOK→f.allQ (fun p=>(g p).opsOK)→(f.repl g).opsOK
 | .mk o n ks,hf,hq=>by
  simp only [Fm.opsOK] at hf
  simp only [Fm.repl]
  split
  ·rename_i e;exact hq.1 e
  ·simp only [Fm.opsOK]
   exact ⟨hf.1,repls_ops ks hf.2 hq.2⟩
theorem repls_ops {g:Fm→Fm}:∀ ks:List Fm,opsOKs ks→allQs (fun p=>(g p).opsOK) ks→opsOKs (repls g ks)
 | [],_,_=>trivial
 | k::ks,hf,hq=>⟨repl_ops k hf.1 hq.1,repls_ops ks hf.2 hq.2⟩
end
theorem ren_kept (itS:Nat→ByteArray) (f:Fm) (hf:f.formed fun _=>true) (of:f.ok) (pf:f.opsOK) (to_:List ByteArray) (hl:(f.names itS).length=to_.length) (hok:∀ t∈to_,nameOK t) :
  (f.repl (renG (f.names itS) to_)).ok∧(f.repl (renG (f.names itS) to_)).opsOK:=by
 have key:∀ p:Fm,p.op=3→p.formed (fun _=>true)→p.name∈f.names itS→∃ t,t∈to_∧renG (f.names itS) to_ p = .mk 3 t []:=by
  rintro ⟨o,n,ks⟩ ho hp hm
  have:o=3:=ho
  subst this
  obtain ⟨rfl,h2⟩:=prop_formed hp
  obtain ⟨i,hi⟩:=List.getElem?_of_mem hm
  have hil:=(List.getElem?_eq_some_iff.1 hi).1
  have ht:to_[i]? = some (to_[i]'(by omega)):=List.getElem?_eq_getElem (by omega)
  exact ⟨_,List.mem_of_getElem? ht,renG_at (names_nodup itS f) hi ht⟩
 refine ⟨repl_ok f of (allQ_mono (fun p ho hp h=>?_) f hf (names_allQ itS f)),repl_ops f pf (allQ_mono (fun p ho hp h=>?_) f hf (names_allQ itS f))⟩
 ·obtain ⟨t,ht,e⟩:=key p ho hp h
  rw [e]
  have:=(hok t ht).2.1
  exact ⟨by omega,by simp,trivial⟩
 ·obtain ⟨t,ht,e⟩:=key p ho hp h
  rw [e]
  exact ⟨by omega,trivial⟩
section
variable {C:Ctx} (hm:C.P.follows .mixedOrders=true) (hC:TabOK C.P C.ng C.ts Tryz.tab) {itS:Nat→ByteArray} (hI:∀ i:Nat,i < 2 ^ 40→PFun C 91 [.lit (.int .i64 (i:Nat))] (.lit (.string (itS i)))) (hIs:∀ i:Nat,i < 2 ^ 40→(itS i).size≤20)
include hm hC hI hIs
theorem back_top (hG0:C.G 0=some kidsC) (hw:PFun C 14 [] (.lit (.bool true))) (f b:Fm) (of:f.ok) (ob:b.ok) (pf:f.opsOK) (pb:b.opsOK):PTop C Tryz.tab 12 [fP f,fP b] (.lit (.bool true)):=by
 have hmu:=much_ok hm hC [f,b] ⟨of,ob,trivial⟩ (by simp)
 by_cases hmm:1048576 < muchN 0 [f,b]
 ·rw [yes_t hmm] at hmu
  clear hmm
  obtain ⟨o1,n1,k1⟩:=f
  obtain ⟨o2,n2,k2⟩:=b
  simp only [fC,fL,List.cons_append,List.nil_append,List.length_cons,List.length_nil,Nat.reduceAdd] at hmu
  refine PTop.body (show Tryz.tab.get 12=some Tryz.c12 from rfl) ?_
  simp only [Tryz.c12,startP,List.length_cons,List.length_nil,Nat.reduceAdd,Nat.reduceSub,List.replicate,List.cons_append,List.nil_append,fP,fC]
  repeat (refine PRun.wpn rfl ?_;simp only [wp,wo_nil,wo_p,wo_n,wo_call,onO_s,onN_s,ble_self,ble_succ,pv_t,pv_bool,put_some,pevP,pevN,getP,setP,evsP,boxP,PW.push,PW.none,Option.map_some,Nat.zero_le,true_and,Nat.reduceAdd,Nat.zero_add,resPs,resP,tupP])
  refine .refl (PFun.to (hw) rfl (POps.wp ?_))
  simp only [wo_nil,wo_p,onO_s,pv_t,put_some,pevP,getP,setP]
  repeat (refine PRun.wpn rfl ?_;simp only [wp,wo_r,wo_n,wo_call,onO_s,onN_s,ble0,pv_t,ov_nil,ov_cons,ov_int,ov_str,ov_nilS,put_some,pevR,pevN,getP,setP,evsP,fillP,spliceP,overP,look,PW.cs?,PW.push,cut0,cutS,List.length_cons,List.length_nil,List.drop_zero,Option.map_some,Option.bind_some,Nat.zero_le,true_and,Bool.and_true,↓reduceIte,reduceCtorEq,ltL,lt,Nat.reduceAdd,Nat.zero_add,List.length_cons,List.length_nil])
  refine Gh.frz 2 rfl rfl rfl ?_
  simp only [List.drop_zero,↓reduceIte,reduceCtorEq,Nat.reduceEqDiff,frzL,frzP,frzO,frzH,Nat.le_refl]
  refine .refl (PFun.to (hmu) rfl (POps.wp ?_))
  simp only [wo_nil,wo_p,onO_s,pv_t,put_some,pevP,getP,setP]
  repeat (refine PRun.wpn rfl ?_;simp only [wp,wo_nil,wo_p,wo_g,onO_s,onG_f,wanted_g,wantB_b,wantB_u,b_tf,pv_t,pv_bool,put_some,pevP,getP,setP,or_true,true_and,↓reduceIte,reduceCtorEq])
  exact .refl ⟨_,rfl,.refl _⟩
 obtain ⟨s1,s2⟩:=much2 (Nat.le_of_not_lt hmm)
 rw [yes_f hmm] at hmu
 have c1:=right_ok hm hC hG0 f of pf (by omega)
 have c2:=rightPast_ok hm hC hG0 f of pf (by omega)
 by_cases hr:rightE futB f=0∨rightE pastB f=0
 ·have hfz:(f.formed fun _=>true)∧¬ (1000 < f.size∨100 < f.depth):=by
   rcases hr with h | h
   ·exact ⟨any_formed f.size f (Nat.le_refl _) (rightE_zero.1 h).1,(rightE_zero.1 h).2⟩
   ·exact ⟨any_formed f.size f (Nat.le_refl _) (rightE_zero.1 h).1,(rightE_zero.1 h).2⟩
  obtain ⟨hform,hfz⟩:=hfz
  have hz1:f.size≤1000:=by omega
  have hz2:f.depth≤100:=by omega
  have hnm:=names_ok hm hC hI hIs f (by omega)
  have hlen:(f.names itS).length≤1000:=by
   have:=nmsAt_len itS f f.size
   rw [nmsAt_all] at this
   omega
  have hput:∀ s∈f.names itS,PFun C 47 [fP f,.lit (.string s),fP (.mk 3 s [])] (.tup [fP f,.lit (.int .i64 0)]):=by
   intro s hs
   have hn:=names_ok3 itS f hform s hs
   have hn2:=hn.2.1
   have:=treePut_ok hm hC hG0 f (.mk 3 s []) s of ⟨by omega,by simp,trivial⟩ pf ⟨by omega,trivial⟩ (by omega) (by simp [Fm.size,sizes]) (by omega)
   rwa [put_self itS f hform hz1 hz2 s hs] at this
  have hput2:=treePut_ok hm hC hG0 f b tilS of ob pf pb (by omega) (by omega) (by have:=tilS_ok.2.1;omega)
  have c3:=right_ok hm hC hG0 b ob pb (by omega)
  have c4:=rightPast_ok hm hC hG0 b ob pb (by omega)
  have hcm:=cmp_ok hm hC f.size f f (Nat.le_refl _) (by omega) (by omega)
  rw [cmp_refl] at hcm
  have hthere:(eqB (rightE futB b) 0 || eqB (rightE pastB b) 0)=true→tilS∉f.names itS→(putE f tilS b).2=0∧PFun C 39 [fP (putE f tilS b).1,fP f] (.lit (.int .i64 0)):=by
   intro h1 h2
   have hb:b.formed fun _=>true:=by
    simp only [Bool.or_eq_true,eqB_iff] at h1
    rcases h1 with h | h
    ·exact any_formed b.size b (Nat.le_refl _) (rightE_zero.1 h).1
    ·exact any_formed b.size b (Nat.le_refl _) (rightE_zero.1 h).1
   rw [put_none_there itS f b hform hb hz1 hz2 tilS tilS_ok h2]
   exact ⟨rfl,hcm⟩
  have htl:(f.names itS).length=(tosN (f.names itS).length).length:=(tosN_len _).symm
  have hnd:=names_nodup itS f
  have htn:=tosN_nodup (n:=(f.names itS).length) (by omega)
  have hto:=tosN_ok (f.names itS).length
  have hno:=names_ok3 itS f hform
  obtain ⟨og,pg⟩:=ren_kept itS f hform of pf _ htl hto
  have hall:=fun hN:∀ s∈f.names itS,∀ t∈tosN (f.names itS).length,t ≠ s=>ren_all itS f hform (tosN (f.names itS).length) htl htn hto (fun t ht h=>hN t h t ht rfl)
  have hren1:(∀ s∈f.names itS,∀ t∈tosN (f.names itS).length,t ≠ s)→_:=fun hN=>rename_ok hm hC hG0 f (f.names itS) (tosN (f.names itS).length) of pf (by omega) hform htl (by omega) hnd hno hto
  have hren2:(∀ s∈f.names itS,∀ t∈tosN (f.names itS).length,t ≠ s)→PFun C 51 [fP (f.repl (renG (f.names itS) (tosN (f.names itS).length))),.sz (sL (tosN (f.names itS).length)) (tosN (f.names itS).length).length,.sz (sL (f.names itS)) (f.names itS).length] (.tup [fP f,.lit (.int .i64 0)]):=fun hN=>by
   obtain ⟨g1,g2,g3,g4⟩:=hall hN
   have:=rename_ok hm hC hG0 (f.repl (renG (f.names itS) (tosN (f.names itS).length))) (tosN (f.names itS).length) (f.names itS) og pg (by omega) g1 htl.symm (by omega) htn hto hno
   rwa [g2] at this
  have hcm3:(∀ s∈f.names itS,∀ t∈tosN (f.names itS).length,t ≠ s)→PFun C 39 [fP (f.repl (renG (f.names itS) (tosN (f.names itS).length))),fP f] (.lit (.int .i64 ((f.repl (renG (f.names itS) (tosN (f.names itS).length))).cmp f))):=fun hN=>by
   obtain ⟨g1,g2,g3,g4⟩:=hall hN
   exact cmp_ok hm hC _ (f.repl (renG (f.names itS) (tosN (f.names itS).length))) f (Nat.le_refl _) (by omega) (by omega)
  have hc5:(∀ s∈f.names itS,∀ t∈tosN (f.names itS).length,t ≠ s)→f.names itS ≠ []→(f.repl (renG (f.names itS) (tosN (f.names itS).length))).cmp f ≠ 0:=fun hN hne h=>(hall hN).2.2.2 hne (cmp_eq _ _ h)
  have hs1:(∀ s∈f.names itS,∀ t∈tosN (f.names itS).length,t ≠ s)→PFun C 32 [fP (f.repl (renG (f.names itS) (tosN (f.names itS).length)))] (.lit (.int .i64 (f.size:Nat))):=fun hN=>by
   obtain ⟨g1,g2,g3,g4⟩:=hall hN
   have:=size_ok hm hC _ (f.repl (renG (f.names itS) (tosN (f.names itS).length))) (Nat.le_refl _) (by omega)
   rwa [g3] at this
  have hs2:=size_ok hm hC f.size f (Nat.le_refl _) (by omega)
  clear hmm hfz hall
  generalize f.repl (renG (f.names itS) (tosN (f.names itS).length))=g at *
  generalize f.names itS=ns at *
  generalize (putE f tilS b).2=pe at *
  generalize (putE f tilS b).1=h at *
  generalize g.cmp f=c5 at *
  generalize f.size=sz at *
  generalize rightE futB f=rf at *
  generalize rightE pastB f=rp at *
  generalize rightE futB b=bf at *
  generalize rightE pastB b=bp at *
  obtain ⟨o1,n1,k1⟩:=f
  obtain ⟨o2,n2,k2⟩:=b
  obtain ⟨oh,nh,kh⟩:=h
  obtain ⟨oz,ng,kg⟩:=g
  exact back_run hm hC o1 n1 k1 o2 n2 k2 ns hw hmu rf rp c1 c2 hr hnm hlen hput oh nh kh pe hput2 bf bp c3 c4 hcm hthere oz ng kg hren1 hren2 c5 hcm3 hc5 sz hs1 hs2
 ·rw [not_or] at hr
  obtain ⟨h1,h2⟩:=hr
  generalize rightE futB f=rf at *
  generalize rightE pastB f=rp at *
  clear hmm s1 s2
  obtain ⟨o1,n1,k1⟩:=f
  obtain ⟨o2,n2,k2⟩:=b
  simp only [fP,fC,fL,List.cons_append,List.nil_append,List.length_cons,List.length_nil,Nat.reduceAdd] at hmu c1 c2
  refine PTop.body (show Tryz.tab.get 12=some Tryz.c12 from rfl) ?_
  simp only [Tryz.c12,startP,List.length_cons,List.length_nil,Nat.reduceAdd,Nat.reduceSub,List.replicate,List.cons_append,List.nil_append,fP,fC]
  repeat (refine PRun.wpn rfl ?_;simp only [wp,wo_nil,wo_p,wo_n,wo_call,onO_s,onN_s,ble_self,ble_succ,pv_t,pv_bool,put_some,pevP,pevN,getP,setP,evsP,boxP,PW.push,PW.none,Option.map_some,Nat.zero_le,true_and,Nat.reduceAdd,Nat.zero_add,resPs,resP,tupP])
  refine .refl (PFun.to (hw) rfl (POps.wp ?_))
  simp only [wo_nil,wo_p,onO_s,pv_t,put_some,pevP,getP,setP]
  repeat (refine PRun.wpn rfl ?_;simp only [wp,wo_r,wo_n,wo_call,onO_s,onN_s,ble0,pv_t,ov_nil,ov_cons,ov_int,ov_str,ov_nilS,put_some,pevR,pevN,getP,setP,evsP,fillP,spliceP,overP,look,PW.cs?,PW.push,cut0,cutS,List.length_cons,List.length_nil,List.drop_zero,Option.map_some,Option.bind_some,Nat.zero_le,true_and,Bool.and_true,↓reduceIte,reduceCtorEq,ltL,lt,Nat.reduceAdd,Nat.zero_add,List.length_cons,List.length_nil])
  refine Gh.frz 2 rfl rfl rfl ?_
  simp only [List.drop_zero,↓reduceIte,reduceCtorEq,Nat.reduceEqDiff,frzL,frzP,frzO,frzH,Nat.le_refl]
  refine .refl (PFun.to (hmu) rfl (POps.wp ?_))
  simp only [wo_nil,wo_p,onO_s,pv_t,put_some,pevP,getP,setP]
  repeat (refine PRun.wpn rfl ?_;simp only [wp,wo_p,wo_r,wo_call,wo_g,beq_self_eq_true,onO_s,onG_t,wanted_g,wantB_b,pv_t,put_some,pevP,pevR,getP,setP,evsP,look,PW.cs?,cut0,cutS,List.drop_zero,Option.map_some,Option.bind_some,Nat.zero_le,true_and,↓reduceIte,reduceCtorEq])
  refine .refl (PFun.to (c1) rfl (POps.wp ?_))
  simp only [wo_p,wo_r,wo_call,wo_g,beq_self_eq_true,onO_s,onG_t,wanted_g,wantB_b,pv_t,pv_int,put_some,bi_neq,pevP,pevR,getP,setP,evsP,look,PW.cs?,cut0,cutS,List.drop_zero,Option.map_some,Option.bind_some,Nat.zero_le,true_and,↓reduceIte,reduceCtorEq,neB_t h1]
  refine .refl (PFun.to (c2) rfl (POps.wp ?_))
  simp only [wo_nil,wo_p,wo_g,beq_self_eq_true,onO_s,onG_t,wanted_g,wantB_b,pv_t,pv_int,put_some,bi_neq,pevP,getP,setP,Option.map_some,neB_t h2]
  repeat (refine PRun.wpn rfl ?_;simp only [wp,wo_nil,wo_p,onO_s,pv_t,put_some,pevP,getP,setP,or_true,true_and,↓reduceIte,reduceCtorEq])
  exact .refl ⟨_,rfl,.refl _⟩
end
end Go.Proofs.YtnpoloachkcadaaGreatDoor.Ai
