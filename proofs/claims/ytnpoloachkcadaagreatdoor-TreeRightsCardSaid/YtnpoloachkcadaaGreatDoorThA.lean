/- A PART OF THE PROOF: a step of the proof that the law's code does what its contracts say, by an interpreter of the program's functions that is proved to be sound. -/
import Derived.Test.YtnpoloachkcadaaGreatDoorPv3
import Derived.Test.YtnpoloachkcadaaGreatDoorIrH
import Derived.Lib.Bytealg
namespace Go.Proofs.YtnpoloachkcadaaGreatDoor.Ai
open Go
set_option linter.unusedVariables false
set_option linter.unusedSectionVars false
set_option maxRecDepth 10000
inductive Fm where
 | mk (op:Nat) (name:ByteArray) (kids:List Fm)
def Fm.op:Fm→Nat | .mk o _ _=>o
def Fm.name:Fm→ByteArray | .mk _ n _=>n
def Fm.kids:Fm→List Fm | .mk _ _ k=>k
mutual
def fC:Fm→List PV
 | .mk o n ks=>[.lit (.int .u8 (o:Nat)),.lit (.string n),.sz (fL ks) ks.length]
def fL:List Fm→List PV
 | []=>[]
 | k::ks=>fC k++fL ks
end
def fP (f:Fm):PV:=.agg (fC f)
theorem fC_len (f:Fm):(fC f).length=3:=by cases f;simp [fC]
theorem fL_len:∀ ks:List Fm,(fL ks).length=ks.length * 3
 | []=>by simp [fL]
 | k::ks=>by simp [fL,fC_len,fL_len ks];omega
theorem fL_app:∀ a b:List Fm,fL (a++b)=fL a++fL b
 | [],b=>by simp [fL]
 | k::a,b=>by simp [fL,fL_app a b,List.append_assoc]
theorem fL_drop:∀ (ks:List Fm) (i:Nat),(fL ks).drop (i * 3)=fL (ks.drop i)
 | ks,0=>by simp
 | [],i + 1=>by simp [fL]
 | k::ks,i + 1=>by
  have e:(i + 1) * 3=(fC k).length + i * 3:=by rw [fC_len];omega
  simp only [fL,List.drop_succ_cons]
  rw [e,← List.drop_drop,List.drop_left]
  exact fL_drop ks i
theorem cut_app {l r:List PV} {n:Nat} (h:l.length=n):cutP n (l++r)=some l:=by
 subst h
 unfold cutP
 rw [if_pos (by simp),List.take_left]
theorem fL_cut {ks:List Fm} {i:Nat} {k:Fm} (h:ks[i]? = some k):cutP 3 ((fL ks).drop (i * 3))=some (fC k):=by
 rw [fL_drop]
 obtain ⟨hi,rfl⟩:=List.getElem?_eq_some_iff.1 h
 rw [List.drop_eq_getElem_cons hi,fL]
 exact cut_app (fC_len _)
mutual
theorem pureL_fC:∀ f:Fm,pureL (fC f)=true
 | .mk o n ks=>by simp [fC,pureL,pureP]
theorem pureL_fL:∀ ks:List Fm,pureL (fL ks)=true
 | []=>rfl
 | k::ks=>by simp [fL,pureL_append,pureL_fC k,pureL_fL ks]
end
mutual
theorem allPlain_fC:∀ f:Fm,allPlain (fC f)=true
 | .mk o n ks=>by simp [fC,allPlain,plainP,isCell]
theorem allPlain_fL:∀ ks:List Fm,allPlain (fL ks)=true
 | []=>rfl
 | k::ks=>by simp [fL,allPlain_append,allPlain_fC k,allPlain_fL ks]
end
mutual
def Fm.size:Fm→Nat
 | .mk _ _ ks=>1 + sizes ks
def sizes:List Fm→Nat
 | []=>0
 | k::ks=>k.size + sizes ks
end
mutual
def Fm.depth:Fm→Nat
 | .mk _ _ ks=>depths ks + 1
def depths:List Fm→Nat
 | []=>0
 | k::ks=>max k.depth (depths ks)
end
theorem Fm.size_pos:∀ f:Fm,0 < f.size
 | .mk _ _ ks=>by simp [Fm.size];omega
theorem sizes_app:∀ a b:List Fm,sizes (a++b)=sizes a + sizes b
 | [],b=>by simp [sizes]
 | k::a,b=>by simp [sizes,sizes_app a b];omega
theorem depths_app:∀ a b:List Fm,depths (a++b)=max (depths a) (depths b)
 | [],b=>by simp [depths]
 | k::a,b=>by simp [depths,depths_app a b,Nat.max_assoc]
theorem sizes_take {ks:List Fm} {i:Nat} {k:Fm} (h:ks[i]? = some k):sizes (ks.take (i + 1))=sizes (ks.take i) + k.size:=by
 rw [List.take_add_one,h,sizes_app];simp [sizes]
theorem depths_take {ks:List Fm} {i:Nat} {k:Fm} (h:ks[i]? = some k):depths (ks.take (i + 1))=max (depths (ks.take i)) k.depth:=by
 rw [List.take_add_one,h,depths_app];simp [depths]
theorem sizes_le:∀ (ks:List Fm) (i:Nat),sizes (ks.take i)≤sizes ks
 | ks,i=>by
  have:=sizes_app (ks.take i) (ks.drop i)
  rw [List.take_append_drop] at this;omega
theorem size_kid {ks:List Fm} {i:Nat} {k:Fm} (h:ks[i]? = some k):k.size≤sizes ks:=by
 have h1:=sizes_take h
 have h2:=sizes_le ks (i + 1)
 omega
theorem len_sizes:∀ ks:List Fm,ks.length≤sizes ks
 | []=>by simp [sizes]
 | k::ks=>by have:=k.size_pos;have:=len_sizes ks;simp [sizes];omega
mutual
theorem depth_size:∀ f:Fm,f.depth≤f.size
 | .mk _ _ ks=>by have:=depths_sizes ks;simp [Fm.size,Fm.depth];omega
theorem depths_sizes:∀ ks:List Fm,depths ks≤sizes ks
 | []=>by simp [sizes,depths]
 | k::ks=>by have:=depth_size k;have:=depths_sizes ks;simp [sizes,depths];omega
end
section
variable {C:Ctx} (hm:C.P.follows .mixedOrders=true) (hC:TabOK C.P C.ng C.ts Tryz.tab)
include hm hC
theorem size_ok:∀ (n:Nat) (f:Fm),f.size≤n→n < 2 ^ 60→PFun C 32 [fP f] (.lit (.int .i64 (f.size:Nat))):=by
 intro n
 induction n with
 | zero=>intro f h;have:=f.size_pos;omega
 | succ n ih=>
  intro f hf hn
  obtain ⟨o,nm,ks⟩:=f
  simp only [Fm.size] at hf
  have hlen:=len_sizes ks
  refine PFun.body hm hC (show Tryz.tab.get 32=some Tryz.c32 from rfl) rfl ?_
  simp only [Tryz.c32,startP,List.length_cons,List.length_nil,Nat.reduceAdd,Nat.reduceSub,List.replicate,List.cons_append,List.nil_append,fP,fC]
  repeat (refine PRun.wpn rfl ?_;simp only [wp,wo_nil,wo_p,wo_r,wo_n,onO_s,onN_s,ble_self,pv_t,pv_int,put_some,pevP,pevR,pevN,getP,setP,boxP,look,PW.cs?,PW.push,PW.none,nthP,Option.map_some,Option.bind_some,↓reduceIte,reduceCtorEq,Nat.zero_add,resPs,resP,tupP])
  refine PRun.gh (Gh.mr (false::false::false::true::false::false::false::true::true::true::false::false::false::false::false::false::false::false::false::[]) [] 0 rfl ?_)
  simp only [↓reduceIte,Bool.false_eq_true,renL,renP,renH,lkN,maskP]
  refine PRun.loopG (fun m t π=>∃ i:Nat,t=(.junk::.junk::.junk::.lit (.int .i64 ((1 + sizes (ks.take i):Nat)))::.junk::.junk::.junk::.sz (fL ks) ks.length::.lit (.int .i64 (ks.length:Nat))::.lit (.int .i64 (i:Nat))::.junk::.junk::.junk::.junk::.junk::.junk::.junk::.junk::.junk::[])∧i≤ks.length∧m=ks.length - i∧π=⟨0,[]⟩) ?_ ks.length _ _ ⟨0,by simp [sizes],by omega,rfl,rfl⟩
  rintro m t π ⟨i,rfl,hi,rfl,rfl⟩
  repeat (refine PRun.wpn rfl ?_;simp only [wp,wo_nil,wo_p,onO_s,pv_t,put_some,bi_lss,pevP,getP,setP,Option.map_some,↓reduceIte,ltB_iff])
  split
  ·rename_i hlt
   obtain ⟨k,hk⟩:∃ k,ks[i]? = some k:=⟨ks[i]'(by omega),List.getElem?_eq_getElem (by omega)⟩
   have h1:=size_kid hk
   have h2:=sizes_take hk
   have h3:=sizes_le ks (i + 1)
   have hcut:=fL_cut hk
   have hrec:=ih k (by omega) (by omega)
   obtain ⟨o',nm',ks'⟩:=k
   simp only [fP,fC] at hrec hcut
   repeat (refine PRun.wpn rfl ?_;simp only [wp,wo_nil,wo_p,wo_r,wo_n,wo_call,wo_st,onO_s,onN_s,onE_s,ble_self,ble_succ,pv_t,ov_nil,ov_cons,ov_int,ov_str,ov_nilS,put_some,put_none,pevP,pevR,pevN,pevE,getP,setP,evsP,spliceP,overP,plainP,isCell,look,PW.cs?,PW.push,cut0,cutS,List.length_cons,List.length_nil,List.drop_zero,Option.map_some,Option.bind_some,Nat.zero_le,Int.natCast_nonneg,Int.toNat_natCast,and_self,true_and,Bool.and_true,↓reduceIte,ltL,lt,Nat.reduceAdd,Bool.false_eq_true,Nat.zero_add,allPlain,PW.wr,setO,killO,Bool.or_self,Bool.not_true,List.length_cons,List.length_nil,hlt,hcut])
   refine .refl (PFun.to (hrec) rfl (POps.wp ?_))
   simp only [wo_nil,wo_p,onO_s,pv_t,put_some,bi_add,pevP,getP,setP,Option.map_some]
   repeat (refine PRun.wpn rfl ?_;simp only [wp,wo_nil,wo_p,onO_s,pv_t,pv_int,put_some,bi_add,pevP,getP,setP,Option.map_some])
   have e:((1 + sizes (ks.take i):Nat):Int) + ((Fm.mk o' nm' ks').size:Nat)=((1 + sizes (ks.take (i + 1)):Nat):Int):=by rw [h2];omega
   rw [wrap64 (by omega) (by omega),wrap64 (by omega) (by omega),e]
   refine Gh.mr (false::false::false::true::false::false::false::true::true::true::false::false::false::false::false::false::false::false::false::[]) [] 0 rfl ?_
   exact ⟨ks.length - (i + 1),by omega,i + 1,rfl,by omega,rfl,rfl⟩
  ·rename_i hge
   have hil:i=ks.length:=by omega
   subst hil
   repeat (refine PRun.wpn rfl ?_;simp only [wp,wo_nil,wo_p,onO_s,pv_t,put_some,pevP,getP,setP,or_true,true_and,reduceCtorEq])
   refine .refl ⟨_,rfl,?_⟩
   rw [List.take_length]
   exact .refl _
theorem depth_ok:∀ (n:Nat) (f:Fm),f.size≤n→n < 2 ^ 60→PFun C 33 [fP f] (.lit (.int .i64 (f.depth:Nat))):=by
 intro n
 induction n with
 | zero=>intro f h;have:=f.size_pos;omega
 | succ n ih=>
  intro f hf hn
  obtain ⟨o,nm,ks⟩:=f
  simp only [Fm.size] at hf
  have hlen:=len_sizes ks
  have hdp:=depths_sizes ks
  refine PFun.body hm hC (show Tryz.tab.get 33=some Tryz.c33 from rfl) rfl ?_
  simp only [Tryz.c33,startP,List.length_cons,List.length_nil,Nat.reduceAdd,Nat.reduceSub,List.replicate,List.cons_append,List.nil_append,fP,fC]
  repeat (refine PRun.wpn rfl ?_;simp only [wp,wo_nil,wo_p,wo_r,wo_n,onO_s,onN_s,ble_self,pv_t,pv_int,put_some,pevP,pevR,pevN,getP,setP,boxP,look,PW.cs?,PW.push,PW.none,nthP,Option.map_some,Option.bind_some,↓reduceIte,reduceCtorEq,Nat.zero_add,resPs,resP,tupP])
  refine PRun.gh (Gh.mr (false::false::false::true::false::false::false::true::true::true::false::false::false::false::false::false::false::false::false::false::[]) [] 0 rfl ?_)
  simp only [↓reduceIte,Bool.false_eq_true,renL,renP,renH,lkN,maskP]
  refine PRun.loopG (fun m t π=>∃ i:Nat,t=(.junk::.junk::.junk::.lit (.int .i64 (depths (ks.take i):Nat))::.junk::.junk::.junk::.sz (fL ks) ks.length::.lit (.int .i64 (ks.length:Nat))::.lit (.int .i64 (i:Nat))::.junk::.junk::.junk::.junk::.junk::.junk::.junk::.junk::.junk::.junk::[])∧i≤ks.length∧m=ks.length - i∧π=⟨0,[]⟩) ?_ ks.length _ _ ⟨0,by simp [depths],by omega,rfl,rfl⟩
  rintro m t π ⟨i,rfl,hi,rfl,rfl⟩
  repeat (refine PRun.wpn rfl ?_;simp only [wp,wo_nil,wo_p,onO_s,pv_t,put_some,bi_lss,pevP,getP,setP,Option.map_some,↓reduceIte,ltB_iff])
  split
  ·rename_i hlt
   obtain ⟨k,hk⟩:∃ k,ks[i]? = some k:=⟨ks[i]'(by omega),List.getElem?_eq_getElem (by omega)⟩
   have h1:=size_kid hk
   have h2:=depths_take hk
   have hcut:=fL_cut hk
   have hrec:=ih k (by omega) (by omega)
   obtain ⟨o',nm',ks'⟩:=k
   simp only [fP,fC] at hrec hcut
   repeat (refine PRun.wpn rfl ?_;simp only [wp,wo_nil,wo_p,wo_r,wo_n,wo_call,wo_st,onO_s,onN_s,onE_s,ble_self,ble_succ,pv_t,ov_nil,ov_cons,ov_int,ov_str,ov_nilS,put_some,put_none,pevP,pevR,pevN,pevE,getP,setP,evsP,spliceP,overP,plainP,isCell,look,PW.cs?,PW.push,cut0,cutS,List.length_cons,List.length_nil,List.drop_zero,Option.map_some,Option.bind_some,Nat.zero_le,Int.natCast_nonneg,Int.toNat_natCast,and_self,true_and,Bool.and_true,↓reduceIte,ltL,lt,Nat.reduceAdd,Bool.false_eq_true,Nat.zero_add,allPlain,PW.wr,setO,killO,Bool.or_self,Bool.not_true,List.length_cons,List.length_nil,hlt,hcut])
   refine .refl (PFun.to (hrec) rfl (POps.wp ?_))
   simp only [wo_nil,wo_p,onO_s,pv_t,put_some,pevP,getP,setP,gt_iff_lt]
   repeat (refine PRun.wpn rfl ?_;simp only [wp,wo_nil,wo_p,onO_s,pv_t,pv_int,put_some,bi_add,pevP,getP,setP,Option.map_some])
   have e:(if ((depths (ks.take i):Nat):Int) < ((Fm.mk o' nm' ks').depth:Nat) then (((Fm.mk o' nm' ks').depth:Nat):Int) else ((depths (ks.take i):Nat):Int))=((depths (ks.take (i + 1)):Nat):Int):=by
    rw [h2];split <;> omega
   rw [wrap64 (by omega) (by omega),e]
   refine Gh.mr (false::false::false::true::false::false::false::true::true::true::false::false::false::false::false::false::false::false::false::false::[]) [] 0 rfl ?_
   exact ⟨ks.length - (i + 1),by omega,i + 1,rfl,by omega,rfl,rfl⟩
  ·rename_i hge
   have hil:i=ks.length:=by omega
   subst hil
   repeat (refine PRun.wpn rfl ?_;simp only [wp,wo_nil,wo_p,onO_s,pv_t,pv_int,put_some,bi_add,pevP,getP,setP,Option.map_some,or_true,true_and,reduceCtorEq])
   rw [List.take_length,wrap64 (by omega) (by omega)]
   exact .refl ⟨_,rfl,.refl _⟩
end
mutual
def Fm.wt (d:Nat):Fm→Nat
 | .mk _ nm ks=>if 2000 < d then 2147483648 else wts (d + 1) (1 + nm.size) ks
def wts (d:Nat) (n:Nat):List Fm→Nat
 | []=>n
 | k::ks=>if n≤2147483647 then wts d (n + k.wt d) ks else n
end
mutual
def Fm.ok:Fm→Prop
 | .mk _ nm ks=>nm.size < 2 ^ 50∧ks.length < 2 ^ 50∧oks ks
def oks:List Fm→Prop
 | []=>True
 | k::ks=>k.ok∧oks ks
end
theorem oks_get:∀ {ks:List Fm} {i:Nat} {k:Fm},oks ks→ks[i]? = some k→k.ok
 | [],i,k,_,h=>by simp at h
 | x::ks,0,k,ho,h=>by simp at h;subst h;exact ho.1
 | x::ks,i + 1,k,ho,h=>oks_get (i:=i) ho.2 (by simpa using h)
theorem oks_take:∀ {ks:List Fm},oks ks→∀ i,oks (ks.take i)
 | [],_,i=>by simp [oks]
 | x::ks,h,0=>by simp [oks]
 | x::ks,h,i + 1=>⟨h.1,oks_take h.2 i⟩
mutual
theorem wt_le:∀ (f:Fm) (d:Nat),f.ok→d≤2001→f.wt d≤(2002 - d) * 2147483648 + 2251799813685248
 | .mk _ nm ks,d,ho,hd=>by
  simp only [Fm.ok] at ho
  simp only [Fm.wt]
  by_cases h:2000 < d
  ·rw [if_pos h]
   generalize hX:(2002 - d) * 2147483648=X
   exact Nat.le_trans (Nat.le_of_ble_eq_true rfl:2147483648≤2251799813685248) (Nat.le_add_left _ _)
  ·rw [if_neg h]
   have:=wts_le ks (d + 1) (1 + nm.size) ho.2.2 (by omega) (by
    have:1 + nm.size≤2251799813685248:=by omega
    exact Nat.le_trans this (Nat.le_add_left _ _))
   have e:2003 - (d + 1)=2002 - d:=by omega
   rw [e] at this;exact this
theorem wts_le:∀ (ks:List Fm) (d n:Nat),oks ks→d≤2001→n≤(2003 - d) * 2147483648 + 2251799813685248→wts d n ks≤(2003 - d) * 2147483648 + 2251799813685248
 | [],d,n,_,_,hn=>by simpa [wts] using hn
 | k::ks,d,n,ho,hd,hn=>by
  simp only [oks] at ho
  simp only [wts]
  split
  ·have:=wt_le k d ho.1 hd
   exact wts_le ks d (n + k.wt d) ho.2 hd (by omega)
  ·exact hn
end
theorem wts_app:∀ (a b:List Fm) (d n:Nat),wts d n (a++b)=wts d (wts d n a) b
 | [],b,d,n=>by simp [wts]
 | k::a,b,d,n=>by
  simp only [List.cons_append,wts]
  split
  ·exact wts_app a b d _
  ·rename_i h
   cases b with
   | nil=>simp [wts]
   | cons x b=>simp [wts,h]
theorem wts_stop:∀ (b:List Fm) (d n:Nat),¬ n≤2147483647→wts d n b=n
 | [],d,n,_=>rfl
 | k::b,d,n,h=>by simp [wts,h]
theorem wts_take {ks:List Fm} {i:Nat} {k:Fm} (d n:Nat) (h:ks[i]? = some k) (hn:wts d n (ks.take i)≤2147483647):wts d n (ks.take (i + 1))=wts d n (ks.take i) + k.wt d:=by
 rw [List.take_add_one,h,wts_app];simp [wts,hn]
mutual
def Fm.pw:Fm→Nat
 | .mk _ nm ks=>1 + nm.size + pws ks
def pws:List Fm→Nat
 | []=>0
 | k::ks=>k.pw + pws ks
end
theorem wts_ge:∀ (ks:List Fm) (d n:Nat),n≤wts d n ks
 | [],d,n=>Nat.le_refl _
 | k::ks,d,n=>by
  simp only [wts]
  split
  ·have:=wts_ge ks d (n + k.wt d);omega
  ·exact Nat.le_refl _
mutual
theorem wt_plain:∀ (f:Fm) (d:Nat),f.wt d≤2147483647→f.wt d=f.pw∧d + f.depth≤2001
 | .mk _ nm ks,d,h=>by
  simp only [Fm.wt] at h ⊢
  split at h
  ·omega
  ·rename_i hd
   rw [if_neg hd]
   obtain ⟨h1,h2⟩:=wts_plain ks (d + 1) (1 + nm.size) h
   simp only [Fm.pw,Fm.depth]
   refine ⟨by omega,?_⟩
   rcases Nat.eq_zero_or_pos (depths ks) with h0 | h0
   ·omega
   ·have:=h2 h0;omega
theorem wts_plain:∀ (ks:List Fm) (d n:Nat),wts d n ks≤2147483647→wts d n ks=n + pws ks∧(0 < depths ks→d + depths ks≤2001)
 | [],d,n,h=>by simp [wts,pws,depths]
 | k::ks,d,n,h=>by
  simp only [wts] at h ⊢
  have hn:n≤2147483647:=by
   split at h
   ·rename_i hc;exact hc
   ·omega
  rw [if_pos hn] at h ⊢
  obtain ⟨h1,h2⟩:=wts_plain ks d (n + k.wt d) h
  have h3:=wts_ge ks d (n + k.wt d)
  obtain ⟨h4,h5⟩:=wt_plain k d (by omega)
  simp only [pws,depths]
  refine ⟨by omega,fun _=>?_⟩
  rcases Nat.le_total k.depth (depths ks) with hm | hm
  ·rw [Nat.max_eq_right hm]
   rcases Nat.eq_zero_or_pos (depths ks) with h0 | h0
   ·omega
   ·exact h2 h0
  ·rw [Nat.max_eq_left hm];exact h5
end
mutual
theorem size_pw:∀ f:Fm,f.size≤f.pw
 | .mk _ nm ks=>by have:=sizes_pws ks;simp [Fm.size,Fm.pw];omega
theorem sizes_pws:∀ ks:List Fm,sizes ks≤pws ks
 | []=>by simp [sizes,pws]
 | k::ks=>by have:=size_pw k;have:=sizes_pws ks;simp [sizes,pws];omega
end
def muchF (l:List Fm):Nat→Nat→Nat
 | 0,n=>n
 | _ + 1,n=>n
section
variable {C:Ctx} (hm:C.P.follows .mixedOrders=true) (hC:TabOK C.P C.ng C.ts Tryz.tab)
include hm hC
theorem wt_ok:∀ (n:Nat) (f:Fm) (d:Nat),f.size≤n→f.ok→d≤2001→PFun C 106 [fP f,.lit (.int .i64 (d:Nat))] (.lit (.int .i64 (f.wt d:Nat))):=by
 intro n
 induction n with
 | zero=>intro f d h;have:=f.size_pos;omega
 | succ n ih=>
  intro f d hf ho hd
  obtain ⟨o,nm,ks⟩:=f
  simp only [Fm.size] at hf
  simp only [Fm.ok] at ho
  have hw:IntKind.i64.wrap (1 + (nm.size:Nat))=((1 + nm.size:Nat):Int):=by rw [wrap64 (by omega) (by omega)];omega
  refine PFun.body hm hC (show Tryz.tab.get 106=some Tryz.c106 from rfl) rfl ?_
  simp only [Tryz.c106,startP,List.length_cons,List.length_nil,Nat.reduceAdd,Nat.reduceSub,List.replicate,List.cons_append,List.nil_append,fP,fC]
  by_cases hd2:(2000:Int) < (d:Nat)
  ·repeat (refine PRun.wpn rfl ?_;simp only [wp,wo_nil,wo_p,wo_r,wo_n,onO_s,onN_s,ble_self,pv_t,pv_int,put_some,bi_add,bi_gtr,pevP,pevR,pevN,getP,setP,boxP,look,PW.cs?,PW.push,PW.none,nthP,Option.map_some,Option.bind_some,or_true,true_and,↓reduceIte,reduceCtorEq,Nat.zero_add,resPs,resP,tupP,hw,ltB_t hd2])
   refine .refl ⟨_,rfl,?_⟩
   simp only [Fm.wt]
   rw [if_pos (by omega)]
   exact .refl _
  ·repeat (refine PRun.wpn rfl ?_;simp only [wp,wo_nil,wo_p,wo_r,wo_n,onO_s,onN_s,ble_self,pv_t,pv_int,put_some,bi_add,bi_gtr,pevP,pevR,pevN,getP,setP,boxP,look,PW.cs?,PW.push,PW.none,nthP,Option.map_some,Option.bind_some,↓reduceIte,reduceCtorEq,Bool.false_eq_true,Nat.zero_add,resPs,resP,tupP,hw,ltB_f hd2])
   refine PRun.gh (Gh.mr (false::true::true::false::false::true::true::false::false::false::false::false::false::false::false::false::false::false::false::false::false::false::false::false::false::false::false::false::false::false::false::false::false::false::false::[]) [(0,0)] 1 rfl ?_)
   simp only [↓reduceIte,Bool.false_eq_true,renL,renP,renO,renH,renA,lkN,maskP]
   refine PRun.loopG (fun m t π=>∃ i:Nat,t=(.junk::.lit (.int .i64 (d:Nat))::.ptr 0 0::.junk::.junk::.lit (.int .i64 (wts (d + 1) (1 + nm.size) (ks.take i):Nat))::.lit (.int .i64 (i:Nat))::.junk::.junk::.junk::.junk::.junk::.junk::.junk::.junk::.junk::.junk::.junk::.junk::.junk::.junk::.junk::.junk::.junk::.junk::.junk::.junk::.junk::.junk::.junk::.junk::.junk::.junk::.junk::.junk::[])∧i≤ks.length∧m=ks.length - i∧π=⟨1,[(0,.cells [.lit (.int .u8 (o:Nat)),.lit (.string nm),.sz (fL ks) ks.length] 27 3 true false [])]⟩) ?_ ks.length _ _ ⟨0,by simp [wts],by omega,rfl,rfl⟩
   rintro m t π ⟨i,rfl,hi,rfl,rfl⟩
   have hb:=wts_le (ks.take i) (d + 1) (1 + nm.size) (oks_take ho.2.2 i) (by omega) (by omega)
   by_cases hlt:(i:Int) < (ks.length:Nat)
   ·by_cases hle:((wts (d + 1) (1 + nm.size) (ks.take i):Nat):Int)≤2147483647
    ·obtain ⟨k,hk⟩:∃ k,ks[i]? = some k:=⟨ks[i]'(by omega),List.getElem?_eq_getElem (by omega)⟩
     have h1:=size_kid hk
     have h2:=wts_take (d + 1) (1 + nm.size) hk (by omega)
     have hcut:=fL_cut hk
     have hrec:=ih k (d + 1) (by omega) (oks_get ho.2.2 hk) (by omega)
     have h4:=wt_le k (d + 1) (oks_get ho.2.2 hk) (by omega)
     have ew:IntKind.i64.wrap ((d:Nat) + 1)=((d + 1:Nat):Int):=by rw [wrap64 (by omega) (by omega)];omega
     obtain ⟨o',nm',ks'⟩:=k
     simp only [fP,fC] at hrec hcut
     repeat (refine PRun.wpn rfl ?_;simp only [wp,wo_nil,wo_p,wo_r,wo_call,wo_g,beq_self_eq_true,onO_s,onG_t,wanted_g,wantB_b,pv_t,pv_int,put_some,bi_add,bi_lss,bi_leq,pevP,pevR,getP,setP,evsP,look,PW.cs?,nthP,Option.map_some,Option.bind_some,Nat.zero_le,Int.natCast_nonneg,Int.toNat_natCast,and_self,true_and,↓reduceIte,Nat.zero_add,ltB_t hlt,leB_t hle,hlt,hcut,ew])
     refine .refl (PFun.to (hrec) rfl (POps.wp ?_))
     simp only [wo_nil,wo_p,onO_s,pv_t,put_some,bi_add,pevP,getP,setP,Option.map_some]
     repeat (refine PRun.wpn rfl ?_;simp only [wp,wo_nil,wo_p,onO_s,pv_t,pv_int,put_some,bi_add,pevP,getP,setP,Option.map_some])
     have e:((wts (d + 1) (1 + nm.size) (ks.take i):Nat):Int) + ((Fm.mk o' nm' ks').wt (d + 1):Nat)=((wts (d + 1) (1 + nm.size) (ks.take (i + 1)):Nat):Int):=by rw [h2];omega
     rw [wrap64 (by omega) (by omega),wrap64 (by omega) (by omega),e]
     refine Gh.mr (false::true::true::false::false::true::true::false::false::false::false::false::false::false::false::false::false::false::false::false::false::false::false::false::false::false::false::false::false::false::false::false::false::false::false::[]) [(0,0)] 1 rfl ?_
     exact ⟨ks.length - (i + 1),by omega,i + 1,rfl,by omega,rfl,rfl⟩
    ·repeat (refine PRun.wpn rfl ?_;simp only [wp,wo_nil,wo_p,wo_r,wo_g,beq_self_eq_true,onO_s,onG_t,wanted_g,wantB_b,pv_t,pv_int,put_some,bi_lss,bi_leq,pevP,pevR,getP,setP,look,PW.cs?,nthP,Option.map_some,Option.bind_some,or_true,true_and,↓reduceIte,reduceCtorEq,Bool.false_eq_true,Nat.zero_add,ltB_t hlt,leB_f hle])
     refine .refl ⟨_,rfl,?_⟩
     simp only [Fm.wt]
     rw [if_neg (by omega)]
     have:wts (d + 1) (1 + nm.size) ks=wts (d + 1) (1 + nm.size) (ks.take i):=by
      have h:=wts_app (ks.take i) (ks.drop i) (d + 1) (1 + nm.size)
      rw [List.take_append_drop] at h
      rw [h,wts_stop _ _ _ (by omega)]
     rw [this]
     exact .refl _
   ·have hil:i=ks.length:=by omega
    subst hil
    repeat (refine PRun.wpn rfl ?_;simp only [wp,wo_nil,wo_p,wo_r,wo_g,onO_s,onG_f,wanted_g,wantB_b,b_ft,pv_t,pv_bool,put_some,bi_lss,pevP,pevR,getP,setP,look,PW.cs?,nthP,Option.map_some,Option.bind_some,or_true,true_and,↓reduceIte,reduceCtorEq,Bool.false_eq_true,Nat.zero_add,ltB_f hlt])
    refine .refl ⟨_,rfl,?_⟩
    simp only [Fm.wt]
    rw [if_neg (by omega),List.take_length]
    exact .refl _
theorem weight_ok (f:Fm) (ho:f.ok):PFun C 56 [fP f] (.lit (.int .i64 (f.wt 0:Nat))):=by
 have h:=wt_ok hm hC f.size f 0 (Nat.le_refl _) ho (by omega)
 obtain ⟨o,nm,ks⟩:=f
 simp only [fP,fC,nc0] at h
 refine PFun.body hm hC (show Tryz.tab.get 56=some Tryz.c56 from rfl) rfl ?_
 simp only [Tryz.c56,startP,List.length_cons,List.length_nil,Nat.reduceAdd,Nat.reduceSub,List.replicate,List.cons_append,List.nil_append,fP,fC]
 repeat (refine PRun.wpn rfl ?_;simp only [wp,wo_nil,wo_p,wo_r,wo_n,wo_call,onO_s,onN_s,ble_self,pv_t,pv_int,put_some,pevP,pevR,pevN,getP,setP,evsP,boxP,look,PW.cs?,PW.push,PW.none,cut0,cutS,List.drop_zero,Option.map_some,Option.bind_some,Nat.zero_le,true_and,↓reduceIte,Nat.zero_add,resPs,resP,tupP])
 refine .refl (PFun.to (h) rfl (POps.wp ?_))
 simp only [wo_nil,wo_p,onO_s,pv_t,put_some,pevP,getP,setP]
 repeat (refine PRun.wpn rfl ?_;simp only [wp,or_true,true_and,reduceCtorEq])
 exact .refl ⟨_,rfl,.refl _⟩
end
end Go.Proofs.YtnpoloachkcadaaGreatDoor.Ai
namespace Go.Proofs.YtnpoloachkcadaaGreatDoor.Ai
open Go
set_option linter.unusedVariables false
set_option linter.unusedSectionVars false
set_option maxRecDepth 10000
def charOK (c:UInt8):Prop:=32≤c.toNat∧c.toNat≤126∧c.toNat ≠ 34∧c.toNat ≠ 92
def nameOK (s:ByteArray):Prop:=0 < s.size∧s.size≤32∧∀ (i:Nat) (h:i < s.size),charOK s[i]
open Classical in
noncomputable def yesB (p:Prop):Bool:=decide p
theorem yes_t {p:Prop} (h:p):yesB p=true:=by simp [yesB,h]
theorem yes_f {p:Prop} (h:¬ p):yesB p=false:=by simp [yesB,h]
theorem size_empty (s:ByteArray):s=⟨#[]⟩↔s.size=0:=by
 constructor
 ·rintro rfl;rfl
 ·intro h
  have h1:s.data.toList.length=0:=by rw [ba_size];exact h
  exact ba_ext (List.length_eq_zero_iff.1 h1)
section
variable {C:Ctx} (hm:C.P.follows .mixedOrders=true) (hC:TabOK C.P C.ng C.ts Tryz.tab)
include hm hC
theorem name_ok (s:ByteArray) (hs:s.size < 2 ^ 60):PFun C 100 [.lit (.string s)] (.lit (.bool (yesB (nameOK s)))):=by
 refine PFun.body hm hC (show Tryz.tab.get 100=some Tryz.c100 from rfl) rfl ?_
 simp only [Tryz.c100,startP,List.length_cons,List.length_nil,Nat.reduceAdd,Nat.reduceSub,List.replicate,List.cons_append,List.nil_append]
 by_cases h0:s=⟨#[]⟩
 ·repeat (refine PRun.wpn rfl ?_;simp only [wp,wo_nil,wo_p,wo_g,onO_s,onG_f,wanted_g,wantB_b,b_tf,pv_t,pv_bool,pv_str,put_some,bi_eqlS,pevP,getP,setP,PW.none,Option.map_some,or_true,true_and,↓reduceIte,reduceCtorEq,resPs,resP,tupP,eqS_t h0])
  rw [yes_f (fun h=>by have:=h.1;rw [(size_empty s).1 h0] at this;omega)]
  exact .refl ⟨_,rfl,.refl _⟩
 have hs0:s.size ≠ 0:=fun h=>h0 ((size_empty s).2 h)
 by_cases h1:(32:Int) < (s.size:Nat)
 ·repeat (refine PRun.wpn rfl ?_;simp only [wp,wo_nil,wo_p,wo_g,beq_self_eq_true,onO_s,onG_t,wanted_g,wantB_b,pv_t,pv_int,pv_bool,pv_str,put_some,bi_eqlS,bi_gtr,pevP,getP,setP,PW.none,Option.map_some,or_true,true_and,↓reduceIte,reduceCtorEq,resPs,resP,tupP,eqS_f h0,ltB_t h1])
  rw [yes_f (fun h=>by have:=h.2.1;omega)]
  exact .refl ⟨_,rfl,.refl _⟩
 repeat (refine PRun.wpn rfl ?_;simp only [wp,wo_nil,wo_p,wo_g,beq_self_eq_true,onO_s,onG_t,wanted_g,wantB_b,pv_t,pv_int,pv_bool,pv_str,put_some,bi_eqlS,bi_gtr,pevP,getP,setP,PW.none,Option.map_some,↓reduceIte,reduceCtorEq,Bool.false_eq_true,resPs,resP,tupP,eqS_f h0,ltB_f h1])
 refine PRun.gh (Gh.mr (true::false::false::false::false::false::false::false::false::false::false::false::false::true::true::false::false::false::false::false::false::false::false::false::false::false::false::false::false::false::false::false::false::false::false::[]) [] 0 rfl ?_)
 simp only [↓reduceIte,Bool.false_eq_true,renL,renP,renH,maskP]
 refine PRun.loopG (fun m t π=>∃ i:Nat,t=(.lit (.string s)::.junk::.junk::.junk::.junk::.junk::.junk::.junk::.junk::.junk::.junk::.junk::.junk::.lit (.int .i64 (s.size:Nat))::.lit (.int .i64 (i:Nat))::.junk::.junk::.junk::.junk::.junk::.junk::.junk::.junk::.junk::.junk::.junk::.junk::.junk::.junk::.junk::.junk::.junk::.junk::.junk::.junk::[])∧i≤s.size∧m=s.size - i∧π=⟨0,[]⟩∧∀ (j:Nat) (h:j < s.size),j < i→charOK s[j]) ?_ s.size _ _ ⟨0,rfl,by omega,rfl,rfl,fun j h h'=>by omega⟩
 rintro m t π ⟨i,rfl,hi,rfl,rfl,hall⟩
 repeat (refine PRun.wpn rfl ?_;simp only [wp,wo_nil,wo_p,onO_s,pv_t,put_some,bi_lss,pevP,getP,setP,Option.map_some,↓reduceIte,ltB_iff])
 split
 ·rename_i hlt
  have hil:i < s.size:=by omega
  have hc:=idx_some hil
  have bad:¬ charOK s[i]→yesB (nameOK s)=false:=fun hb=>yes_f fun h=>hb (h.2.2 i hil)
  generalize hcc:s[i]=c at hc bad
  by_cases c1:((c.toNat:Nat):Int) < 32
  ·repeat (refine PRun.wpn rfl ?_;simp only [wp,wo_nil,wo_p,wo_g,onO_s,onG_f,wanted_g,wantB_b,b_tf,pv_t,pv_int,pv_bool,put_some,bi_lss,pevP,getP,setP,Option.map_some,or_true,Int.natCast_nonneg,Int.toNat_natCast,true_and,↓reduceIte,reduceCtorEq,hc,ltB_t c1])
   rw [bad (fun h=>by have:=h.1;omega)]
   exact .refl ⟨_,rfl,.refl _⟩
  by_cases c2:126 < ((c.toNat:Nat):Int)
  ·repeat (refine PRun.wpn rfl ?_;simp only [wp,wo_nil,wo_p,wo_g,beq_self_eq_true,onO_s,onG_t,onG_f,wanted_g,wantB_b,b_tf,pv_t,pv_int,pv_bool,put_some,bi_lss,bi_gtr,pevP,getP,setP,Option.map_some,or_true,Int.natCast_nonneg,Int.toNat_natCast,true_and,↓reduceIte,reduceCtorEq,hc,ltB_f c1,ltB_t c2])
   rw [bad (fun h=>by have:=h.2.1;omega)]
   exact .refl ⟨_,rfl,.refl _⟩
  by_cases c3:((c.toNat:Nat):Int)=34
  ·repeat (refine PRun.wpn rfl ?_;simp only [wp,wo_nil,wo_p,wo_g,beq_self_eq_true,onO_s,onG_t,onG_f,wanted_g,wantB_b,b_tf,pv_t,pv_int,pv_bool,put_some,bi_eql,bi_lss,bi_gtr,pevP,getP,setP,Option.map_some,or_true,Int.natCast_nonneg,Int.toNat_natCast,true_and,↓reduceIte,reduceCtorEq,hc,ltB_f c1,ltB_f c2,eqB_t c3])
   rw [bad (fun h=>by have:=h.2.2.1;omega)]
   exact .refl ⟨_,rfl,.refl _⟩
  by_cases c4:((c.toNat:Nat):Int)=92
  ·repeat (refine PRun.wpn rfl ?_;simp only [wp,wo_nil,wo_p,wo_g,beq_self_eq_true,onO_s,onG_t,wanted_g,wantB_b,pv_t,pv_int,pv_bool,put_some,bi_eql,bi_lss,bi_gtr,pevP,getP,setP,Option.map_some,or_true,Int.natCast_nonneg,Int.toNat_natCast,true_and,↓reduceIte,reduceCtorEq,hc,ltB_f c1,ltB_f c2,eqB_f c3,eqB_t c4])
   rw [bad (fun h=>by have:=h.2.2.2;omega)]
   exact .refl ⟨_,rfl,.refl _⟩
  repeat (refine PRun.wpn rfl ?_;simp only [wp,wo_nil,wo_p,wo_g,beq_self_eq_true,onO_s,onG_t,wanted_g,wantB_b,pv_t,pv_int,put_some,bi_add,bi_eql,bi_lss,bi_gtr,pevP,getP,setP,Option.map_some,Int.natCast_nonneg,Int.toNat_natCast,↓reduceIte,Bool.false_eq_true,hc,ltB_f c1,ltB_f c2,eqB_f c3,eqB_f c4])
  rw [wrap64 (by omega) (by omega)]
  refine Gh.mr (true::false::false::false::false::false::false::false::false::false::false::false::false::true::true::false::false::false::false::false::false::false::false::false::false::false::false::false::false::false::false::false::false::false::false::[]) [] 0 rfl ?_
  refine ⟨s.size - (i + 1),by omega,i + 1,rfl,by omega,rfl,rfl,fun j h hj=>?_⟩
  by_cases hji:j=i
  ·subst hji;rw [hcc];exact ⟨by omega,by omega,by omega,by omega⟩
  ·exact hall j h (by omega)
 ·rename_i hge
  have hil:i=s.size:=by omega
  subst hil
  repeat (refine PRun.wpn rfl ?_;simp only [wp,wo_nil,wo_p,onO_s,pv_bool,put_some,pevP,setP,or_true,true_and,reduceCtorEq])
  rw [yes_t ⟨by omega,by omega,fun j h=>hall j h h⟩]
  exact .refl ⟨_,rfl,.refl _⟩
end
def kt:List Int:=[-1,0,0,0,1,2,2,2,2,1,1,1,2,2,2,2,1,1,1,1,2,2]
def kidsC:List PV:=kt.map fun z=>.lit (.int .i8 z)
theorem kidsC_drop {o:Nat} (h:o < 22):kidsC.drop o = .lit (.int .i8 (kt.getD o 0))::kidsC.drop (o + 1):=by
 have hl:o < kidsC.length:=by simp [kidsC,kt];omega
 rw [List.drop_eq_getElem_cons hl]
 congr 1
 have:o < kt.length:=by simp [kt];omega
 simp [kidsC,List.getD,List.getElem?_eq_getElem this]
mutual
def Fm.formed (tk:Nat→Bool):Fm→Prop
 | .mk o nm ks=>o < 22∧0≤kt.getD o 0∧(ks.length:Int)=kt.getD o 0∧tk o=true∧(o=3→nameOK nm)∧(o ≠ 3→nm=⟨#[]⟩)∧formeds tk ks
def formeds (tk:Nat→Bool):List Fm→Prop
 | []=>True
 | k::ks=>k.formed tk∧formeds tk ks
end
theorem formeds_iff {tk:Nat→Bool}:∀ {ks:List Fm},formeds tk ks↔∀ (i:Nat) (k:Fm),ks[i]? = some k→k.formed tk
 | []=>by simp [formeds]
 | x::ks=>by
  simp only [formeds,formeds_iff (ks:=ks)]
  constructor
  ·rintro ⟨h1,h2⟩ i k hk
   cases i with
   | zero=>simp at hk;subst hk;exact h1
   | succ i=>exact h2 i k (by simpa using hk)
  ·intro h
   exact ⟨h 0 x rfl,fun i k hk=>h (i + 1) k (by simpa using hk)⟩
mutual
def Fm.opsOK:Fm→Prop
 | .mk o _ ks=>o < 256∧opsOKs ks
def opsOKs:List Fm→Prop
 | []=>True
 | k::ks=>k.opsOK∧opsOKs ks
end
theorem opsOKs_get:∀ {ks:List Fm} {i:Nat} {k:Fm},opsOKs ks→ks[i]? = some k→k.opsOK
 | [],i,k,_,h=>by simp at h
 | x::ks,0,k,ho,h=>by simp at h;subst h;exact ho.1
 | x::ks,i + 1,k,ho,h=>opsOKs_get (i:=i) ho.2 (by simpa using h)
def tkP (g:FuncId):PV:=.fn g [] []
section
variable {C:Ctx} (hm:C.P.follows .mixedOrders=true) (hC:TabOK C.P C.ng C.ts Tryz.tab)
include hm hC
theorem idxF_ok (ks:List Fm) (p:Fm→Bool) (g:FuncId) (hl:ks.length < 2 ^ 60) (hp:∀ (i:Nat) (k:Fm),ks[i]? = some k→PFun C 125 [fP k,.ref [tkP g]] (.lit (.bool (p k)))) :
  ∃ r:Int,(yesB (0≤r)=yesB (∃ (i:Nat) (k:Fm),ks[i]? = some k∧p k=true))∧PFun C 147 [.sz (fL ks) ks.length,.fn 125 [] [.ref [tkP g]]] (.lit (.int .i64 r)):=by
 by_cases hex:∃ (i:Nat) (k:Fm),ks[i]? = some k∧p k=true
 ·obtain ⟨m,⟨km,hkm,hpm⟩,hmin⟩:∃ m,(∃ k,ks[m]? = some k∧p k=true)∧∀ j,j < m→∀ k,ks[j]? = some k→p k=false:=by
   obtain ⟨i,hi⟩:=hex
   induction i using Nat.strongRecOn with
   | ind i ih=>
    by_cases h:∃ j,j < i∧∃ k,ks[j]? = some k∧p k=true
    ·obtain ⟨j,hj,hk⟩:=h;exact ih j hj hk
    ·refine ⟨i,hi,fun j hj k hk=>?_⟩
     cases hpk:p k with
     | false=>rfl
     | true=>exact absurd ⟨j,hj,k,hk,hpk⟩ h
  have hml:=(List.getElem?_eq_some_iff.1 hkm).1
  refine ⟨(m:Nat),by rw [yes_t (by omega),yes_t ⟨m,km,hkm,hpm⟩],?_⟩
  refine PFun.body hm hC (show Tryz.tab.get 147=some Tryz.c147 from rfl) rfl ?_
  simp only [Tryz.c147,startP,List.length_cons,List.length_nil,Nat.reduceAdd,Nat.reduceSub,List.replicate,List.cons_append,List.nil_append]
  repeat (refine PRun.wpn rfl ?_;simp only [wp,wo_nil,wo_p,onO_s,pv_t,pv_int,put_some,pevP,getP,setP,PW.none,reduceCtorEq,resPs,resP,tupP])
  refine PRun.gh (Gh.mr (true::true::false::false::false::false::false::true::true::false::false::false::false::false::false::false::false::false::false::[]) [] 0 rfl ?_)
  simp only [↓reduceIte,Bool.false_eq_true,renL,renP,renH,maskP]
  refine PRun.loopG (fun n t π=>∃ i:Nat,t=(.sz (fL ks) ks.length::.fn 125 [] [.ref [tkP g]]::.junk::.junk::.junk::.junk::.junk::.lit (.int .i64 (ks.length:Nat))::.lit (.int .i64 (i:Nat))::.junk::.junk::.junk::.junk::.junk::.junk::.junk::.junk::.junk::.junk::[])∧i≤m∧n=m - i∧π=⟨0,[]⟩) ?_ m _ _ ⟨0,rfl,by omega,rfl,rfl⟩
  rintro n t π ⟨i,rfl,hi,rfl,rfl⟩
  obtain ⟨k,hk⟩:∃ k,ks[i]? = some k:=⟨ks[i]'(by omega),List.getElem?_eq_getElem (by omega)⟩
  have hlt:((i:Nat):Int) < (ks.length:Nat):=by omega
  have hcut:=fL_cut hk
  have hcl:=hp i k hk
  have hmi:=hmin i
  obtain ⟨o',nm',ks'⟩:=k
  simp only [fP,fC] at hcl hcut
  by_cases him:i=m
  ·subst him
   rw [hkm] at hk;cases hk
   rw [hpm] at hcl
   repeat (refine PRun.wpn rfl ?_;simp only [wp,wo_nil,wo_p,wo_r,wo_callv,onO_s,pv_t,put_some,bi_lss,pevP,pevR,getP,setP,evsP,Option.map_some,Nat.zero_le,Int.natCast_nonneg,Int.toNat_natCast,and_self,true_and,↓reduceIte,ltB_t hlt,hlt,hcut])
   refine .refl (PFun.to hcl rfl (POps.wp ?_))
   simp only [wo_nil,setP]
   repeat (refine PRun.wpn rfl ?_;simp only [wp,wo_nil,wo_p,onO_s,pv_t,put_some,pevP,getP,setP,or_true,true_and,↓reduceIte,reduceCtorEq])
   exact .refl ⟨_,rfl,.refl _⟩
  ·rw [hmi (by omega) _ hk] at hcl
   repeat (refine PRun.wpn rfl ?_;simp only [wp,wo_nil,wo_p,wo_r,wo_callv,onO_s,pv_t,put_some,bi_lss,pevP,pevR,getP,setP,evsP,Option.map_some,Nat.zero_le,Int.natCast_nonneg,Int.toNat_natCast,and_self,true_and,↓reduceIte,ltB_t hlt,hlt,hcut])
   refine .refl (PFun.to hcl rfl (POps.wp ?_))
   simp only [wo_nil,setP]
   repeat (refine PRun.wpn rfl ?_;simp only [wp,wo_nil,wo_p,onO_s,pv_t,pv_int,put_some,bi_add,pevP,getP,setP,Option.map_some,↓reduceIte,Bool.false_eq_true])
   rw [wrap64 (by omega) (by omega)]
   refine Gh.mr (true::true::false::false::false::false::false::true::true::false::false::false::false::false::false::false::false::false::false::[]) [] 0 rfl ?_
   exact ⟨m - (i + 1),by omega,i + 1,rfl,by omega,rfl,rfl⟩
 ·refine ⟨-1,by rw [yes_f (by omega),yes_f hex],?_⟩
  refine PFun.body hm hC (show Tryz.tab.get 147=some Tryz.c147 from rfl) rfl ?_
  simp only [Tryz.c147,startP,List.length_cons,List.length_nil,Nat.reduceAdd,Nat.reduceSub,List.replicate,List.cons_append,List.nil_append]
  repeat (refine PRun.wpn rfl ?_;simp only [wp,wo_nil,wo_p,onO_s,pv_t,pv_int,put_some,pevP,getP,setP,PW.none,reduceCtorEq,resPs,resP,tupP])
  refine PRun.gh (Gh.mr (true::true::false::false::false::false::false::true::true::false::false::false::false::false::false::false::false::false::false::[]) [] 0 rfl ?_)
  simp only [↓reduceIte,Bool.false_eq_true,renL,renP,renH,maskP]
  refine PRun.loopG (fun n t π=>∃ i:Nat,t=(.sz (fL ks) ks.length::.fn 125 [] [.ref [tkP g]]::.junk::.junk::.junk::.junk::.junk::.lit (.int .i64 (ks.length:Nat))::.lit (.int .i64 (i:Nat))::.junk::.junk::.junk::.junk::.junk::.junk::.junk::.junk::.junk::.junk::[])∧i≤ks.length∧n=ks.length - i∧π=⟨0,[]⟩) ?_ ks.length _ _ ⟨0,rfl,by omega,rfl,rfl⟩
  rintro n t π ⟨i,rfl,hi,rfl,rfl⟩
  by_cases hlt:((i:Nat):Int) < (ks.length:Nat)
  ·obtain ⟨k,hk⟩:∃ k,ks[i]? = some k:=⟨ks[i]'(by omega),List.getElem?_eq_getElem (by omega)⟩
   have hcut:=fL_cut hk
   have hcl:=hp i k hk
   have hpk:p k=false:=by
    cases h:p k with
    | false=>rfl
    | true=>exact absurd ⟨i,k,hk,h⟩ hex
   rw [hpk] at hcl
   obtain ⟨o',nm',ks'⟩:=k
   simp only [fP,fC] at hcl hcut
   repeat (refine PRun.wpn rfl ?_;simp only [wp,wo_nil,wo_p,wo_r,wo_callv,onO_s,pv_t,put_some,bi_lss,pevP,pevR,getP,setP,evsP,Option.map_some,Nat.zero_le,Int.natCast_nonneg,Int.toNat_natCast,and_self,true_and,↓reduceIte,ltB_t hlt,hlt,hcut])
   refine .refl (PFun.to hcl rfl (POps.wp ?_))
   simp only [wo_nil,setP]
   repeat (refine PRun.wpn rfl ?_;simp only [wp,wo_nil,wo_p,onO_s,pv_t,pv_int,put_some,bi_add,pevP,getP,setP,Option.map_some,↓reduceIte,Bool.false_eq_true])
   rw [wrap64 (by omega) (by omega)]
   refine Gh.mr (true::true::false::false::false::false::false::true::true::false::false::false::false::false::false::false::false::false::false::[]) [] 0 rfl ?_
   exact ⟨ks.length - (i + 1),by omega,i + 1,rfl,by omega,rfl,rfl⟩
  ·repeat (refine PRun.wpn rfl ?_;simp only [wp,wo_nil,wo_p,onO_s,pv_t,pv_int,put_some,bi_lss,pevP,getP,setP,Option.map_some,or_true,true_and,↓reduceIte,reduceCtorEq,Bool.false_eq_true,ltB_f hlt])
   exact .refl ⟨_,rfl,.refl _⟩
theorem contains_ok (ks:List Fm) (p:Fm→Bool) (g:FuncId) (hl:ks.length < 2 ^ 60) (hp:∀ (i:Nat) (k:Fm),ks[i]? = some k→PFun C 125 [fP k,.ref [tkP g]] (.lit (.bool (p k)))) :
  PFun C 124 [.sz (fL ks) ks.length,.fn 125 [] [.ref [tkP g]]] (.lit (.bool (yesB (∃ (i:Nat) (k:Fm),ks[i]? = some k∧p k=true)))):=by
 obtain ⟨r,hr,h⟩:=idxF_ok hm hC ks p g hl hp
 rw [← hr]
 refine PFun.body hm hC (show Tryz.tab.get 124=some Tryz.c124 from rfl) rfl ?_
 simp only [Tryz.c124,startP,List.length_cons,List.length_nil,Nat.reduceAdd,Nat.reduceSub,List.replicate,List.cons_append,List.nil_append]
 repeat (refine PRun.wpn rfl ?_;simp only [wp,wo_nil,wo_p,wo_call,onO_s,pv_t,pv_bool,put_some,pevP,getP,setP,evsP,PW.none,Nat.zero_le,true_and,resPs,resP,tupP])
 refine .refl (PFun.to (h) rfl (POps.wp ?_))
 simp only [wo_nil,wo_p,onO_s,pv_t,pv_int,put_some,bi_geq,pevP,getP,setP,Option.map_some]
 by_cases h0:0≤r
 ·repeat (refine PRun.wpn rfl ?_;simp only [wp,or_true,true_and,reduceCtorEq,leB_t h0])
  rw [yes_t h0]
  exact .refl ⟨_,rfl,.refl _⟩
 ·repeat (refine PRun.wpn rfl ?_;simp only [wp,or_true,true_and,reduceCtorEq,leB_f h0])
  rw [yes_f h0]
  exact .refl ⟨_,rfl,.refl _⟩
theorem formed_ok (g:FuncId) (tk:Nat→Bool) (hG0:C.G 0=some kidsC) (htk:∀ o:Nat,o < 256→PFun C g [.lit (.int .u8 (o:Nat))] (.lit (.bool (tk o)))) :
  ∀ (n:Nat) (f:Fm),f.size≤n→f.ok→f.opsOK→n < 2 ^ 60→PFun C 98 [fP f,tkP g] (.lit (.bool (yesB (f.formed tk)))):=by
 intro n
 induction n with
 | zero=>intro f h;have:=f.size_pos;omega
 | succ n ih=>
  intro f hf ho hop hn
  obtain ⟨o,nm,ks⟩:=f
  simp only [Fm.size] at hf
  simp only [Fm.ok] at ho
  simp only [Fm.opsOK] at hop
  have hlen:=len_sizes ks
  have hkid:∀ (i:Nat) (k:Fm),ks[i]? = some k→PFun C 125 [fP k,.ref [tkP g]] (.lit (.bool (!(yesB (k.formed tk))))):=by
   intro i k hk
   have h:=ih k (by have:=size_kid hk;omega) (oks_get ho.2.2 hk) (opsOKs_get hop.2 hk) (by omega)
   obtain ⟨o',nm',ks'⟩:=k
   simp only [fP,fC,tkP] at h ⊢
   generalize yesB ((Fm.mk o' nm' ks').formed tk)=r at h ⊢
   refine PFun.body hm hC (show Tryz.tab.get 125=some Tryz.c125 from rfl) rfl ?_
   simp only [Tryz.c125,startP,List.length_cons,List.length_nil,Nat.reduceAdd,Nat.reduceSub,List.replicate,List.cons_append,List.nil_append]
   repeat (refine PRun.wpn rfl ?_;simp only [wp,wo_nil,wo_p,wo_r,wo_n,wo_call,onO_s,onN_s,ble_self,pv_t,pv_bool,put_some,pevP,pevR,pevN,getP,setP,evsP,boxP,look,PW.cs?,PW.push,PW.none,cut0,cutS,List.drop_zero,Option.map_some,Option.bind_some,Nat.zero_le,true_and,↓reduceIte,Nat.zero_add,resPs,resP,tupP])
   refine .refl (PFun.to (h) rfl (POps.wp ?_))
   simp only [wo_nil,wo_p,onO_s,pv_t,put_some,pevP,getP,setP]
   repeat (refine PRun.wpn rfl ?_;simp only [wp,or_true,true_and,reduceCtorEq])
   exact .refl ⟨_,rfl,.refl _⟩
  have hcon:=contains_ok hm hC ks (fun k=>!(yesB (k.formed tk))) g (by omega) hkid
  have hname:=name_ok hm hC nm (by omega)
  have htk1:=htk o hop.1
  have ec:IntKind.i64.wrap ((o:Nat):Int)=(o:Nat):=wrap64 (by omega) (by omega)
  simp only [tkP] at hcon
  refine PFun.body hm hC (show Tryz.tab.get 98=some Tryz.c98 from rfl) rfl ?_
  simp only [Tryz.c98,startP,List.length_cons,List.length_nil,Nat.reduceAdd,Nat.reduceSub,List.replicate,List.cons_append,List.nil_append,fP,fC,tkP]
  have nof:∀ {p:Prop},¬ p→((Fm.mk o nm ks).formed tk→p)→yesB ((Fm.mk o nm ks).formed tk)=false:=fun h1 h2=>yes_f fun h3=>h1 (h2 h3)
  repeat (refine PRun.wpn rfl ?_;simp only [wp,wo_nil,wo_p,wo_n,onO_s,onN_s,ble_self,ble_succ,pv_t,pv_bool,put_some,pevP,pevN,getP,setP,boxP,plainP,PW.push,PW.none,Option.map_some,↓reduceIte,Nat.reduceAdd,Nat.zero_add,resPs,resP,tupP])
  refine PDraw.stage (Nat.zero_le _) rfl ?_
  by_cases c1:(22:Int)≤(o:Nat)
  ·try dsimp only
   simp only [wanted_g,wantB_b,b_tf,onX_s,onXG_f,onXI_s,rdX_e,ltN,ltD_s,onD_s,onDG_f,wx_nil,wx_cons,wx_p,wx_r,wx_g,wd_cons,wd_g,pv_t,pv_int,pv_bool,put_some,bi_geq,pevP,pevR,getP,setP,nthO,look,PW.cs?,nthP,baseP,ROp.base,List.length_cons,List.length_nil,Option.map_some,Option.bind_some,Bool.and_true,↓reduceIte,reduceCtorEq,Nat.reduceAdd,Option.isSome_some,Nat.add_zero,Nat.zero_add,List.length_cons,List.length_nil,ec,leB_t c1]
   refine PDraw.last (Nat.zero_le _) rfl ?_
   try dsimp only
   simp only [wanted_g,wantB_b,b_tf,onX_s,onXG_f,onXI_s,wx_nil,wx_cons,wx_p,wx_g,pv_t,pv_bool,put_some,pevP,getP,setP,nthO]
   repeat (refine PRun.wpn rfl ?_;simp only [wp,wo_nil,wo_p,onO_s,pv_t,pv_bool,put_some,pevP,getP,setP,or_true,true_and,↓reduceIte,reduceCtorEq])
   rw [nof (p:=o < 22) (by omega) (fun h=>h.1)]
   exact .refl ⟨_,rfl,.refl _⟩
  have hd:=kidsC_drop (show o < 22 by omega)
  have c0:((o:Nat):Int) < ((22:Nat):Int):=by omega
  have hg:∀ e,Opd.pv C.G e (.g 0) = .ref kidsC:=fun e=>by simp only [Opd.pv,hG0]
  have hk1 : -128≤kt.getD o 0∧kt.getD o 0≤127:=by
   have:∀ o:Fin 22,-128≤kt.getD o.1 0∧kt.getD o.1 0≤127:=by decide
   exact this ⟨o,by omega⟩
  generalize hkt:kt.getD o 0=kd at hd hk1
  have ec2:IntKind.i64.wrap kd=kd:=wrap64 (by omega) (by omega)
  have fm:(Fm.mk o nm ks).formed tk=(o < 22∧0≤kd∧(ks.length:Int)=kd∧tk o=true∧(o=3→nameOK nm)∧(o ≠ 3→nm=⟨#[]⟩)∧formeds tk ks):=by simp only [Fm.formed,hkt]
  by_cases c2:kd < 0
  ·try dsimp only
   simp only [beq_self_eq_true,wanted_g,wantB_b,b_tf,onX_s,onXG_t,onXG_f,onXI_s,rdX_e,ltN,ltD_s,onD_s,onDG_f,wx_nil,wx_cons,wx_p,wx_r,wx_g,wd_cons,wd_g,pv_t,pv_int,pv_bool,put_some,bi_lss,bi_geq,pevP,pevR,getP,setP,nthO,look,PW.cs?,nthP,baseP,ROp.base,List.length_cons,List.length_nil,Option.map_some,Option.bind_some,Nat.mul_one,Int.natCast_nonneg,Int.toNat_natCast,and_self,Bool.and_true,↓reduceIte,reduceCtorEq,Nat.reduceAdd,Option.isSome_some,Nat.add_zero,Nat.zero_add,List.length_cons,List.length_nil,ec,leB_f c1,hg,c0,hd,ltB_t c2]
   refine PDraw.last (Nat.zero_le _) rfl ?_
   try dsimp only
   simp only [wanted_g,wantB_b,b_tf,onX_s,onXG_f,onXI_s,wx_nil,wx_cons,wx_p,wx_g,pv_t,pv_bool,put_some,pevP,getP,setP,nthO]
   repeat (refine PRun.wpn rfl ?_;simp only [wp,wo_nil,wo_p,onO_s,pv_t,pv_bool,put_some,pevP,getP,setP,or_true,true_and,↓reduceIte,reduceCtorEq])
   rw [nof (p:=0≤kd) (by omega) (fun h=>by rw [fm] at h;exact h.2.1)]
   exact .refl ⟨_,rfl,.refl _⟩
  by_cases c3:((ks.length:Nat):Int)=kd
  ·cases c4:tk o with
   | false=>
    rw [c4] at htk1
    try dsimp only
    simp only [beq_self_eq_true,wanted_g,wantB_b,onX_s,onXG_t,onXI_s,rdX_e,ltN,ltD_s,onD_s,onDG_t,wx_nil,wx_cons,wx_p,wx_r,wx_g,wd_cons,wd_e,wd_g,pv_t,pv_int,put_some,bi_neq,bi_lss,bi_geq,pevP,pevR,getP,setP,nthO,look,PW.cs?,nthP,baseP,ROp.base,List.length_cons,List.length_nil,Option.map_some,Option.bind_some,Nat.mul_one,Int.natCast_nonneg,Int.toNat_natCast,and_self,Bool.and_true,↓reduceIte,reduceCtorEq,Nat.reduceAdd,Option.isSome_some,Nat.add_zero,Nat.zero_add,List.length_cons,List.length_nil,ec,ec2,leB_f c1,hg,c0,hd,ltB_f c2,neB_f c3]
    refine PDE.pureV rfl htk1 rfl ?_
    refine PDraw.last (Nat.zero_le _) rfl ?_
    try dsimp only
    simp only [beq_self_eq_true,wanted_g,wantB_b,onX_s,onXG_t,onXI_s,wx_nil,wx_cons,wx_p,wx_g,pv_t,put_some,pevP,getP,setP,nthO,Bool.not_false]
    repeat (refine PRun.wpn rfl ?_;simp only [wp,wo_nil,wo_p,onO_s,pv_t,pv_bool,put_some,pevP,getP,setP,or_true,true_and,↓reduceIte,reduceCtorEq])
    rw [nof (p:=tk o=true) (by rw [c4];simp) (fun h=>by rw [fm] at h;exact h.2.2.2.1)]
    exact .refl ⟨_,rfl,.refl _⟩
   | true=>
    rw [c4] at htk1
    try dsimp only
    simp only [beq_self_eq_true,wanted_g,wantB_b,onX_s,onXG_t,onXI_s,rdX_e,ltN,ltD_s,onD_s,onDG_t,wx_nil,wx_cons,wx_p,wx_r,wx_g,wd_cons,wd_e,wd_g,pv_t,pv_int,put_some,bi_neq,bi_lss,bi_geq,pevP,pevR,getP,setP,nthO,look,PW.cs?,nthP,baseP,ROp.base,List.length_cons,List.length_nil,Option.map_some,Option.bind_some,Nat.mul_one,Int.natCast_nonneg,Int.toNat_natCast,and_self,Bool.and_true,↓reduceIte,reduceCtorEq,Nat.reduceAdd,Option.isSome_some,Nat.add_zero,Nat.zero_add,List.length_cons,List.length_nil,ec,ec2,leB_f c1,hg,c0,hd,ltB_f c2,neB_f c3]
    refine PDE.pureV rfl htk1 rfl ?_
    refine PDraw.last (Nat.zero_le _) rfl ?_
    try dsimp only
    simp only [beq_self_eq_true,wanted_g,wantB_b,onX_s,onXG_t,onXI_s,wx_nil,wx_cons,wx_p,wx_g,pv_t,put_some,pevP,getP,setP,nthO,Bool.not_true]
    have hcon2:(¬ ∃ (i:Nat) (k:Fm),ks[i]? = some k∧(!(yesB (k.formed tk)))=true)↔formeds tk ks:=by
     rw [formeds_iff]
     constructor
     ·intro h i k hk
      apply Classical.byContradiction
      intro hf'
      exact h ⟨i,k,hk,by rw [yes_f hf'];rfl⟩
     ·rintro h ⟨i,k,hk,hb⟩
      rw [yes_t (h i k hk)] at hb;cases hb
    have fin:∀ {q:Prop},(q↔formeds tk ks)→(o=3→nameOK nm)→(o ≠ 3→nm=⟨#[]⟩)→yesB ((Fm.mk o nm ks).formed tk)=yesB q:=by
     intro q hq h1 h2
     have:(Fm.mk o nm ks).formed tk↔q:=by
      rw [fm,hq]
      exact ⟨fun h=>h.2.2.2.2.2.2,fun h=>⟨by omega,by omega,c3,c4,h1,h2,h⟩⟩
     by_cases h:q
     ·rw [yes_t h,yes_t (this.2 h)]
     ·rw [yes_f h,yes_f (fun h'=>h (this.1 h'))]
    have notB:∀ {q:Prop},(!(yesB q))=yesB (¬ q):=by
     intro q
     by_cases h:q
     ·rw [yes_t h,yes_f (fun h'=>h' h)];rfl
     ·rw [yes_f h,yes_t h];rfl
    by_cases c5:((o:Nat):Int)=3
    ·by_cases c6:nameOK nm
     ·rw [yes_t c6] at hname
      repeat (refine PRun.wpn rfl ?_;simp only [wp,wo_p,wo_r,wo_call,wo_g,beq_self_eq_true,onO_s,onG_t,wanted_g,wantB_b,pv_t,pv_int,put_some,bi_eql,pevP,pevR,getP,setP,evsP,look,PW.cs?,nthP,Option.map_some,Option.bind_some,Nat.zero_le,true_and,↓reduceIte,reduceCtorEq,Bool.false_eq_true,Nat.add_zero,Nat.zero_add,eqB_t c5])
      refine .refl (PFun.to (hname) rfl (POps.wp ?_))
      simp only [wo_nil,wo_p,wo_r,wo_g,beq_self_eq_true,onO_s,onG_t,onG_f,wanted_g,wantB_b,b_ft,pv_t,pv_int,pv_bool,put_some,bi_neq,pevP,pevR,getP,setP,look,PW.cs?,nthP,Option.map_some,Option.bind_some,↓reduceIte,reduceCtorEq,Nat.add_zero,Bool.not_true,neB_f c5]
      repeat (refine PRun.wpn rfl ?_;simp only [wp,wo_p,wo_r,wo_call,onO_s,pv_t,put_some,pevP,pevR,getP,setP,evsP,look,PW.cs?,nthP,Option.bind_some,Nat.zero_le,true_and,↓reduceIte,reduceCtorEq,Bool.false_eq_true,Nat.zero_add])
      refine Gh.frz 1 rfl rfl rfl ?_
      simp only [frzP_u,List.drop_zero,↓reduceIte,reduceCtorEq,frzL,frzP,frzO,frzH]
      refine .refl (PFun.to hcon rfl (POps.wp ?_))
      simp only [wo_nil,wo_p,onO_s,pv_t,put_some,pevP,getP,setP]
      repeat (refine PRun.wpn rfl ?_;simp only [wp,or_true,true_and,reduceCtorEq])
      rw [fin hcon2 (fun _=>c6) (fun h=>absurd (by omega) h),notB]
      exact .refl ⟨_,rfl,.refl _⟩
     ·rw [yes_f c6] at hname
      repeat (refine PRun.wpn rfl ?_;simp only [wp,wo_p,wo_r,wo_call,wo_g,beq_self_eq_true,onO_s,onG_t,wanted_g,wantB_b,pv_t,pv_int,put_some,bi_eql,pevP,pevR,getP,setP,evsP,look,PW.cs?,nthP,Option.map_some,Option.bind_some,Nat.zero_le,true_and,↓reduceIte,reduceCtorEq,Bool.false_eq_true,Nat.add_zero,Nat.zero_add,eqB_t c5])
      refine .refl (PFun.to (hname) rfl (POps.wp ?_))
      simp only [wo_nil,wo_p,wo_g,beq_self_eq_true,onO_s,onG_t,onG_f,wanted_g,wantB_b,wantB_u,b_tf,pv_t,pv_bool,put_some,pevP,getP,setP,Bool.not_false]
      repeat (refine PRun.wpn rfl ?_;simp only [wp,wo_nil,wo_p,onO_s,pv_t,pv_bool,put_some,pevP,getP,setP,or_true,true_and,↓reduceIte,reduceCtorEq])
      rw [nof (p:=(o=3→nameOK nm)) (fun h=>c6 (h (by omega))) (fun h=>by rw [fm] at h;exact h.2.2.2.2.1)]
      exact .refl ⟨_,rfl,.refl _⟩
    ·by_cases c6:nm=⟨#[]⟩
     ·repeat (refine PRun.wpn rfl ?_;simp only [wp,wo_nil,wo_p,wo_r,wo_call,wo_g,beq_self_eq_true,onO_s,onG_t,onG_f,wanted_g,wantB_b,b_ft,pv_t,pv_int,pv_bool,pv_str,put_some,bi_eql,bi_neq,bi_neqS,pevP,pevR,getP,setP,evsP,look,PW.cs?,nthP,Option.map_some,Option.bind_some,Nat.zero_le,true_and,↓reduceIte,reduceCtorEq,Bool.false_eq_true,Nat.add_zero,Nat.zero_add,eqB_f c5,neB_t c5,neS_f c6])
      refine Gh.frz 1 rfl rfl rfl ?_
      simp only [frzP_u,List.drop_zero,↓reduceIte,reduceCtorEq,frzL,frzP,frzO,frzH]
      refine .refl (PFun.to hcon rfl (POps.wp ?_))
      simp only [wo_nil,wo_p,onO_s,pv_t,put_some,pevP,getP,setP]
      repeat (refine PRun.wpn rfl ?_;simp only [wp,or_true,true_and,reduceCtorEq])
      rw [fin hcon2 (fun h=>absurd (by omega) c5) (fun _=>c6),notB]
      exact .refl ⟨_,rfl,.refl _⟩
     ·repeat (refine PRun.wpn rfl ?_;simp only [wp,wo_nil,wo_p,wo_r,wo_g,beq_self_eq_true,onO_s,onG_t,onG_f,wanted_g,wantB_b,b_ft,pv_t,pv_int,pv_bool,pv_str,put_some,bi_eql,bi_neq,bi_neqS,pevP,pevR,getP,setP,look,PW.cs?,nthP,Option.map_some,Option.bind_some,or_true,true_and,↓reduceIte,reduceCtorEq,Bool.false_eq_true,Nat.add_zero,Nat.zero_add,eqB_f c5,neB_t c5,neS_t c6])
      rw [nof (p:=(o ≠ 3→nm=⟨#[]⟩)) (fun h=>c6 (h (by omega))) (fun h=>by rw [fm] at h;exact h.2.2.2.2.2.1)]
      exact .refl ⟨_,rfl,.refl _⟩
  ·try dsimp only
   simp only [beq_self_eq_true,wanted_g,wantB_b,b_tf,onX_s,onXG_t,onXG_f,onXI_s,rdX_e,ltN,ltD_s,onD_s,onDG_f,wx_nil,wx_cons,wx_p,wx_r,wx_g,wd_cons,wd_g,pv_t,pv_int,put_some,bi_neq,bi_lss,bi_geq,pevP,pevR,getP,setP,nthO,look,PW.cs?,nthP,baseP,ROp.base,List.length_cons,List.length_nil,Option.map_some,Option.bind_some,Nat.mul_one,Int.natCast_nonneg,Int.toNat_natCast,and_self,Bool.and_true,↓reduceIte,reduceCtorEq,Nat.reduceAdd,Option.isSome_some,Nat.add_zero,Nat.zero_add,List.length_cons,List.length_nil,ec,ec2,leB_f c1,hg,c0,hd,ltB_f c2,neB_t c3]
   refine PDraw.last (Nat.zero_le _) rfl ?_
   try dsimp only
   simp only [wanted_g,wantB_b,b_tf,onX_s,onXG_f,onXI_s,wx_nil,wx_cons,wx_p,wx_g,pv_t,pv_bool,put_some,pevP,getP,setP,nthO]
   repeat (refine PRun.wpn rfl ?_;simp only [wp,wo_nil,wo_p,onO_s,pv_t,pv_bool,put_some,pevP,getP,setP,or_true,true_and,↓reduceIte,reduceCtorEq])
   rw [nof (p:=(ks.length:Int)=kd) c3 (fun h=>by rw [fm] at h;exact h.2.2.1)]
   exact .refl ⟨_,rfl,.refl _⟩
end
end Go.Proofs.YtnpoloachkcadaaGreatDoor.Ai
namespace Go.Proofs.YtnpoloachkcadaaGreatDoor.Ai
open Go
set_option linter.unusedVariables false
set_option linter.unusedSectionVars false
set_option maxRecDepth 10000
noncomputable def rightE (tk:Nat→Bool) (f:Fm):Int:=if yesB (f.formed tk)=true then (if yesB (1000 < f.size∨100 < f.depth)=true then 31 else 0) else 30
noncomputable def futB (o:Nat):Bool:=yesB (o < 16)
noncomputable def pastB (o:Nat):Bool:=yesB (o < 9∨16≤o)
section
variable {C:Ctx} (hm:C.P.follows .mixedOrders=true) (hC:TabOK C.P C.ng C.ts Tryz.tab)
include hm hC
theorem future_ok (o:Nat):PFun C 59 [.lit (.int .u8 (o:Nat))] (.lit (.bool (futB o))):=by
 refine PFun.body hm hC (show Tryz.tab.get 59=some Tryz.c59 from rfl) rfl ?_
 simp only [Tryz.c59,startP,List.length_cons,List.length_nil,Nat.reduceAdd,Nat.reduceSub,List.replicate,List.cons_append,List.nil_append]
 by_cases h:((o:Nat):Int) < 16
 ·repeat (refine PRun.wpn rfl ?_;simp only [wp,wo_nil,wo_p,onO_s,pv_t,pv_int,pv_bool,put_some,bi_lss,pevP,getP,setP,PW.none,Option.map_some,or_true,true_and,reduceCtorEq,resPs,resP,tupP,ltB_t h])
  rw [show futB o=true from yes_t (by omega)]
  exact .refl ⟨_,rfl,.refl _⟩
 ·repeat (refine PRun.wpn rfl ?_;simp only [wp,wo_nil,wo_p,onO_s,pv_t,pv_int,pv_bool,put_some,bi_lss,pevP,getP,setP,PW.none,Option.map_some,or_true,true_and,reduceCtorEq,resPs,resP,tupP,ltB_f h])
  rw [show futB o=false from yes_f (by omega)]
  exact .refl ⟨_,rfl,.refl _⟩
theorem big_ok (f:Fm) (hn:f.size < 2 ^ 60):PFun C 107 [fP f] (.lit (.bool (yesB (1000 < f.size∨100 < f.depth)))):=by
 have h1:=size_ok hm hC f.size f (Nat.le_refl _) hn
 have h2:=depth_ok hm hC f.size f (Nat.le_refl _) hn
 obtain ⟨o,nm,ks⟩:=f
 simp only [fP,fC] at h1 h2
 generalize (Fm.mk o nm ks).size=s at h1 h2
 generalize (Fm.mk o nm ks).depth=d at h2
 refine PFun.body hm hC (show Tryz.tab.get 107=some Tryz.c107 from rfl) rfl ?_
 simp only [Tryz.c107,startP,List.length_cons,List.length_nil,Nat.reduceAdd,Nat.reduceSub,List.replicate,List.cons_append,List.nil_append,fP,fC]
 repeat (refine PRun.wpn rfl ?_;simp only [wp,wo_nil,wo_p,wo_r,wo_n,wo_call,onO_s,onN_s,ble_self,pv_t,pv_bool,put_some,pevP,pevR,pevN,getP,setP,evsP,boxP,look,PW.cs?,PW.push,PW.none,cut0,cutS,List.drop_zero,Option.map_some,Option.bind_some,Nat.zero_le,true_and,↓reduceIte,Nat.zero_add,resPs,resP,tupP])
 refine .refl (PFun.to (h1) rfl (POps.wp ?_))
 simp only [wo_p,wo_g,onO_s,wanted_g,wantB_b,pv_t,pv_int,put_some,bi_gtr,pevP,getP,setP,Option.map_some]
 by_cases c1:(1000:Int) < (s:Nat)
 ·simp only [wo_nil,wo_p,wo_g,onO_s,onG_f,wanted_g,wantB_b,b_tf,pv_t,pv_bool,put_some,pevP,getP,setP,ltB_t c1]
  repeat (refine PRun.wpn rfl ?_;simp only [wp,or_true,true_and,reduceCtorEq])
  rw [yes_t (.inl (by omega))]
  exact .refl ⟨_,rfl,.refl _⟩
 ·simp only [wo_r,wo_call,wo_g,beq_self_eq_true,onO_s,onG_t,wanted_g,wantB_b,pv_t,put_some,pevR,getP,setP,evsP,look,PW.cs?,cut0,cutS,List.drop_zero,Option.map_some,Option.bind_some,Nat.zero_le,true_and,↓reduceIte,ltB_f c1]
  refine .refl (PFun.to (h2) rfl (POps.wp ?_))
  simp only [wo_nil,wo_p,wo_g,beq_self_eq_true,onO_s,onG_t,wanted_g,wantB_b,pv_t,pv_int,put_some,bi_gtr,pevP,getP,setP,Option.map_some]
  by_cases c2:(100:Int) < (d:Nat)
  ·simp only [ltB_t c2]
   repeat (refine PRun.wpn rfl ?_;simp only [wp,or_true,true_and,reduceCtorEq])
   rw [yes_t (.inr (by omega))]
   exact .refl ⟨_,rfl,.refl _⟩
  ·simp only [ltB_f c2]
   repeat (refine PRun.wpn rfl ?_;simp only [wp,or_true,true_and,reduceCtorEq])
   rw [yes_f (by omega)]
   exact .refl ⟨_,rfl,.refl _⟩
theorem right58_ok (g:FuncId) (tk:Nat→Bool) (hG0:C.G 0=some kidsC) (htk:∀ o:Nat,o < 256→PFun C g [.lit (.int .u8 (o:Nat))] (.lit (.bool (tk o)))) (f:Fm) (ho:f.ok) (hop:f.opsOK) (hn:f.size < 2 ^ 60) :
  PFun C 58 [fP f,tkP g] (.lit (.int .i64 (rightE tk f))):=by
 have h1:=formed_ok hm hC g tk hG0 htk f.size f (Nat.le_refl _) ho hop hn
 have h2:=big_ok hm hC f hn
 unfold rightE
 obtain ⟨o,nm,ks⟩:=f
 simp only [fP,fC,tkP] at h1 h2
 generalize yesB ((Fm.mk o nm ks).formed tk)=fo at h1
 generalize yesB (1000 < (Fm.mk o nm ks).size∨100 < (Fm.mk o nm ks).depth)=bg at h2
 refine PFun.body hm hC (show Tryz.tab.get 58=some Tryz.c58 from rfl) rfl ?_
 simp only [Tryz.c58,startP,List.length_cons,List.length_nil,Nat.reduceAdd,Nat.reduceSub,List.replicate,List.cons_append,List.nil_append,fP,fC,tkP]
 repeat (refine PRun.wpn rfl ?_;simp only [wp,wo_nil,wo_p,wo_r,wo_n,wo_call,onO_s,onN_s,ble_self,pv_t,pv_int,put_some,pevP,pevR,pevN,getP,setP,evsP,boxP,look,PW.cs?,PW.push,PW.none,cut0,cutS,List.drop_zero,Option.map_some,Option.bind_some,Nat.zero_le,true_and,↓reduceIte,reduceCtorEq,Nat.zero_add,resPs,resP,tupP])
 refine .refl (PFun.to (h1) rfl (POps.wp ?_))
 simp only [wo_nil,wo_p,onO_s,pv_t,put_some,pevP,getP,setP]
 cases fo with
 | false=>
  repeat (refine PRun.wpn rfl ?_;simp only [wp,wo_nil,wo_p,onO_s,pv_t,pv_int,put_some,pevP,getP,setP,or_true,true_and,↓reduceIte,reduceCtorEq,Bool.false_eq_true,Bool.not_false])
  exact .refl ⟨_,rfl,.refl _⟩
 | true=>
  repeat (refine PRun.wpn rfl ?_;simp only [wp,wo_r,wo_call,onO_s,pv_t,put_some,pevR,getP,setP,evsP,look,PW.cs?,cut0,cutS,List.drop_zero,Option.map_some,Option.bind_some,Nat.zero_le,true_and,↓reduceIte,Bool.false_eq_true,Bool.not_true])
  refine .refl (PFun.to (h2) rfl (POps.wp ?_))
  simp only [wo_nil,wo_p,onO_s,pv_t,put_some,pevP,getP,setP]
  cases bg with
  | true=>
   repeat (refine PRun.wpn rfl ?_;simp only [wp,wo_nil,wo_p,onO_s,pv_t,pv_int,put_some,pevP,getP,setP,or_true,true_and,↓reduceIte,reduceCtorEq])
   exact .refl ⟨_,rfl,.refl _⟩
  | false=>
   repeat (refine PRun.wpn rfl ?_;simp only [wp,wo_nil,wo_p,onO_s,pv_t,pv_int,put_some,pevP,getP,setP,or_true,true_and,↓reduceIte,reduceCtorEq,Bool.false_eq_true])
   exact .refl ⟨_,rfl,.refl _⟩
theorem right_ok (hG0:C.G 0=some kidsC) (f:Fm) (ho:f.ok) (hop:f.opsOK) (hn:f.size < 2 ^ 60):PFun C 17 [fP f] (.lit (.int .i64 (rightE futB f))):=by
 have h1:=right58_ok hm hC 59 futB hG0 (fun o _=>future_ok hm hC o) f ho hop hn
 generalize rightE futB f=r at h1
 obtain ⟨o,nm,ks⟩:=f
 simp only [fP,fC,tkP] at h1
 refine PFun.body hm hC (show Tryz.tab.get 17=some Tryz.c17 from rfl) rfl ?_
 simp only [Tryz.c17,startP,List.length_cons,List.length_nil,Nat.reduceAdd,Nat.reduceSub,List.replicate,List.cons_append,List.nil_append,fP,fC]
 repeat (refine PRun.wpn rfl ?_;simp only [wp,wo_nil,wo_p,wo_r,wo_n,wo_call,onO_s,onN_s,ble_self,pv_t,pv_int,put_some,pv_f,pevP,pevR,pevN,getP,setP,evsP,boxP,look,PW.cs?,PW.push,PW.none,cut0,cutS,List.drop_zero,Option.map_some,Option.bind_some,Nat.zero_le,true_and,↓reduceIte,Nat.zero_add,resPs,resP,tupP])
 refine .refl (PFun.to (h1) rfl (POps.wp ?_))
 simp only [wo_nil,wo_p,onO_s,pv_t,put_some,pevP,getP,setP]
 repeat (refine PRun.wpn rfl ?_;simp only [wp,or_true,true_and,reduceCtorEq])
 exact .refl ⟨_,rfl,.refl _⟩
end
def muchN:Nat→List Fm→Nat
 | n,[]=>n
 | n,k::ks=>if n≤1048576 then muchN (n + k.wt 0) ks else n
theorem muchN_app:∀ (a b:List Fm) (n:Nat),muchN n (a++b)=muchN (muchN n a) b
 | [],b,n=>rfl
 | k::a,b,n=>by
  simp only [List.cons_append,muchN]
  split
  ·exact muchN_app a b _
  ·rename_i h
   cases b with
   | nil=>simp [muchN]
   | cons x b=>simp [muchN,h]
theorem muchN_stop:∀ (b:List Fm) (n:Nat),¬ n≤1048576→muchN n b=n
 | [],n,_=>rfl
 | k::b,n,h=>by simp [muchN,h]
theorem muchN_take {ks:List Fm} {i:Nat} {k:Fm} (n:Nat) (h:ks[i]? = some k) (hn:muchN n (ks.take i)≤1048576):muchN n (ks.take (i + 1))=muchN n (ks.take i) + k.wt 0:=by
 rw [List.take_add_one,h,muchN_app];simp [muchN,hn]
section
variable {C:Ctx} (hm:C.P.follows .mixedOrders=true) (hC:TabOK C.P C.ng C.ts Tryz.tab)
include hm hC
theorem much_ok (ks:List Fm) (ho:oks ks) (hlen:ks.length < 2 ^ 60):PFun C 15 [.sl (fL ks) ks.length] (.lit (.bool (yesB (1048576 < muchN 0 ks)))):=by
 refine PFun.body hm hC (show Tryz.tab.get 15=some Tryz.c15 from rfl) rfl ?_
 simp only [Tryz.c15,startP,List.length_cons,List.length_nil,Nat.reduceAdd,Nat.reduceSub,List.replicate,List.cons_append,List.nil_append]
 repeat (refine PRun.wpn rfl ?_;simp only [wp,wo_nil,wo_p,onO_s,pv_int,pv_bool,put_some,pevP,setP,PW.none,reduceCtorEq,resPs,resP,tupP])
 refine PRun.gh (Gh.mr (true::false::false::true::true::false::false::false::false::false::false::false::false::false::false::false::false::false::false::false::false::false::false::false::[]) [] 0 rfl ?_)
 simp only [↓reduceIte,Bool.false_eq_true,renL,renP,renH,maskP]
 refine PRun.loopG (fun m t π=>∃ i:Nat,t=(.sl (fL ks) ks.length::.junk::.junk::.lit (.int .i64 (muchN 0 (ks.take i):Nat))::.lit (.int .i64 (i:Nat))::.junk::.junk::.junk::.junk::.junk::.junk::.junk::.junk::.junk::.junk::.junk::.junk::.junk::.junk::.junk::.junk::.junk::.junk::.junk::[])∧i≤ks.length∧m=ks.length - i∧π=⟨0,[]⟩∧muchN 0 (ks.take i)≤2 ^ 61) ?_ ks.length _ _ ⟨0,by simp [muchN],by omega,rfl,rfl,by simp [muchN]⟩
 rintro m t π ⟨i,rfl,hi,rfl,rfl,hb⟩
 by_cases hlt:(i:Int) < (ks.length:Nat)
 ·by_cases hle:((muchN 0 (ks.take i):Nat):Int)≤1048576
  ·obtain ⟨k,hk⟩:∃ k,ks[i]? = some k:=⟨ks[i]'(by omega),List.getElem?_eq_getElem (by omega)⟩
   have h2:=muchN_take 0 hk (by omega)
   have hcut:=fL_cut hk
   have hrec:=weight_ok hm hC k (oks_get ho hk)
   have h4:=wt_le k 0 (oks_get ho hk) (by omega)
   obtain ⟨o',nm',ks'⟩:=k
   simp only [fP,fC] at hrec hcut
   repeat (refine PRun.wpn rfl ?_;simp only [wp,wo_nil,wo_p,wo_r,wo_call,wo_g,beq_self_eq_true,onO_s,onG_t,wanted_g,wantB_b,pv_t,pv_int,put_some,bi_lss,bi_leq,pevP,pevR,getP,setP,evsP,Option.map_some,Nat.zero_le,Int.natCast_nonneg,Int.toNat_natCast,and_self,true_and,↓reduceIte,ltB_t hlt,leB_t hle,hlt,hcut])
   refine .refl (PFun.to (hrec) rfl (POps.wp ?_))
   simp only [wo_nil,wo_p,onO_s,pv_t,put_some,bi_add,pevP,getP,setP,Option.map_some]
   repeat (refine PRun.wpn rfl ?_;simp only [wp,wo_nil,wo_p,onO_s,pv_t,pv_int,put_some,bi_add,pevP,getP,setP,Option.map_some])
   have e:((muchN 0 (ks.take i):Nat):Int) + ((Fm.mk o' nm' ks').wt 0:Nat)=((muchN 0 (ks.take (i + 1)):Nat):Int):=by rw [h2];omega
   rw [wrap64 (by omega) (by omega),wrap64 (by omega) (by omega),e]
   refine Gh.mr (true::false::false::true::true::false::false::false::false::false::false::false::false::false::false::false::false::false::false::false::false::false::false::false::[]) [] 0 rfl ?_
   exact ⟨ks.length - (i + 1),by omega,i + 1,rfl,by omega,rfl,rfl,by omega⟩
  ·repeat (refine PRun.wpn rfl ?_;simp only [wp,wo_nil,wo_p,wo_g,beq_self_eq_true,onO_s,onG_t,wanted_g,wantB_b,pv_t,pv_int,put_some,bi_lss,bi_leq,bi_gtr,pevP,getP,setP,Option.map_some,or_true,true_and,↓reduceIte,reduceCtorEq,Bool.false_eq_true,ltB_t hlt,leB_f hle,ltB_t (show (1048576:Int) < (muchN 0 (ks.take i):Nat) by omega)])
   have:muchN 0 ks=muchN 0 (ks.take i):=by
    have h:=muchN_app (ks.take i) (ks.drop i) 0
    rw [List.take_append_drop] at h
    rw [h,muchN_stop _ _ (by omega)]
   rw [yes_t (by omega)]
   exact .refl ⟨_,rfl,.refl _⟩
 ·have hil:i=ks.length:=by omega
  subst hil
  rw [List.take_length] at hb
  by_cases hle:(1048576:Int) < (muchN 0 ks:Nat)
  ·rw [yes_t (by omega)]
   have e:muchN 0 (ks.take ks.length)=muchN 0 ks:=by rw [List.take_length]
   rw [e]
   repeat (refine PRun.wpn rfl ?_;simp only [wp,wo_nil,wo_p,wo_g,onO_s,onG_f,wanted_g,wantB_b,b_ft,pv_t,pv_int,pv_bool,put_some,bi_lss,bi_gtr,pevP,getP,setP,Option.map_some,or_true,true_and,↓reduceIte,reduceCtorEq,Bool.false_eq_true,ltB_f hlt,ltB_t hle])
   exact .refl ⟨_,rfl,.refl _⟩
  ·rw [yes_f (by omega)]
   have e:muchN 0 (ks.take ks.length)=muchN 0 ks:=by rw [List.take_length]
   rw [e]
   repeat (refine PRun.wpn rfl ?_;simp only [wp,wo_nil,wo_p,wo_g,onO_s,onG_f,wanted_g,wantB_b,b_ft,pv_t,pv_int,pv_bool,put_some,bi_lss,bi_gtr,pevP,getP,setP,Option.map_some,or_true,true_and,↓reduceIte,reduceCtorEq,Bool.false_eq_true,ltB_f hlt,ltB_f hle])
   exact .refl ⟨_,rfl,.refl _⟩
end
end Go.Proofs.YtnpoloachkcadaaGreatDoor.Ai
namespace Go.Proofs.YtnpoloachkcadaaGreatDoor.Ai
open Go
set_option linter.unusedVariables false
set_option linter.unusedSectionVars false
set_option maxRecDepth 10000
noncomputable def cmpZ (a b:Int):Int:=if ltB a b=true then -1 else if ltB b a=true then 1 else 0
noncomputable def orZ (a b:Int):Int:=if neB a 0=true then a else b
def cmpS (a b:ByteArray):Int:=Go.Lib.compareBytes a.data.toList b.data.toList
mutual
noncomputable def Fm.cmp:Fm→Fm→Int
 | .mk o n ks,.mk o' n' ks'=>orZ (orZ (cmpZ (o:Nat) (o':Nat)) (orZ (cmpS n n') (cmpZ (ks.length:Nat) (ks'.length:Nat)))) (cmps ks ks')
noncomputable def cmps:List Fm→List Fm→Int
 | k::ks,m::ms=>orZ (k.cmp m) (cmps ks ms)
 | _,_=>0
end
section
variable {C:Ctx} (hm:C.P.follows .mixedOrders=true) (hC:TabOK C.P C.ng C.ts Tryz.tab)
include hm hC
end
end Go.Proofs.YtnpoloachkcadaaGreatDoor.Ai
namespace Go.Proofs.YtnpoloachkcadaaGreatDoor.Ai
open Go
set_option linter.unusedVariables false
set_option linter.unusedSectionVars false
set_option maxRecDepth 10000
section
variable {C:Ctx} (hm:C.P.follows .mixedOrders=true) (hC:TabOK C.P C.ng C.ts Tryz.tab)
include hm hC
end
end Go.Proofs.YtnpoloachkcadaaGreatDoor.Ai
namespace Go.Proofs.YtnpoloachkcadaaGreatDoor.Ai
open Go
set_option linter.unusedVariables false
set_option linter.unusedSectionVars false
set_option maxRecDepth 10000
def dotS:ByteArray:=⟨#[46]⟩
noncomputable def belowS (itS:Nat→ByteArray) (p:ByteArray) (i:Nat):ByteArray:=if eqS p ⟨#[]⟩=true then itS i else p++dotS++itS i
mutual
noncomputable def Fm.visits (itS:Nat→ByteArray) (p:ByteArray):Fm→List (ByteArray × Fm)
 | .mk o n ks=>(p,.mk o n ks)::visitss itS p 0 ks
noncomputable def visitss (itS:Nat→ByteArray) (p:ByteArray) (i:Nat):List Fm→List (ByteArray × Fm)
 | []=>[]
 | k::ks=>k.visits itS (belowS itS p i)++visitss itS p (i + 1) ks
end
mutual
theorem visits_len (itS:Nat→ByteArray):∀ (f:Fm) (p:ByteArray),(f.visits itS p).length=f.size
 | .mk o n ks,p=>by simp only [Fm.visits,List.length_cons,visitss_len itS ks,Fm.size];omega
theorem visitss_len (itS:Nat→ByteArray):∀ (ks:List Fm) (p:ByteArray) (i:Nat),(visitss itS p i ks).length=sizes ks
 | [],p,i=>rfl
 | k::ks,p,i=>by simp only [visitss,List.length_append,visits_len itS k,visitss_len itS ks,sizes]
end
def PW.wf (π:PW):Prop:=∀ j o,look π.heap j=some o→j < π.next∧∀ cs ty esz ex ret al,o = .cells cs ty esz ex ret al→∀ k∈al,k < π.next
theorem PY.mono {C:Ctx} {b l:Nat} {args:List PV} {π:PW} {A B:PV→PW→Prop} (h:PY C b l args π A) (k:∀ r π,A r π→B r π):PY C b l args π B:=by
 intro F I η σ vargs a hG hs hr ha
 obtain ⟨v,σ',I',η',r,π',h1,h2,h4,h5,h6⟩:=h F I η σ _ a hG hs hr ha
 exact ⟨v,σ',I',η',r,π',h1,h2,h4,h5,k _ _ h6⟩
section
variable {C:Ctx} (hm:C.P.follows .mixedOrders=true) (hC:TabOK C.P C.ng C.ts Tryz.tab) {itS:Nat→ByteArray} (hI:∀ i:Nat,i < 2 ^ 40→PFun C 91 [.lit (.int .i64 (i:Nat))] (.lit (.string (itS i)))) (hIs:∀ i:Nat,i < 2 ^ 40→(itS i).size≤20)
include hm hC hI hIs
def WPost (S:Nat→PW→Prop) (T:PW→Prop) (k:Nat) (r:PV) (π':PW):Prop:=(r = .lit (.bool true)∧S k π')∨(r = .lit (.bool false)∧T π')
end
end Go.Proofs.YtnpoloachkcadaaGreatDoor.Ai
namespace Go.Proofs.YtnpoloachkcadaaGreatDoor.Ai
open Go
set_option linter.unusedVariables false
set_option linter.unusedSectionVars false
set_option maxRecDepth 10000
def as26:ICode:=(.ops [⟨(some 6),(.n (.new 27 3 [(.int .u8 0),(.string ⟨#[]⟩),(.slice none 0 0)])),none⟩,⟨none,(.e (.st 3 (.t 6) (.t 11))),none⟩])
def bo26:ICode:=(.block 1 (.seq (.ops [⟨(some 12),(.p (.faddr 0 (.t 6))),none⟩,⟨(some 13),(.r (.ld (.t 12))),none⟩,⟨(some 14),(.p (.bin .eql (.t 13) (.c (.int .u8 3)))),none⟩,⟨(some 15),(.p (.mov (.t 14))),none⟩,⟨(some 16),(.r (.ld (.t 4))),(some (15,true))⟩,⟨(some 17),(.p (.faddr 1 (.t 6))),(some (15,true))⟩,⟨(some 18),(.r (.ld (.t 17))),(some (15,true))⟩,⟨(some 19),(.r (.lookup .str (.int .i64 0) false (.t 16) (.t 18))),(some (15,true))⟩,⟨(some 20),(.p (.bin .eql (.t 19) (.c (.int .i64 0)))),(some (15,true))⟩,⟨(some 21),(.p (.pick (.t 15) (.t 20) (.c (.bool false)))),none⟩]) (.cond (.t 21) (.seq (.ops [⟨(some 22),(.r (.ld (.t 4))),none⟩,⟨(some 23),(.p (.faddr 1 (.t 6))),none⟩,⟨(some 24),(.r (.ld (.t 23))),none⟩,⟨(some 25),(.r (.lookup .str (.int .i64 0) false (.t 22) (.t 24))),none⟩,⟨(some 26),(.p (.bin .add (.t 25) (.c (.int .i64 1)))),none⟩,⟨none,(.e (.mapUpd .str (.t 22) (.t 24) (.t 26))),none⟩]) (.ops [⟨(some 27),(.r (.ld (.t 3))),none⟩,⟨(some 28),(.p (.faddr 1 (.t 6))),none⟩,⟨(some 29),(.r (.ld (.t 28))),none⟩,⟨(some 30),(.n (.buildSlice 9 1 1 [(.string ⟨#[]⟩)] [(0,(1,(.t 29)))])),none⟩,⟨(some 31),(.e (.append 9 1 16 [(.string ⟨#[]⟩)] (.t 27) (.t 30))),none⟩,⟨none,(.e (.st 1 (.t 3) (.t 31))),none⟩])) .skip)))
def sL (ns:List ByteArray):List PV:=ns.map fun s=>.lit (.string s)
def mE:Nat→List ByteArray→List (PV × PV × Nat)
 | _,[]=>[]
 | i,s::ns=>(.lit (.string s),.lit (.int .i64 1),i)::mE (i + 1) ns
open Classical in
noncomputable def addN (ns:List ByteArray) (f:Fm):List ByteArray:=if f.op=3∧f.name∉ns then ns++[f.name] else ns
noncomputable def Fm.names (itS:Nat→ByteArray) (f:Fm):List ByteArray:=((f.visits itS ⟨#[]⟩).map (·.2)).foldl addN []
section
variable {C:Ctx} (hm:C.P.follows .mixedOrders=true) (hC:TabOK C.P C.ng C.ts Tryz.tab) {itS:Nat→ByteArray} (hI:∀ i:Nat,i < 2 ^ 40→PFun C 91 [.lit (.int .i64 (i:Nat))] (.lit (.string (itS i)))) (hIs:∀ i:Nat,i < 2 ^ 40→(itS i).size≤20)
def namesL (f0:Fm):PObj:=.loop .ready none (.junk::.junk::.junk::.ptr 0 0::.ptr 2 0::.junk::.junk::.junk::.junk::.fn 92 [] [.ref (fC f0)]::.junk::.junk::.junk::.junk::.junk::.junk::.junk::.junk::.junk::.junk::.junk::.junk::.junk::.junk::.junk::.junk::.junk::.junk::.junk::.junk::.junk::.junk::.junk::[]) [10,11] as26 bo26
def namesS (f0:Fm) (ns:List ByteArray) (π:PW):Prop:=
 (ns=[]∧4≤π.next∧π.heap=[(3,namesL f0),(2,.cells [.map 1] 88 1 true false []),(1,.map [] 0),(0,.cells [.lit (.slice none 0 0)] 53 1 true false [])])∨
 (ns ≠ []∧5≤π.next∧π.heap=[(4,.cells (sL ns) 9 1 false false []),(3,namesL f0),(2,.cells [.map 1] 88 1 true false []),(1,.map (mE 0 ns) ns.length),(0,.cells [.loc 4 0 ns.length ns.length] 53 1 true false [])])
include hm hC hI hIs
end
noncomputable def nmsAt (itS:Nat→ByteArray) (f:Fm) (j:Nat):List ByteArray:=(((f.visits itS ⟨#[]⟩).take j).map (·.2)).foldl addN []
section
variable {C:Ctx} (hm:C.P.follows .mixedOrders=true) (hC:TabOK C.P C.ng C.ts Tryz.tab) {itS:Nat→ByteArray} (hI:∀ i:Nat,i < 2 ^ 40→PFun C 91 [.lit (.int .i64 (i:Nat))] (.lit (.string (itS i)))) (hIs:∀ i:Nat,i < 2 ^ 40→(itS i).size≤20)
include hm hC hI hIs
end
end Go.Proofs.YtnpoloachkcadaaGreatDoor.Ai
