/- A PART OF THE PROOF: a step of the proof that the law's code does what its contracts say, by an interpreter of the program's functions that is proved to be sound. -/
import Derived.Test.YtnpoloachkcadaaGreatDoorPv3
import Derived.Test.YtnpoloachkcadaaGreatDoorIrO
import Derived.Lib.Bytealg
namespace Go.Proofs.YtnpoloachkcadaaGreatDoor.Ai
open Go
set_option linter.unusedVariables false
set_option linter.unusedSectionVars false
set_option maxRecDepth 10000
inductive Fm where
 | mk (op:Nat) (name:ByteArray) (kids:List Fm)
def Fm.op:Fm→Nat | .mk o _ _=>o
def Fm.name:Fm→ByteArray | .mk _ n _=>n
def Fm.kids:Fm→List Fm | .mk _ _ k=>k
mutual
def fC:Fm→List PV
 | .mk o n ks=>[.lit (.int .u8 (o:Nat)),.lit (.string n),.sz (fL ks) ks.length]
def fL:List Fm→List PV
 | []=>[]
 | k::ks=>fC k++fL ks
end
def fP (f:Fm):PV:=.agg (fC f)
theorem fC_len (f:Fm):(fC f).length=3:=by cases f;simp [fC]
theorem fL_len:∀ ks:List Fm,(fL ks).length=ks.length * 3
 | []=>by simp [fL]
 | k::ks=>by simp [fL,fC_len,fL_len ks];omega
theorem fL_app:∀ a b:List Fm,fL (a++b)=fL a++fL b
 | [],b=>by simp [fL]
 | k::a,b=>by simp [fL,fL_app a b,List.append_assoc]
theorem fL_drop:∀ (ks:List Fm) (i:Nat),(fL ks).drop (i * 3)=fL (ks.drop i)
 | ks,0=>by simp
 | [],i + 1=>by simp [fL]
 | k::ks,i + 1=>by
  have e:(i + 1) * 3=(fC k).length + i * 3:=by rw [fC_len];omega
  simp only [fL,List.drop_succ_cons]
  rw [e,← List.drop_drop,List.drop_left]
  exact fL_drop ks i
theorem cut_app {l r:List PV} {n:Nat} (h:l.length=n):cutP n (l++r)=some l:=by
 subst h
 unfold cutP
 rw [if_pos (by simp),List.take_left]
theorem fL_cut {ks:List Fm} {i:Nat} {k:Fm} (h:ks[i]? = some k):cutP 3 ((fL ks).drop (i * 3))=some (fC k):=by
 rw [fL_drop]
 obtain ⟨hi,rfl⟩:=List.getElem?_eq_some_iff.1 h
 rw [List.drop_eq_getElem_cons hi,fL]
 exact cut_app (fC_len _)
mutual
theorem pureL_fC:∀ f:Fm,pureL (fC f)=true
 | .mk o n ks=>by simp [fC,pureL,pureP]
theorem pureL_fL:∀ ks:List Fm,pureL (fL ks)=true
 | []=>rfl
 | k::ks=>by simp [fL,pureL_append,pureL_fC k,pureL_fL ks]
end
mutual
theorem allPlain_fC:∀ f:Fm,allPlain (fC f)=true
 | .mk o n ks=>by simp [fC,allPlain,plainP,isCell]
theorem allPlain_fL:∀ ks:List Fm,allPlain (fL ks)=true
 | []=>rfl
 | k::ks=>by simp [fL,allPlain_append,allPlain_fC k,allPlain_fL ks]
end
mutual
def Fm.size:Fm→Nat
 | .mk _ _ ks=>1 + sizes ks
def sizes:List Fm→Nat
 | []=>0
 | k::ks=>k.size + sizes ks
end
mutual
def Fm.depth:Fm→Nat
 | .mk _ _ ks=>depths ks + 1
def depths:List Fm→Nat
 | []=>0
 | k::ks=>max k.depth (depths ks)
end
theorem Fm.size_pos:∀ f:Fm,0 < f.size
 | .mk _ _ ks=>by simp [Fm.size];omega
theorem sizes_app:∀ a b:List Fm,sizes (a++b)=sizes a + sizes b
 | [],b=>by simp [sizes]
 | k::a,b=>by simp [sizes,sizes_app a b];omega
theorem sizes_take {ks:List Fm} {i:Nat} {k:Fm} (h:ks[i]? = some k):sizes (ks.take (i + 1))=sizes (ks.take i) + k.size:=by
 rw [List.take_add_one,h,sizes_app];simp [sizes]
theorem sizes_le:∀ (ks:List Fm) (i:Nat),sizes (ks.take i)≤sizes ks
 | ks,i=>by
  have:=sizes_app (ks.take i) (ks.drop i)
  rw [List.take_append_drop] at this;omega
theorem size_kid {ks:List Fm} {i:Nat} {k:Fm} (h:ks[i]? = some k):k.size≤sizes ks:=by
 have h1:=sizes_take h
 have h2:=sizes_le ks (i + 1)
 omega
theorem len_sizes:∀ ks:List Fm,ks.length≤sizes ks
 | []=>by simp [sizes]
 | k::ks=>by have:=k.size_pos;have:=len_sizes ks;simp [sizes];omega
mutual
theorem depth_size:∀ f:Fm,f.depth≤f.size
 | .mk _ _ ks=>by have:=depths_sizes ks;simp [Fm.size,Fm.depth];omega
theorem depths_sizes:∀ ks:List Fm,depths ks≤sizes ks
 | []=>by simp [sizes,depths]
 | k::ks=>by have:=depth_size k;have:=depths_sizes ks;simp [sizes,depths];omega
end
section
variable {C:Ctx} (hm:C.P.follows .mixedOrders=true) (hC:TabOK C.P C.ng C.ts Tryz.tab)
include hm hC
end
mutual
def Fm.wt (d:Nat):Fm→Nat
 | .mk _ nm ks=>if 2000 < d then 2147483648 else wts (d + 1) (1 + nm.size) ks
def wts (d:Nat) (n:Nat):List Fm→Nat
 | []=>n
 | k::ks=>if n≤2147483647 then wts d (n + k.wt d) ks else n
end
mutual
def Fm.ok:Fm→Prop
 | .mk _ nm ks=>nm.size < 2 ^ 50∧ks.length < 2 ^ 50∧oks ks
def oks:List Fm→Prop
 | []=>True
 | k::ks=>k.ok∧oks ks
end
theorem oks_get:∀ {ks:List Fm} {i:Nat} {k:Fm},oks ks→ks[i]? = some k→k.ok
 | [],i,k,_,h=>by simp at h
 | x::ks,0,k,ho,h=>by simp at h;subst h;exact ho.1
 | x::ks,i + 1,k,ho,h=>oks_get (i:=i) ho.2 (by simpa using h)
theorem oks_take:∀ {ks:List Fm},oks ks→∀ i,oks (ks.take i)
 | [],_,i=>by simp [oks]
 | x::ks,h,0=>by simp [oks]
 | x::ks,h,i + 1=>⟨h.1,oks_take h.2 i⟩
mutual
theorem wt_le:∀ (f:Fm) (d:Nat),f.ok→d≤2001→f.wt d≤(2002 - d) * 2147483648 + 2251799813685248
 | .mk _ nm ks,d,ho,hd=>by
  simp only [Fm.ok] at ho
  simp only [Fm.wt]
  by_cases h:2000 < d
  ·rw [if_pos h]
   generalize hX:(2002 - d) * 2147483648=X
   exact Nat.le_trans (Nat.le_of_ble_eq_true rfl:2147483648≤2251799813685248) (Nat.le_add_left _ _)
  ·rw [if_neg h]
   have:=wts_le ks (d + 1) (1 + nm.size) ho.2.2 (by omega) (by
    have:1 + nm.size≤2251799813685248:=by omega
    exact Nat.le_trans this (Nat.le_add_left _ _))
   have e:2003 - (d + 1)=2002 - d:=by omega
   rw [e] at this;exact this
theorem wts_le:∀ (ks:List Fm) (d n:Nat),oks ks→d≤2001→n≤(2003 - d) * 2147483648 + 2251799813685248→wts d n ks≤(2003 - d) * 2147483648 + 2251799813685248
 | [],d,n,_,_,hn=>by simpa [wts] using hn
 | k::ks,d,n,ho,hd,hn=>by
  simp only [oks] at ho
  simp only [wts]
  split
  ·have:=wt_le k d ho.1 hd
   exact wts_le ks d (n + k.wt d) ho.2 hd (by omega)
  ·exact hn
end
theorem wts_app:∀ (a b:List Fm) (d n:Nat),wts d n (a++b)=wts d (wts d n a) b
 | [],b,d,n=>by simp [wts]
 | k::a,b,d,n=>by
  simp only [List.cons_append,wts]
  split
  ·exact wts_app a b d _
  ·rename_i h
   cases b with
   | nil=>simp [wts]
   | cons x b=>simp [wts,h]
theorem wts_stop:∀ (b:List Fm) (d n:Nat),¬ n≤2147483647→wts d n b=n
 | [],d,n,_=>rfl
 | k::b,d,n,h=>by simp [wts,h]
theorem wts_take {ks:List Fm} {i:Nat} {k:Fm} (d n:Nat) (h:ks[i]? = some k) (hn:wts d n (ks.take i)≤2147483647):wts d n (ks.take (i + 1))=wts d n (ks.take i) + k.wt d:=by
 rw [List.take_add_one,h,wts_app];simp [wts,hn]
mutual
def Fm.pw:Fm→Nat
 | .mk _ nm ks=>1 + nm.size + pws ks
def pws:List Fm→Nat
 | []=>0
 | k::ks=>k.pw + pws ks
end
theorem wts_ge:∀ (ks:List Fm) (d n:Nat),n≤wts d n ks
 | [],d,n=>Nat.le_refl _
 | k::ks,d,n=>by
  simp only [wts]
  split
  ·have:=wts_ge ks d (n + k.wt d);omega
  ·exact Nat.le_refl _
mutual
theorem wt_plain:∀ (f:Fm) (d:Nat),f.wt d≤2147483647→f.wt d=f.pw∧d + f.depth≤2001
 | .mk _ nm ks,d,h=>by
  simp only [Fm.wt] at h ⊢
  split at h
  ·omega
  ·rename_i hd
   rw [if_neg hd]
   obtain ⟨h1,h2⟩:=wts_plain ks (d + 1) (1 + nm.size) h
   simp only [Fm.pw,Fm.depth]
   refine ⟨by omega,?_⟩
   rcases Nat.eq_zero_or_pos (depths ks) with h0 | h0
   ·omega
   ·have:=h2 h0;omega
theorem wts_plain:∀ (ks:List Fm) (d n:Nat),wts d n ks≤2147483647→wts d n ks=n + pws ks∧(0 < depths ks→d + depths ks≤2001)
 | [],d,n,h=>by simp [wts,pws,depths]
 | k::ks,d,n,h=>by
  simp only [wts] at h ⊢
  have hn:n≤2147483647:=by
   split at h
   ·rename_i hc;exact hc
   ·omega
  rw [if_pos hn] at h ⊢
  obtain ⟨h1,h2⟩:=wts_plain ks d (n + k.wt d) h
  have h3:=wts_ge ks d (n + k.wt d)
  obtain ⟨h4,h5⟩:=wt_plain k d (by omega)
  simp only [pws,depths]
  refine ⟨by omega,fun _=>?_⟩
  rcases Nat.le_total k.depth (depths ks) with hm | hm
  ·rw [Nat.max_eq_right hm]
   rcases Nat.eq_zero_or_pos (depths ks) with h0 | h0
   ·omega
   ·exact h2 h0
  ·rw [Nat.max_eq_left hm];exact h5
end
mutual
theorem size_pw:∀ f:Fm,f.size≤f.pw
 | .mk _ nm ks=>by have:=sizes_pws ks;simp [Fm.size,Fm.pw];omega
theorem sizes_pws:∀ ks:List Fm,sizes ks≤pws ks
 | []=>by simp [sizes,pws]
 | k::ks=>by have:=size_pw k;have:=sizes_pws ks;simp [sizes,pws];omega
end
def muchF (l:List Fm):Nat→Nat→Nat
 | 0,n=>n
 | _ + 1,n=>n
section
variable {C:Ctx} (hm:C.P.follows .mixedOrders=true) (hC:TabOK C.P C.ng C.ts Tryz.tab)
include hm hC
theorem wt_ok:∀ (n:Nat) (f:Fm) (d:Nat),f.size≤n→f.ok→d≤2001→PFun C 106 [fP f,.lit (.int .i64 (d:Nat))] (.lit (.int .i64 (f.wt d:Nat))):=by
 intro n
 induction n with
 | zero=>intro f d h;have:=f.size_pos;omega
 | succ n ih=>
  intro f d hf ho hd
  obtain ⟨o,nm,ks⟩:=f
  simp only [Fm.size] at hf
  simp only [Fm.ok] at ho
  have hw:IntKind.i64.wrap (1 + (nm.size:Nat))=((1 + nm.size:Nat):Int):=by rw [wrap64 (by omega) (by omega)];omega
  refine PFun.body hm hC (show Tryz.tab.get 106=some Tryz.c106 from rfl) rfl ?_
  simp only [Tryz.c106,startP,List.length_cons,List.length_nil,Nat.reduceAdd,Nat.reduceSub,List.replicate,List.cons_append,List.nil_append,fP,fC]
  by_cases hd2:(2000:Int) < (d:Nat)
  ·repeat (refine PRun.wpn rfl ?_;simp only [wp,wo_nil,wo_p,wo_r,wo_n,onO_s,onN_s,ble_self,pv_t,pv_int,put_some,bi_add,bi_gtr,pevP,pevR,pevN,getP,setP,boxP,look,PW.cs?,PW.push,PW.none,nthP,Option.map_some,Option.bind_some,or_true,true_and,↓reduceIte,reduceCtorEq,Nat.zero_add,resPs,resP,tupP,hw,ltB_t hd2])
   refine .refl ⟨_,rfl,?_⟩
   simp only [Fm.wt]
   rw [if_pos (by omega)]
   exact .refl _
  ·repeat (refine PRun.wpn rfl ?_;simp only [wp,wo_nil,wo_p,wo_r,wo_n,onO_s,onN_s,ble_self,pv_t,pv_int,put_some,bi_add,bi_gtr,pevP,pevR,pevN,getP,setP,boxP,look,PW.cs?,PW.push,PW.none,nthP,Option.map_some,Option.bind_some,↓reduceIte,reduceCtorEq,Bool.false_eq_true,Nat.zero_add,resPs,resP,tupP,hw,ltB_f hd2])
   refine PRun.gh (Gh.mr (false::true::true::false::false::true::true::false::false::false::false::false::false::false::false::false::false::false::false::false::false::false::false::false::false::false::false::false::false::false::false::false::false::false::false::[]) [(0,0)] 1 rfl ?_)
   simp only [↓reduceIte,Bool.false_eq_true,renL,renP,renO,renH,renA,lkN,maskP]
   refine PRun.loopG (fun m t π=>∃ i:Nat,t=(.junk::.lit (.int .i64 (d:Nat))::.ptr 0 0::.junk::.junk::.lit (.int .i64 (wts (d + 1) (1 + nm.size) (ks.take i):Nat))::.lit (.int .i64 (i:Nat))::.junk::.junk::.junk::.junk::.junk::.junk::.junk::.junk::.junk::.junk::.junk::.junk::.junk::.junk::.junk::.junk::.junk::.junk::.junk::.junk::.junk::.junk::.junk::.junk::.junk::.junk::.junk::.junk::[])∧i≤ks.length∧m=ks.length - i∧π=⟨1,[(0,.cells [.lit (.int .u8 (o:Nat)),.lit (.string nm),.sz (fL ks) ks.length] 27 3 true false [])]⟩) ?_ ks.length _ _ ⟨0,by simp [wts],by omega,rfl,rfl⟩
   rintro m t π ⟨i,rfl,hi,rfl,rfl⟩
   have hb:=wts_le (ks.take i) (d + 1) (1 + nm.size) (oks_take ho.2.2 i) (by omega) (by omega)
   by_cases hlt:(i:Int) < (ks.length:Nat)
   ·by_cases hle:((wts (d + 1) (1 + nm.size) (ks.take i):Nat):Int)≤2147483647
    ·obtain ⟨k,hk⟩:∃ k,ks[i]? = some k:=⟨ks[i]'(by omega),List.getElem?_eq_getElem (by omega)⟩
     have h1:=size_kid hk
     have h2:=wts_take (d + 1) (1 + nm.size) hk (by omega)
     have hcut:=fL_cut hk
     have hrec:=ih k (d + 1) (by omega) (oks_get ho.2.2 hk) (by omega)
     have h4:=wt_le k (d + 1) (oks_get ho.2.2 hk) (by omega)
     have ew:IntKind.i64.wrap ((d:Nat) + 1)=((d + 1:Nat):Int):=by rw [wrap64 (by omega) (by omega)];omega
     obtain ⟨o',nm',ks'⟩:=k
     simp only [fP,fC] at hrec hcut
     repeat (refine PRun.wpn rfl ?_;simp only [wp,wo_nil,wo_p,wo_r,wo_call,wo_g,beq_self_eq_true,onO_s,onG_t,wanted_g,wantB_b,pv_t,pv_int,put_some,bi_add,bi_lss,bi_leq,pevP,pevR,getP,setP,evsP,look,PW.cs?,nthP,Option.map_some,Option.bind_some,Nat.zero_le,Int.natCast_nonneg,Int.toNat_natCast,and_self,true_and,↓reduceIte,Nat.zero_add,ltB_t hlt,leB_t hle,hlt,hcut,ew])
     refine .refl (PFun.to (hrec) rfl (POps.wp ?_))
     simp only [wo_nil,wo_p,onO_s,pv_t,put_some,bi_add,pevP,getP,setP,Option.map_some]
     repeat (refine PRun.wpn rfl ?_;simp only [wp,wo_nil,wo_p,onO_s,pv_t,pv_int,put_some,bi_add,pevP,getP,setP,Option.map_some])
     have e:((wts (d + 1) (1 + nm.size) (ks.take i):Nat):Int) + ((Fm.mk o' nm' ks').wt (d + 1):Nat)=((wts (d + 1) (1 + nm.size) (ks.take (i + 1)):Nat):Int):=by rw [h2];omega
     rw [wrap64 (by omega) (by omega),wrap64 (by omega) (by omega),e]
     refine Gh.mr (false::true::true::false::false::true::true::false::false::false::false::false::false::false::false::false::false::false::false::false::false::false::false::false::false::false::false::false::false::false::false::false::false::false::false::[]) [(0,0)] 1 rfl ?_
     exact ⟨ks.length - (i + 1),by omega,i + 1,rfl,by omega,rfl,rfl⟩
    ·repeat (refine PRun.wpn rfl ?_;simp only [wp,wo_nil,wo_p,wo_r,wo_g,beq_self_eq_true,onO_s,onG_t,wanted_g,wantB_b,pv_t,pv_int,put_some,bi_lss,bi_leq,pevP,pevR,getP,setP,look,PW.cs?,nthP,Option.map_some,Option.bind_some,or_true,true_and,↓reduceIte,reduceCtorEq,Bool.false_eq_true,Nat.zero_add,ltB_t hlt,leB_f hle])
     refine .refl ⟨_,rfl,?_⟩
     simp only [Fm.wt]
     rw [if_neg (by omega)]
     have:wts (d + 1) (1 + nm.size) ks=wts (d + 1) (1 + nm.size) (ks.take i):=by
      have h:=wts_app (ks.take i) (ks.drop i) (d + 1) (1 + nm.size)
      rw [List.take_append_drop] at h
      rw [h,wts_stop _ _ _ (by omega)]
     rw [this]
     exact .refl _
   ·have hil:i=ks.length:=by omega
    subst hil
    repeat (refine PRun.wpn rfl ?_;simp only [wp,wo_nil,wo_p,wo_r,wo_g,onO_s,onG_f,wanted_g,wantB_b,b_ft,pv_t,pv_bool,put_some,bi_lss,pevP,pevR,getP,setP,look,PW.cs?,nthP,Option.map_some,Option.bind_some,or_true,true_and,↓reduceIte,reduceCtorEq,Bool.false_eq_true,Nat.zero_add,ltB_f hlt])
    refine .refl ⟨_,rfl,?_⟩
    simp only [Fm.wt]
    rw [if_neg (by omega),List.take_length]
    exact .refl _
theorem weight_ok (f:Fm) (ho:f.ok):PFun C 56 [fP f] (.lit (.int .i64 (f.wt 0:Nat))):=by
 have h:=wt_ok hm hC f.size f 0 (Nat.le_refl _) ho (by omega)
 obtain ⟨o,nm,ks⟩:=f
 simp only [fP,fC,nc0] at h
 refine PFun.body hm hC (show Tryz.tab.get 56=some Tryz.c56 from rfl) rfl ?_
 simp only [Tryz.c56,startP,List.length_cons,List.length_nil,Nat.reduceAdd,Nat.reduceSub,List.replicate,List.cons_append,List.nil_append,fP,fC]
 repeat (refine PRun.wpn rfl ?_;simp only [wp,wo_nil,wo_p,wo_r,wo_n,wo_call,onO_s,onN_s,ble_self,pv_t,pv_int,put_some,pevP,pevR,pevN,getP,setP,evsP,boxP,look,PW.cs?,PW.push,PW.none,cut0,cutS,List.drop_zero,Option.map_some,Option.bind_some,Nat.zero_le,true_and,↓reduceIte,Nat.zero_add,resPs,resP,tupP])
 refine .refl (PFun.to (h) rfl (POps.wp ?_))
 simp only [wo_nil,wo_p,onO_s,pv_t,put_some,pevP,getP,setP]
 repeat (refine PRun.wpn rfl ?_;simp only [wp,or_true,true_and,reduceCtorEq])
 exact .refl ⟨_,rfl,.refl _⟩
end
end Go.Proofs.YtnpoloachkcadaaGreatDoor.Ai
namespace Go.Proofs.YtnpoloachkcadaaGreatDoor.Ai
open Go
set_option linter.unusedVariables false
set_option linter.unusedSectionVars false
set_option maxRecDepth 10000
def charOK (c:UInt8):Prop:=32≤c.toNat∧c.toNat≤126∧c.toNat ≠ 34∧c.toNat ≠ 92
def nameOK (s:ByteArray):Prop:=0 < s.size∧s.size≤32∧∀ (i:Nat) (h:i < s.size),charOK s[i]
open Classical in
noncomputable def yesB (p:Prop):Bool:=decide p
theorem yes_t {p:Prop} (h:p):yesB p=true:=by simp [yesB,h]
theorem yes_f {p:Prop} (h:¬ p):yesB p=false:=by simp [yesB,h]
theorem size_empty (s:ByteArray):s=⟨#[]⟩↔s.size=0:=by
 constructor
 ·rintro rfl;rfl
 ·intro h
  have h1:s.data.toList.length=0:=by rw [ba_size];exact h
  exact ba_ext (List.length_eq_zero_iff.1 h1)
section
variable {C:Ctx} (hm:C.P.follows .mixedOrders=true) (hC:TabOK C.P C.ng C.ts Tryz.tab)
include hm hC
end
def kt:List Int:=[-1,0,0,0,1,2,2,2,2,1,1,1,2,2,2,2,1,1,1,1,2,2]
def kidsC:List PV:=kt.map fun z=>.lit (.int .i8 z)
mutual
def Fm.formed (tk:Nat→Bool):Fm→Prop
 | .mk o nm ks=>o < 22∧0≤kt.getD o 0∧(ks.length:Int)=kt.getD o 0∧tk o=true∧(o=3→nameOK nm)∧(o ≠ 3→nm=⟨#[]⟩)∧formeds tk ks
def formeds (tk:Nat→Bool):List Fm→Prop
 | []=>True
 | k::ks=>k.formed tk∧formeds tk ks
end
mutual
def Fm.opsOK:Fm→Prop
 | .mk o _ ks=>o < 256∧opsOKs ks
def opsOKs:List Fm→Prop
 | []=>True
 | k::ks=>k.opsOK∧opsOKs ks
end
def tkP (g:FuncId):PV:=.fn g [] []
section
variable {C:Ctx} (hm:C.P.follows .mixedOrders=true) (hC:TabOK C.P C.ng C.ts Tryz.tab)
include hm hC
end
end Go.Proofs.YtnpoloachkcadaaGreatDoor.Ai
namespace Go.Proofs.YtnpoloachkcadaaGreatDoor.Ai
open Go
set_option linter.unusedVariables false
set_option linter.unusedSectionVars false
set_option maxRecDepth 10000
noncomputable def rightE (tk:Nat→Bool) (f:Fm):Int:=if yesB (f.formed tk)=true then (if yesB (1000 < f.size∨100 < f.depth)=true then 31 else 0) else 30
noncomputable def futB (o:Nat):Bool:=yesB (o < 16)
noncomputable def pastB (o:Nat):Bool:=yesB (o < 9∨16≤o)
section
variable {C:Ctx} (hm:C.P.follows .mixedOrders=true) (hC:TabOK C.P C.ng C.ts Tryz.tab)
include hm hC
end
def muchN:Nat→List Fm→Nat
 | n,[]=>n
 | n,k::ks=>if n≤1048576 then muchN (n + k.wt 0) ks else n
theorem muchN_app:∀ (a b:List Fm) (n:Nat),muchN n (a++b)=muchN (muchN n a) b
 | [],b,n=>rfl
 | k::a,b,n=>by
  simp only [List.cons_append,muchN]
  split
  ·exact muchN_app a b _
  ·rename_i h
   cases b with
   | nil=>simp [muchN]
   | cons x b=>simp [muchN,h]
theorem muchN_stop:∀ (b:List Fm) (n:Nat),¬ n≤1048576→muchN n b=n
 | [],n,_=>rfl
 | k::b,n,h=>by simp [muchN,h]
theorem muchN_take {ks:List Fm} {i:Nat} {k:Fm} (n:Nat) (h:ks[i]? = some k) (hn:muchN n (ks.take i)≤1048576):muchN n (ks.take (i + 1))=muchN n (ks.take i) + k.wt 0:=by
 rw [List.take_add_one,h,muchN_app];simp [muchN,hn]
section
variable {C:Ctx} (hm:C.P.follows .mixedOrders=true) (hC:TabOK C.P C.ng C.ts Tryz.tab)
include hm hC
theorem much_ok (ks:List Fm) (ho:oks ks) (hlen:ks.length < 2 ^ 60):PFun C 15 [.sl (fL ks) ks.length] (.lit (.bool (yesB (1048576 < muchN 0 ks)))):=by
 refine PFun.body hm hC (show Tryz.tab.get 15=some Tryz.c15 from rfl) rfl ?_
 simp only [Tryz.c15,startP,List.length_cons,List.length_nil,Nat.reduceAdd,Nat.reduceSub,List.replicate,List.cons_append,List.nil_append]
 repeat (refine PRun.wpn rfl ?_;simp only [wp,wo_nil,wo_p,onO_s,pv_int,pv_bool,put_some,pevP,setP,PW.none,reduceCtorEq,resPs,resP,tupP])
 refine PRun.gh (Gh.mr (true::false::false::true::true::false::false::false::false::false::false::false::false::false::false::false::false::false::false::false::false::false::false::false::[]) [] 0 rfl ?_)
 simp only [↓reduceIte,Bool.false_eq_true,renL,renP,renH,maskP]
 refine PRun.loopG (fun m t π=>∃ i:Nat,t=(.sl (fL ks) ks.length::.junk::.junk::.lit (.int .i64 (muchN 0 (ks.take i):Nat))::.lit (.int .i64 (i:Nat))::.junk::.junk::.junk::.junk::.junk::.junk::.junk::.junk::.junk::.junk::.junk::.junk::.junk::.junk::.junk::.junk::.junk::.junk::.junk::[])∧i≤ks.length∧m=ks.length - i∧π=⟨0,[]⟩∧muchN 0 (ks.take i)≤2 ^ 61) ?_ ks.length _ _ ⟨0,by simp [muchN],by omega,rfl,rfl,by simp [muchN]⟩
 rintro m t π ⟨i,rfl,hi,rfl,rfl,hb⟩
 by_cases hlt:(i:Int) < (ks.length:Nat)
 ·by_cases hle:((muchN 0 (ks.take i):Nat):Int)≤1048576
  ·obtain ⟨k,hk⟩:∃ k,ks[i]? = some k:=⟨ks[i]'(by omega),List.getElem?_eq_getElem (by omega)⟩
   have h2:=muchN_take 0 hk (by omega)
   have hcut:=fL_cut hk
   have hrec:=weight_ok hm hC k (oks_get ho hk)
   have h4:=wt_le k 0 (oks_get ho hk) (by omega)
   obtain ⟨o',nm',ks'⟩:=k
   simp only [fP,fC] at hrec hcut
   repeat (refine PRun.wpn rfl ?_;simp only [wp,wo_nil,wo_p,wo_r,wo_call,wo_g,beq_self_eq_true,onO_s,onG_t,wanted_g,wantB_b,pv_t,pv_int,put_some,bi_lss,bi_leq,pevP,pevR,getP,setP,evsP,Option.map_some,Nat.zero_le,Int.natCast_nonneg,Int.toNat_natCast,and_self,true_and,↓reduceIte,ltB_t hlt,leB_t hle,hlt,hcut])
   refine .refl (PFun.to (hrec) rfl (POps.wp ?_))
   simp only [wo_nil,wo_p,onO_s,pv_t,put_some,bi_add,pevP,getP,setP,Option.map_some]
   repeat (refine PRun.wpn rfl ?_;simp only [wp,wo_nil,wo_p,onO_s,pv_t,pv_int,put_some,bi_add,pevP,getP,setP,Option.map_some])
   have e:((muchN 0 (ks.take i):Nat):Int) + ((Fm.mk o' nm' ks').wt 0:Nat)=((muchN 0 (ks.take (i + 1)):Nat):Int):=by rw [h2];omega
   rw [wrap64 (by omega) (by omega),wrap64 (by omega) (by omega),e]
   refine Gh.mr (true::false::false::true::true::false::false::false::false::false::false::false::false::false::false::false::false::false::false::false::false::false::false::false::[]) [] 0 rfl ?_
   exact ⟨ks.length - (i + 1),by omega,i + 1,rfl,by omega,rfl,rfl,by omega⟩
  ·repeat (refine PRun.wpn rfl ?_;simp only [wp,wo_nil,wo_p,wo_g,beq_self_eq_true,onO_s,onG_t,wanted_g,wantB_b,pv_t,pv_int,put_some,bi_lss,bi_leq,bi_gtr,pevP,getP,setP,Option.map_some,or_true,true_and,↓reduceIte,reduceCtorEq,Bool.false_eq_true,ltB_t hlt,leB_f hle,ltB_t (show (1048576:Int) < (muchN 0 (ks.take i):Nat) by omega)])
   have:muchN 0 ks=muchN 0 (ks.take i):=by
    have h:=muchN_app (ks.take i) (ks.drop i) 0
    rw [List.take_append_drop] at h
    rw [h,muchN_stop _ _ (by omega)]
   rw [yes_t (by omega)]
   exact .refl ⟨_,rfl,.refl _⟩
 ·have hil:i=ks.length:=by omega
  subst hil
  rw [List.take_length] at hb
  by_cases hle:(1048576:Int) < (muchN 0 ks:Nat)
  ·rw [yes_t (by omega)]
   have e:muchN 0 (ks.take ks.length)=muchN 0 ks:=by rw [List.take_length]
   rw [e]
   repeat (refine PRun.wpn rfl ?_;simp only [wp,wo_nil,wo_p,wo_g,onO_s,onG_f,wanted_g,wantB_b,b_ft,pv_t,pv_int,pv_bool,put_some,bi_lss,bi_gtr,pevP,getP,setP,Option.map_some,or_true,true_and,↓reduceIte,reduceCtorEq,Bool.false_eq_true,ltB_f hlt,ltB_t hle])
   exact .refl ⟨_,rfl,.refl _⟩
  ·rw [yes_f (by omega)]
   have e:muchN 0 (ks.take ks.length)=muchN 0 ks:=by rw [List.take_length]
   rw [e]
   repeat (refine PRun.wpn rfl ?_;simp only [wp,wo_nil,wo_p,wo_g,onO_s,onG_f,wanted_g,wantB_b,b_ft,pv_t,pv_int,pv_bool,put_some,bi_lss,bi_gtr,pevP,getP,setP,Option.map_some,or_true,true_and,↓reduceIte,reduceCtorEq,Bool.false_eq_true,ltB_f hlt,ltB_f hle])
   exact .refl ⟨_,rfl,.refl _⟩
end
end Go.Proofs.YtnpoloachkcadaaGreatDoor.Ai
namespace Go.Proofs.YtnpoloachkcadaaGreatDoor.Ai
open Go
set_option linter.unusedVariables false
set_option linter.unusedSectionVars false
set_option maxRecDepth 10000
noncomputable def cmpZ (a b:Int):Int:=if ltB a b=true then -1 else if ltB b a=true then 1 else 0
noncomputable def orZ (a b:Int):Int:=if neB a 0=true then a else b
def cmpS (a b:ByteArray):Int:=Go.Lib.compareBytes a.data.toList b.data.toList
mutual
noncomputable def Fm.cmp:Fm→Fm→Int
 | .mk o n ks,.mk o' n' ks'=>orZ (orZ (cmpZ (o:Nat) (o':Nat)) (orZ (cmpS n n') (cmpZ (ks.length:Nat) (ks'.length:Nat)))) (cmps ks ks')
noncomputable def cmps:List Fm→List Fm→Int
 | k::ks,m::ms=>orZ (k.cmp m) (cmps ks ms)
 | _,_=>0
end
section
variable {C:Ctx} (hm:C.P.follows .mixedOrders=true) (hC:TabOK C.P C.ng C.ts Tryz.tab)
include hm hC
theorem nan1_ok (a:Int):PFun C 115 [.lit (.int .u8 a)] (.lit (.bool false)):=by
 refine PFun.body hm hC (show Tryz.tab.get 115=some Tryz.c115 from rfl) rfl ?_
 simp only [Tryz.c115,startP,List.length_cons,List.length_nil,Nat.reduceAdd,Nat.reduceSub,List.replicate,List.cons_append,List.nil_append]
 repeat (refine PRun.wpn rfl ?_;simp only [wp,wo_nil,wo_p,onO_s,pv_t,pv_bool,put_some,bi_neq,pevP,getP,setP,PW.none,Option.map_some,or_true,true_and,reduceCtorEq,resPs,resP,tupP,neB_f (show a=a from rfl)])
 exact .refl ⟨_,rfl,.refl _⟩
theorem nan2_ok (a:Int):PFun C 109 [.lit (.int .i64 a)] (.lit (.bool false)):=by
 refine PFun.body hm hC (show Tryz.tab.get 109=some Tryz.c109 from rfl) rfl ?_
 simp only [Tryz.c109,startP,List.length_cons,List.length_nil,Nat.reduceAdd,Nat.reduceSub,List.replicate,List.cons_append,List.nil_append]
 repeat (refine PRun.wpn rfl ?_;simp only [wp,wo_nil,wo_p,onO_s,pv_t,pv_bool,put_some,bi_neq,pevP,getP,setP,PW.none,Option.map_some,or_true,true_and,reduceCtorEq,resPs,resP,tupP,neB_f (show a=a from rfl)])
 exact .refl ⟨_,rfl,.refl _⟩
theorem cmp85_ok (a b:Int):PFun C 85 [.lit (.int .u8 a),.lit (.int .u8 b)] (.lit (.int .i64 (cmpZ a b))):=by
 have h1:=nan1_ok hm hC a
 have h2:=nan1_ok hm hC b
 refine PFun.body hm hC (show Tryz.tab.get 85=some Tryz.c85 from rfl) rfl ?_
 simp only [Tryz.c85,startP,List.length_cons,List.length_nil,Nat.reduceAdd,Nat.reduceSub,List.replicate,List.cons_append,List.nil_append]
 repeat (refine PRun.wpn rfl ?_;simp only [wp,wo_nil,wo_p,wo_call,onO_s,pv_t,pv_int,put_some,pevP,getP,setP,evsP,PW.none,Nat.zero_le,true_and,resPs,resP,tupP])
 refine .refl (PFun.to (h1) rfl (POps.wp ?_))
 simp only [wo_nil,wo_p,onO_s,pv_t,put_some,pevP,getP,setP]
 repeat (refine PRun.wpn rfl ?_;simp only [wp,wo_p,wo_call,onO_s,pv_t,put_some,pevP,getP,setP,evsP,Nat.zero_le,true_and])
 refine .refl (PFun.to (h2) rfl (POps.wp ?_))
 simp only [wo_nil,wo_p,onO_s,pv_t,put_some,pevP,getP,setP]
 by_cases c1:a < b
 ·repeat (refine PRun.wpn rfl ?_;simp only [wp,wo_nil,wo_p,onO_s,pv_t,pv_int,put_some,bi_lss,pevP,getP,setP,Option.map_some,or_true,true_and,↓reduceIte,reduceCtorEq,Bool.false_eq_true,ltB_t c1])
  simp only [cmpZ,ltB_t c1,if_true]
  exact .refl ⟨_,rfl,.refl _⟩
 ·by_cases c2:b < a
  ·repeat (refine PRun.wpn rfl ?_;simp only [wp,wo_nil,wo_p,onO_s,pv_t,pv_int,put_some,bi_lss,bi_gtr,pevP,getP,setP,Option.map_some,or_true,true_and,↓reduceIte,reduceCtorEq,Bool.false_eq_true,ltB_f c1,ltB_t c2])
   simp only [cmpZ,ltB_f c1,ltB_t c2,if_true,Bool.false_eq_true,if_false]
   exact .refl ⟨_,rfl,.refl _⟩
  ·repeat (refine PRun.wpn rfl ?_;simp only [wp,wo_nil,wo_p,onO_s,pv_t,pv_int,put_some,bi_lss,bi_gtr,pevP,getP,setP,Option.map_some,or_true,true_and,↓reduceIte,reduceCtorEq,Bool.false_eq_true,ltB_f c1,ltB_f c2])
   simp only [cmpZ,ltB_f c1,ltB_f c2,Bool.false_eq_true,if_false]
   exact .refl ⟨_,rfl,.refl _⟩
theorem cmp68_ok (a b:Int):PFun C 68 [.lit (.int .i64 a),.lit (.int .i64 b)] (.lit (.int .i64 (cmpZ a b))):=by
 have h1:=nan2_ok hm hC a
 have h2:=nan2_ok hm hC b
 refine PFun.body hm hC (show Tryz.tab.get 68=some Tryz.c68 from rfl) rfl ?_
 simp only [Tryz.c68,startP,List.length_cons,List.length_nil,Nat.reduceAdd,Nat.reduceSub,List.replicate,List.cons_append,List.nil_append]
 repeat (refine PRun.wpn rfl ?_;simp only [wp,wo_nil,wo_p,wo_call,onO_s,pv_t,pv_int,put_some,pevP,getP,setP,evsP,PW.none,Nat.zero_le,true_and,resPs,resP,tupP])
 refine .refl (PFun.to (h1) rfl (POps.wp ?_))
 simp only [wo_nil,wo_p,onO_s,pv_t,put_some,pevP,getP,setP]
 repeat (refine PRun.wpn rfl ?_;simp only [wp,wo_p,wo_call,onO_s,pv_t,put_some,pevP,getP,setP,evsP,Nat.zero_le,true_and])
 refine .refl (PFun.to (h2) rfl (POps.wp ?_))
 simp only [wo_nil,wo_p,onO_s,pv_t,put_some,pevP,getP,setP]
 by_cases c1:a < b
 ·repeat (refine PRun.wpn rfl ?_;simp only [wp,wo_nil,wo_p,onO_s,pv_t,pv_int,put_some,bi_lss,pevP,getP,setP,Option.map_some,or_true,true_and,↓reduceIte,reduceCtorEq,Bool.false_eq_true,ltB_t c1])
  simp only [cmpZ,ltB_t c1,if_true]
  exact .refl ⟨_,rfl,.refl _⟩
 ·by_cases c2:b < a
  ·repeat (refine PRun.wpn rfl ?_;simp only [wp,wo_nil,wo_p,onO_s,pv_t,pv_int,put_some,bi_lss,bi_gtr,pevP,getP,setP,Option.map_some,or_true,true_and,↓reduceIte,reduceCtorEq,Bool.false_eq_true,ltB_f c1,ltB_t c2])
   simp only [cmpZ,ltB_f c1,ltB_t c2,if_true,Bool.false_eq_true,if_false]
   exact .refl ⟨_,rfl,.refl _⟩
  ·repeat (refine PRun.wpn rfl ?_;simp only [wp,wo_nil,wo_p,onO_s,pv_t,pv_int,put_some,bi_lss,bi_gtr,pevP,getP,setP,Option.map_some,or_true,true_and,↓reduceIte,reduceCtorEq,Bool.false_eq_true,ltB_f c1,ltB_f c2])
   simp only [cmpZ,ltB_f c1,ltB_f c2,Bool.false_eq_true,if_false]
   exact .refl ⟨_,rfl,.refl _⟩
theorem cmp116_ok (a b:ByteArray):PFun C 116 [.lit (.string a),.lit (.string b)] (.lit (.int .i64 (cmpS a b))):=by
 have e:Extern.BytealgCompare.cmp a b=cmpS a b:=Go.Lib.cmp_eq a b
 refine PFun.body hm hC (show Tryz.tab.get 116=some Tryz.c116 from rfl) rfl ?_
 simp only [Tryz.c116,startP,List.length_cons,List.length_nil,Nat.reduceAdd,Nat.reduceSub,List.replicate,List.cons_append,List.nil_append]
 repeat (refine PRun.wpn rfl ?_;simp only [wp,wo_nil,wo_p,onO_s,pv_t,pv_int,put_some,pevP,getP,setP,PW.none,or_true,true_and,reduceCtorEq,resPs,resP,tupP,e])
 exact .refl ⟨_,rfl,.refl _⟩
theorem cmp86_ok (a b:ByteArray):PFun C 86 [.lit (.string a),.lit (.string b)] (.lit (.int .i64 (cmpS a b))):=by
 have h:=cmp116_ok hm hC a b
 refine PFun.body hm hC (show Tryz.tab.get 86=some Tryz.c86 from rfl) rfl ?_
 simp only [Tryz.c86,startP,List.length_cons,List.length_nil,Nat.reduceAdd,Nat.reduceSub,List.replicate,List.cons_append,List.nil_append]
 repeat (refine PRun.wpn rfl ?_;simp only [wp,wo_nil,wo_p,wo_call,onO_s,pv_t,pv_int,put_some,pevP,getP,setP,evsP,PW.none,Nat.zero_le,true_and,resPs,resP,tupP])
 refine .refl (PFun.to (h) rfl (POps.wp ?_))
 simp only [wo_nil,wo_p,onO_s,pv_t,put_some,pevP,getP,setP]
 repeat (refine PRun.wpn rfl ?_;simp only [wp,or_true,true_and,reduceCtorEq])
 exact .refl ⟨_,rfl,.refl _⟩
theorem or_ok (a b c:Int):PFun C 67 [.sl [.lit (.int .i64 a),.lit (.int .i64 b),.lit (.int .i64 c)] 3] (.lit (.int .i64 (orZ a (orZ b c)))):=by
 have n3:((3:Nat):Int)=3:=rfl
 have l0:(0:Int) < 3:=by omega
 have l1:(1:Int) < 3:=by omega
 have l2:(2:Int) < 3:=by omega
 have l3:¬ (3:Int) < 3:=by omega
 have p1:(0:Int)≤1:=by omega
 have p2:(0:Int)≤2:=by omega
 have w0:IntKind.i64.wrap (0 + 1)=1:=by rw [wrap64 (by omega) (by omega)];rfl
 have w1:IntKind.i64.wrap (1 + 1)=2:=by rw [wrap64 (by omega) (by omega)];rfl
 have w2:IntKind.i64.wrap (2 + 1)=3:=by rw [wrap64 (by omega) (by omega)];rfl
 refine PFun.body hm hC (show Tryz.tab.get 67=some Tryz.c67 from rfl) rfl ?_
 simp only [Tryz.c67,startP,List.length_cons,List.length_nil,Nat.reduceAdd,Nat.reduceSub,List.replicate,List.cons_append,List.nil_append]
 repeat (refine PRun.wpn rfl ?_;simp only [wp,wo_nil,wo_p,onO_s,pv_t,pv_int,put_some,pevP,getP,setP,PW.none,reduceCtorEq,resPs,resP,tupP,n3])
 refine PRun.gh (Gh.mr (false::false::false::true::false::false::true::true::true::false::false::false::false::false::false::false::false::false::[]) [] 0 rfl ?_)
 simp only [↓reduceIte,Bool.false_eq_true,renL,renP,renH,maskP]
 refine PRun.loopG (fun m t π=>π=⟨0,[]⟩∧((m=3∧t=(.junk::.junk::.junk::.lit (.int .i64 0)::.junk::.junk::.sl [.lit (.int .i64 a),.lit (.int .i64 b),.lit (.int .i64 c)] 3::.lit (.int .i64 3)::.lit (.int .i64 0)::.junk::.junk::.junk::.junk::.junk::.junk::.junk::.junk::.junk::[]))∨(m=2∧a=0∧t=(.junk::.junk::.junk::.lit (.int .i64 0)::.junk::.junk::.sl [.lit (.int .i64 a),.lit (.int .i64 b),.lit (.int .i64 c)] 3::.lit (.int .i64 3)::.lit (.int .i64 1)::.junk::.junk::.junk::.junk::.junk::.junk::.junk::.junk::.junk::[]))∨(m=1∧a=0∧b=0∧t=(.junk::.junk::.junk::.lit (.int .i64 0)::.junk::.junk::.sl [.lit (.int .i64 a),.lit (.int .i64 b),.lit (.int .i64 c)] 3::.lit (.int .i64 3)::.lit (.int .i64 2)::.junk::.junk::.junk::.junk::.junk::.junk::.junk::.junk::.junk::[]))∨(m=0∧a=0∧b=0∧c=0∧t=(.junk::.junk::.junk::.lit (.int .i64 0)::.junk::.junk::.sl [.lit (.int .i64 a),.lit (.int .i64 b),.lit (.int .i64 c)] 3::.lit (.int .i64 3)::.lit (.int .i64 3)::.junk::.junk::.junk::.junk::.junk::.junk::.junk::.junk::.junk::[])))) ?_ 3 _ _ ⟨rfl,.inl ⟨rfl,rfl⟩⟩
 rintro m t π ⟨rfl,⟨rfl,rfl⟩ | ⟨rfl,rfl,rfl⟩ | ⟨rfl,rfl,rfl,rfl⟩ | ⟨rfl,rfl,rfl,rfl,rfl⟩⟩
 ·by_cases h:a=0
  ·repeat (refine PRun.wpn rfl ?_;simp only [wp,wo_nil,wo_p,wo_r,onO_s,pv_t,pv_int,put_some,bi_add,bi_neq,bi_lss,pevP,pevR,getP,setP,List.drop_zero,Option.map_some,Nat.mul_one,tn0,Int.le_refl,and_self,↓reduceIte,Bool.false_eq_true,ltB_t l0,l0,n3,neB_f h])
   rw [w0]
   refine Gh.mr (false::false::false::true::false::false::true::true::true::false::false::false::false::false::false::false::false::false::[]) [] 0 rfl ?_
   exact ⟨2,by omega,rfl,.inr (.inl ⟨rfl,h,rfl⟩)⟩
  ·repeat (refine PRun.wpn rfl ?_;simp only [wp,wo_nil,wo_p,wo_r,onO_s,pv_t,put_some,bi_neq,bi_lss,pevP,pevR,getP,setP,List.drop_zero,Option.map_some,or_true,Nat.mul_one,tn0,Int.le_refl,and_self,true_and,↓reduceIte,reduceCtorEq,ltB_t l0,l0,n3,neB_t h])
   simp only [orZ,neB_t h,if_true]
   exact .refl ⟨_,rfl,.refl _⟩
 ·have e0:orZ 0 (orZ b c)=orZ b c:=by simp only [orZ,neB_f (show (0:Int)=0 from rfl),Bool.false_eq_true,if_false]
  rw [e0]
  by_cases h:b=0
  ·repeat (refine PRun.wpn rfl ?_;simp only [wp,wo_nil,wo_p,wo_r,onO_s,pv_t,pv_int,put_some,bi_add,bi_neq,bi_lss,pevP,pevR,getP,setP,List.drop_zero,List.drop_succ_cons,Option.map_some,Nat.mul_one,tn1,and_self,true_and,↓reduceIte,Bool.false_eq_true,ltB_t l1,l1,n3,neB_f h,p1])
   rw [w1]
   refine Gh.mr (false::false::false::true::false::false::true::true::true::false::false::false::false::false::false::false::false::false::[]) [] 0 rfl ?_
   exact ⟨1,by omega,rfl,.inr (.inr (.inl ⟨rfl,h,rfl⟩))⟩
  ·repeat (refine PRun.wpn rfl ?_;simp only [wp,wo_nil,wo_p,wo_r,onO_s,pv_t,put_some,bi_neq,bi_lss,pevP,pevR,getP,setP,List.drop_zero,List.drop_succ_cons,Option.map_some,or_true,Nat.mul_one,tn1,and_self,true_and,↓reduceIte,reduceCtorEq,ltB_t l1,l1,n3,neB_t h,p1])
   simp only [orZ,neB_t h,if_true]
   exact .refl ⟨_,rfl,.refl _⟩
 ·have e0:orZ 0 (orZ 0 c)=c:=by simp only [orZ,neB_f (show (0:Int)=0 from rfl),Bool.false_eq_true,if_false]
  rw [e0]
  by_cases h:c=0
  ·repeat (refine PRun.wpn rfl ?_;simp only [wp,wo_nil,wo_p,wo_r,onO_s,pv_t,pv_int,put_some,bi_add,bi_neq,bi_lss,pevP,pevR,getP,setP,List.drop_zero,List.drop_succ_cons,Option.map_some,Nat.mul_one,tn2,and_self,true_and,↓reduceIte,Bool.false_eq_true,ltB_t l2,l2,n3,neB_f h,p2])
   rw [w2]
   refine Gh.mr (false::false::false::true::false::false::true::true::true::false::false::false::false::false::false::false::false::false::[]) [] 0 rfl ?_
   exact ⟨0,by omega,rfl,.inr (.inr (.inr ⟨rfl,h,rfl⟩))⟩
  ·repeat (refine PRun.wpn rfl ?_;simp only [wp,wo_nil,wo_p,wo_r,onO_s,pv_t,put_some,bi_neq,bi_lss,pevP,pevR,getP,setP,List.drop_zero,List.drop_succ_cons,Option.map_some,or_true,Nat.mul_one,tn2,and_self,true_and,↓reduceIte,reduceCtorEq,ltB_t l2,l2,n3,neB_t h,p2])
   exact .refl ⟨_,rfl,.refl _⟩
 ·have e0:orZ 0 (orZ 0 0)=0:=by simp only [orZ,neB_f (show (0:Int)=0 from rfl),Bool.false_eq_true,if_false]
  rw [e0]
  repeat (refine PRun.wpn rfl ?_;simp only [wp,wo_nil,wo_p,onO_s,pv_t,put_some,bi_lss,pevP,getP,setP,Option.map_some,or_true,true_and,↓reduceIte,reduceCtorEq,Bool.false_eq_true,ltB_f l3])
  exact .refl ⟨_,rfl,.refl _⟩
theorem cmps_ok (ks ms:List Fm) (hkm:ks.length=ms.length) (hl:ks.length < 2 ^ 60) (hc:∀ (i:Nat) (k m:Fm),ks[i]? = some k→ms[i]? = some m→PFun C 39 [fP k,fP m] (.lit (.int .i64 (k.cmp m)))) :
  PFun C 87 [.sz (fL ks) ks.length,.sz (fL ms) ms.length,.fn 39 [] []] (.lit (.int .i64 (cmps ks ms))):=by
 refine PFun.body hm hC (show Tryz.tab.get 87=some Tryz.c87 from rfl) rfl ?_
 simp only [Tryz.c87,startP,List.length_cons,List.length_nil,Nat.reduceAdd,Nat.reduceSub,List.replicate,List.cons_append,List.nil_append]
 repeat (refine PRun.wpn rfl ?_;simp only [wp,wo_nil,wo_p,onO_s,pv_t,pv_int,put_some,pevP,getP,setP,PW.none,reduceCtorEq,resPs,resP,tupP])
 refine PRun.gh (Gh.mr (true::true::true::false::false::false::false::false::false::false::false::true::true::true::false::false::false::false::false::false::false::false::false::false::false::false::false::false::false::false::false::false::false::false::false::false::false::false::false::[]) [] 0 rfl ?_)
 simp only [↓reduceIte,Bool.false_eq_true,renL,renP,renH,maskP]
 refine PRun.loopG (fun n t π=>∃ i:Nat,t=(.sz (fL ks) ks.length::.sz (fL ms) ms.length::.fn 39 [] []::.junk::.junk::.junk::.junk::.junk::.junk::.junk::.junk::.sz (fL ks) ks.length::.lit (.int .i64 (ks.length:Nat))::.lit (.int .i64 (i:Nat))::.junk::.junk::.junk::.junk::.junk::.junk::.junk::.junk::.junk::.junk::.junk::.junk::.junk::.junk::.junk::.junk::.junk::.junk::.junk::.junk::.junk::.junk::.junk::.junk::.junk::[])∧i≤ks.length∧n=ks.length - i∧π=⟨0,[]⟩∧cmps ks ms=cmps (ks.drop i) (ms.drop i)) ?_ ks.length _ _ ⟨0,rfl,by omega,rfl,rfl,rfl⟩
 rintro n t π ⟨i,rfl,hi,rfl,rfl,he⟩
 by_cases hlt:(i:Int) < (ks.length:Nat)
 ·obtain ⟨k,hk⟩:∃ k,ks[i]? = some k:=⟨ks[i]'(by omega),List.getElem?_eq_getElem (by omega)⟩
  obtain ⟨m,hmm⟩:∃ m,ms[i]? = some m:=⟨ms[i]'(by omega),List.getElem?_eq_getElem (by omega)⟩
  have hcut:=fL_cut hk
  have hcut2:=fL_cut hmm
  have hrec:=hc i k m hk hmm
  have hge:¬ ((ms.length:Nat):Int)≤(i:Nat):=by omega
  have hlt2:((i:Nat):Int) < (ms.length:Nat):=by omega
  have e1:cmps (ks.drop i) (ms.drop i)=orZ (k.cmp m) (cmps (ks.drop (i + 1)) (ms.drop (i + 1))):=by
   have h1:=(List.getElem?_eq_some_iff.1 hk).2
   have h2:=(List.getElem?_eq_some_iff.1 hmm).2
   rw [List.drop_eq_getElem_cons (by omega:i < ks.length),List.drop_eq_getElem_cons (by omega:i < ms.length),h1,h2,cmps]
  generalize k.cmp m=r at hrec e1
  obtain ⟨o',nm',ks'⟩:=k
  obtain ⟨o2,nm2,ks2⟩:=m
  simp only [fP,fC] at hrec hcut hcut2
  by_cases hr:r=0
  ·repeat (refine PRun.wpn rfl ?_;simp only [wp,wo_nil,wo_p,wo_r,wo_n,wo_st,wo_callv,onO_s,onN_s,onE_s,ble0,ble_self,ble_succ,pv_t,ov_nil,ov_cons,ov_int,ov_str,ov_nilS,put_some,put_none,bi_lss,bi_geq,pevP,pevR,pevN,pevE,getP,setP,evsP,spliceP,overP,plainP,isCell,look,PW.cs?,PW.push,cut0,cutS,List.length_cons,List.length_nil,List.drop_zero,Option.map_some,Option.bind_some,Nat.zero_le,Int.natCast_nonneg,Int.toNat_natCast,and_self,true_and,Bool.and_true,↓reduceIte,reduceCtorEq,ltL,lt,Nat.reduceAdd,Bool.false_eq_true,Nat.zero_add,allPlain,PW.wr,setO,killO,Bool.or_self,Bool.not_true,List.length_cons,List.length_nil,ltB_t hlt,hlt,hcut,leB_f hge,hlt2,hcut2])
   refine .refl (PFun.to hrec rfl (POps.wp ?_))
   simp only [wo_nil,wo_p,onO_s,pv_t,put_some,pevP,getP,setP]
   repeat (refine PRun.wpn rfl ?_;simp only [wp,wo_nil,wo_p,onO_s,pv_t,pv_int,put_some,bi_add,bi_neq,pevP,getP,setP,Option.map_some,↓reduceIte,Bool.false_eq_true,neB_f hr])
   rw [wrap64 (by omega) (by omega)]
   refine Gh.mr (true::true::true::false::false::false::false::false::false::false::false::true::true::true::false::false::false::false::false::false::false::false::false::false::false::false::false::false::false::false::false::false::false::false::false::false::false::false::false::[]) [] 0 rfl ?_
   refine ⟨ks.length - (i + 1),by omega,i + 1,rfl,by omega,rfl,rfl,?_⟩
   rw [he,e1,orZ,neB_f hr,if_neg (by simp)]
  ·repeat (refine PRun.wpn rfl ?_;simp only [wp,wo_nil,wo_p,wo_r,wo_n,wo_st,wo_callv,onO_s,onN_s,onE_s,ble0,ble_self,ble_succ,pv_t,ov_nil,ov_cons,ov_int,ov_str,ov_nilS,put_some,put_none,bi_lss,bi_geq,pevP,pevR,pevN,pevE,getP,setP,evsP,spliceP,overP,plainP,isCell,look,PW.cs?,PW.push,cut0,cutS,List.length_cons,List.length_nil,List.drop_zero,Option.map_some,Option.bind_some,Nat.zero_le,Int.natCast_nonneg,Int.toNat_natCast,and_self,true_and,Bool.and_true,↓reduceIte,reduceCtorEq,ltL,lt,Nat.reduceAdd,Bool.false_eq_true,Nat.zero_add,allPlain,PW.wr,setO,killO,Bool.or_self,Bool.not_true,List.length_cons,List.length_nil,ltB_t hlt,hlt,hcut,leB_f hge,hlt2,hcut2])
   refine .refl (PFun.to hrec rfl (POps.wp ?_))
   simp only [wo_nil,wo_p,onO_s,pv_t,put_some,pevP,getP,setP]
   repeat (refine PRun.wpn rfl ?_;simp only [wp,wo_nil,wo_p,onO_s,pv_t,pv_int,put_some,bi_neq,pevP,getP,setP,Option.map_some,or_true,true_and,↓reduceIte,reduceCtorEq,neB_t hr])
   rw [he,e1,orZ,neB_t hr,if_pos rfl]
   exact .refl ⟨_,rfl,.refl _⟩
 ·have hil:i=ks.length:=by omega
  subst hil
  have h2:¬ ((ks.length:Nat):Int) < (ms.length:Nat):=by omega
  have e:cmps ks ms=0:=by
   rw [he,List.drop_length];simp [cmps]
  rw [e]
  repeat (refine PRun.wpn rfl ?_;simp only [wp,wo_nil,wo_p,onO_s,pv_t,pv_int,put_some,bi_lss,pevP,getP,setP,Option.map_some,or_true,true_and,↓reduceIte,reduceCtorEq,Bool.false_eq_true,ltB_f hlt,ltB_f h2])
  exact .refl ⟨_,rfl,.refl _⟩
theorem cmp_ok:∀ (n:Nat) (f g:Fm),f.size≤n→n < 2 ^ 60→g.size < 2 ^ 60→PFun C 39 [fP f,fP g] (.lit (.int .i64 (f.cmp g))):=by
 intro n
 induction n with
 | zero=>intro f g h;have:=f.size_pos;omega
 | succ n ih=>
  intro f g hf hn hg
  obtain ⟨o,nm,ks⟩:=f
  obtain ⟨o',nm',ms⟩:=g
  simp only [Fm.size] at hf hg
  have hl1:=len_sizes ks
  have hl2:=len_sizes ms
  have h1:=cmp85_ok hm hC (o:Nat) (o':Nat)
  have h2:=cmp86_ok hm hC nm nm'
  have h3:=cmp68_ok hm hC (ks.length:Nat) (ms.length:Nat)
  have h4:=or_ok hm hC (cmpZ (o:Nat) (o':Nat)) (cmpS nm nm') (cmpZ (ks.length:Nat) (ms.length:Nat))
  have hlen:orZ (cmpZ (o:Nat) (o':Nat)) (orZ (cmpS nm nm') (cmpZ (ks.length:Nat) (ms.length:Nat)))=0→ks.length=ms.length:=by
   intro h
   have hz:∀ a b:Int,orZ a b=0→b=0:=by
    intro a b h
    by_cases ha:a=0
    ·rw [orZ,neB_f ha,if_neg (by simp)] at h;exact h
    ·rw [orZ,neB_t ha,if_pos rfl] at h;exact absurd h ha
   have h5:=hz _ _ (hz _ _ h)
   unfold cmpZ at h5
   by_cases c1:((ks.length:Nat):Int) < (ms.length:Nat)
   ·rw [ltB_t c1] at h5;simp at h5
   ·by_cases c2:((ms.length:Nat):Int) < (ks.length:Nat)
    ·rw [ltB_f c1,ltB_t c2] at h5;simp at h5
    ·omega
  have h6:ks.length=ms.length→PFun C 87 [.sz (fL ks) ks.length,.sz (fL ms) ms.length,.fn 39 [] []] (.lit (.int .i64 (cmps ks ms))):=fun he=>
   cmps_ok hm hC ks ms he (by omega) (fun i k m hk hm'=>ih k m (by have:=size_kid hk;omega) (by omega) (by have:=size_kid hm';omega))
  simp only [Fm.cmp]
  generalize orZ (cmpZ (o:Nat) (o':Nat)) (orZ (cmpS nm nm') (cmpZ (ks.length:Nat) (ms.length:Nat)))=r at h4 hlen
  refine PFun.body hm hC (show Tryz.tab.get 39=some Tryz.c39 from rfl) rfl ?_
  simp only [Tryz.c39,startP,List.length_cons,List.length_nil,Nat.reduceAdd,Nat.reduceSub,List.replicate,List.cons_append,List.nil_append,fP,fC]
  repeat (refine PRun.wpn rfl ?_;simp only [wp,wo_nil,wo_p,wo_n,onO_s,onN_s,ble_self,ble_succ,pv_t,pv_int,put_some,pevP,pevN,getP,setP,boxP,PW.push,PW.none,Option.map_some,Nat.reduceAdd,Nat.zero_add,resPs,resP,tupP])
  refine PDraw.stage (Nat.zero_le _) rfl ?_
  try dsimp only
  simp only [onX_s,onXI_s,rdX_e,ltN,ltD_s,onD_s,wx_nil,wx_cons,wx_p,wx_r,wd_cons,wd_e,pv_t,put_some,pevP,pevR,getP,setP,nthO,look,PW.cs?,nthP,baseP,ROp.base,List.length_cons,List.length_nil,Option.bind_some,Bool.and_true,↓reduceIte,reduceCtorEq,Nat.reduceAdd,Option.isSome_some,Nat.add_zero,Nat.zero_add,List.length_cons,List.length_nil]
  refine PDE.pure h1 rfl ?_
  refine PDraw.stage (Nat.zero_le _) rfl ?_
  try dsimp only
  simp only [onD_s,wx_nil,wd_cons,wd_e,put_some,setP,nthO]
  refine PDE.pure h2 rfl ?_
  refine PDraw.stage (Nat.zero_le _) rfl ?_
  try dsimp only
  simp only [onD_s,wx_nil,wd_cons,wd_e,put_some,setP,nthO]
  refine PDE.pure h3 rfl ?_
  refine PDraw.stage (Nat.zero_le _) rfl ?_
  try dsimp only
  simp only [beq_self_eq_true,onXN_s,onXI_s,onD_s,wx_nil,wx_cons,wx_n,wd_cons,wd_e,pv_t,ov_nil,ov_cons,ov_int,put_some,pevN,getP,setP,nthO,fillP,spliceP,overP,plainP,isCell,PW.push,Option.map_some,Option.bind_some,Bool.and_true,↓reduceIte,ltL,lt,Nat.reduceAdd]
  refine PDE.lent h4 rfl ?_ ?_
  ·simp only [pv_t,getP,evsP]
   refine Gh.frz 2 rfl rfl rfl ?_
   simp only [List.drop_zero,↓reduceIte,reduceCtorEq,Nat.reduceEqDiff,frzL,frzP,frzO,frzH,Nat.le_refl]
   exact .refl rfl
  refine PDraw.last (Nat.zero_le _) rfl ?_
  try dsimp only
  simp only [onX_s,onXI_s,wx_nil,wx_cons,wx_p,pv_t,put_some,pevP,getP,setP,nthO]
  by_cases hr:r=0
  ·have h7:=h6 (hlen hr)
   repeat (refine PRun.wpn rfl ?_;simp only [wp,wo_nil,wo_p,wo_r,wo_call,onO_s,pv_t,pv_int,put_some,bi_neq,pv_f,pevP,pevR,getP,setP,evsP,look,PW.cs?,nthP,Option.map_some,Option.bind_some,Nat.zero_le,true_and,↓reduceIte,reduceCtorEq,Nat.reduceEqDiff,Bool.false_eq_true,Nat.zero_add,neB_f hr])
   refine .refl (PFun.to (h7) rfl (POps.wp ?_))
   simp only [wo_nil,wo_p,onO_s,pv_t,put_some,pevP,getP,setP]
   repeat (refine PRun.wpn rfl ?_;simp only [wp,or_true,true_and,reduceCtorEq])
   simp only [orZ,neB_f hr,Bool.false_eq_true,if_false]
   exact .refl ⟨_,rfl,.refl _⟩
  ·repeat (refine PRun.wpn rfl ?_;simp only [wp,wo_nil,wo_p,onO_s,pv_t,pv_int,put_some,bi_neq,pevP,getP,setP,Option.map_some,or_true,true_and,↓reduceIte,reduceCtorEq,neB_t hr])
   simp only [orZ,neB_t hr,if_true]
   exact .refl ⟨_,rfl,.refl _⟩
end
end Go.Proofs.YtnpoloachkcadaaGreatDoor.Ai
namespace Go.Proofs.YtnpoloachkcadaaGreatDoor.Ai
open Go
set_option linter.unusedVariables false
set_option linter.unusedSectionVars false
set_option maxRecDepth 10000
theorem cut_all {l:List PV} {n:Nat} (h:l.length=n):cutP n l=some l:=by subst h;simp [cutP]
theorem renL_fL (ρ:List (Nat × Nat)) (ks:List Fm):renL ρ (fL ks)=fL ks:=renL_pure ρ _ (pureL_fL ks)
section
variable {C:Ctx} (hm:C.P.follows .mixedOrders=true) (hC:TabOK C.P C.ng C.ts Tryz.tab)
include hm hC
theorem copy_ok:∀ (n:Nat) (f:Fm),f.size≤n→n < 2 ^ 38→PFun C 28 [fP f] (fP f):=by
 intro n
 induction n with
 | zero=>intro f h;have:=f.size_pos;omega
 | succ n ih=>
  intro f hf hn
  obtain ⟨o,nm,ks⟩:=f
  simp only [Fm.size] at hf
  have hlen:=len_sizes ks
  refine PFun.body hm hC (show Tryz.tab.get 28=some Tryz.c28 from rfl) rfl ?_
  simp only [Tryz.c28,startP,List.length_cons,List.length_nil,Nat.reduceAdd,Nat.reduceSub,List.replicate,List.cons_append,List.nil_append,fP,fC]
  repeat (refine PRun.wpn rfl ?_;simp only [wp,wo_nil,wo_p,wo_r,wo_n,wo_st,beq_self_eq_true,onO_s,onN_s,onE_s,ble0,ble_self,ble_succ,pv_t,pv_int,ov_nil,ov_cons,ov_int,ov_str,ov_nilS,put_some,put_none,pevP,pevR,pevN,pevE,getP,setP,fillP,boxP,spliceP,overP,plainP,isCell,look,PW.cs?,PW.push,PW.none,nthP,List.length_cons,List.length_nil,Option.map_some,Option.bind_some,Bool.and_true,↓reduceIte,reduceCtorEq,ltL,lt,Nat.reduceAdd,Bool.false_eq_true,Nat.add_zero,Nat.zero_add,allPlain,PW.wr,setO,killO,Bool.or_self,Bool.not_true,resPs,resP,tupP,List.length_cons,List.length_nil])
  refine PRun.gh (Gh.mr (false::false::true::true::false::false::false::false::false::false::false::false::true::true::true::false::false::false::false::false::false::false::false::false::false::false::false::[]) [(1,0),(2,1)] 2 rfl ?_)
  simp only [↓reduceIte,reduceCtorEq,Nat.reduceEqDiff,Bool.false_eq_true,renL,renP,renO,renH,renA,lkN,maskP]
  refine PRun.loopG (fun m t π=>∃ i:Nat,t=(.junk::.junk::.ptr 0 0::.ptr 1 0::.junk::.junk::.junk::.junk::.junk::.junk::.junk::.junk::.sz (fL ks) ks.length::.lit (.int .i64 (ks.length:Nat))::.lit (.int .i64 (i:Nat))::.junk::.junk::.junk::.junk::.junk::.junk::.junk::.junk::.junk::.junk::.junk::.junk::[])∧i≤ks.length∧m=ks.length - i∧((i=0∧π=⟨2,[(1,.cells [.lit (.int .u8 (o:Nat)),.lit (.string nm),.lit (.slice none 0 0)] 27 3 true false []),(0,.cells [.lit (.int .u8 0),.lit (.string ⟨#[]⟩),.lit (.slice none 0 0)] 27 3 true false [])]⟩)∨
   (0 < i∧π=⟨3,[(2,.cells (fL (ks.take i)) 27 3 false false []),(1,.cells [.lit (.int .u8 (o:Nat)),.lit (.string nm),.loc 2 0 i i] 27 3 true false []),(0,.cells [.lit (.int .u8 0),.lit (.string ⟨#[]⟩),.lit (.slice none 0 0)] 27 3 true false [])]⟩))) ?_ ks.length _ _ ⟨0,rfl,by omega,rfl,.inl ⟨rfl,rfl⟩⟩
  rintro m t π ⟨i,rfl,hi,rfl,hπ⟩
  by_cases hlt:(i:Int) < (ks.length:Nat)
  ·obtain ⟨k,hk⟩:∃ k,ks[i]? = some k:=⟨ks[i]'(by omega),List.getElem?_eq_getElem (by omega)⟩
   have h1:=size_kid hk
   have hcut:=fL_cut hk
   have hrec:=ih k (by omega) (by omega)
   have etake:fL (ks.take (i + 1))=fL (ks.take i)++fC k:=by rw [List.take_add_one,hk,fL_app];simp [fL]
   have hk3:=fC_len k
   obtain ⟨o',nm',ks'⟩:=k
   simp only [fP,fC] at hrec hcut etake
   rcases hπ with ⟨rfl,rfl⟩ | ⟨hi0,rfl⟩
   ·simp only [nc0,Nat.zero_mul,List.drop_zero] at hlt hcut
    repeat (refine PRun.wpn rfl ?_;simp only [wp,wo_nil,wo_p,wo_r,wo_n,wo_st,onO_s,onN_s,onE_s,ble0,pv_t,ov_nil,ov_cons,ov_int,ov_str,ov_nilS,put_some,put_none,bi_lss,pevP,pevR,pevN,pevE,getP,setP,spliceP,overP,plainP,isCell,look,PW.push,List.length_cons,List.length_nil,List.drop_zero,Option.map_some,Nat.sub_zero,nc0,tn0,Int.le_refl,and_self,Bool.and_true,↓reduceIte,ltL,lt,Nat.reduceAdd,Nat.reduceMul,Bool.false_eq_true,Nat.zero_add,allPlain,PW.wr,setO,killO,Bool.or_self,Bool.not_true,List.length_cons,List.length_nil,ltB_t hlt,hlt,hcut])
    refine PDraw.stage (Nat.zero_le _) rfl ?_
    try dsimp only
    simp only [onX_s,onXI_s,rdX_e,ltN,ltD_s,onD_s,wx_nil,wx_cons,wx_p,wx_r,wd_cons,wd_e,pv_t,put_some,pevP,pevR,getP,setP,nthO,look,PW.cs?,nthP,cut0,cutS,baseP,ROp.base,List.length_cons,List.length_nil,List.drop_zero,Option.map_some,Option.bind_some,Bool.and_true,↓reduceIte,Nat.reduceAdd,Nat.reduceEqDiff,Option.isSome_some,Nat.zero_add,List.length_cons,List.length_nil]
    refine PDE.pure hrec rfl ?_
    refine PDraw.stage (Nat.zero_le _) rfl ?_
    try dsimp only
    simp only [onXN_s,onXI_s,onD_s,wx_nil,wx_cons,wx_n,wd_cons,wd_e,pv_t,ov_nil,ov_cons,ov_int,ov_str,ov_nilS,put_some,pevN,getP,setP,nthO,fillP,spliceP,overP,PW.push,List.length_cons,List.length_nil,Option.map_some,Option.bind_some,Bool.and_true,↓reduceIte,ltL,lt,Nat.reduceAdd,Nat.zero_add,List.length_cons,List.length_nil]
    refine PDE.ev (Nat.zero_le _) ?_
    simp only [pv_t,pevE,getP,lenP,srcP,appendP,plainP,isCell,look,PW.cs?,PW.push,cut0,cutS,List.drop_zero,Option.map_some,Option.bind_some,Nat.mul_one,Bool.and_true,↓reduceIte,Nat.reduceAdd,Nat.reduceMul,Nat.reduceLeDiff,Nat.reduceLT,Nat.zero_add,allPlain,Bool.false_or,Bool.not_true,gt_iff_lt]
    refine PDraw.stage (Nat.zero_le _) rfl ?_
    try dsimp only
    simp only [onX_s,onXI_s,onD_s,wx_nil,wx_cons,wx_p,wd_cons,wd_e,pv_t,put_some,pevP,getP,setP,nthO,Nat.zero_add]
    refine PDE.ev (Nat.zero_le _) ?_
    simp only [beq_self_eq_true,pv_t,put_none,onDE_s,pevE,getP,spliceP,overP,plainP,look,Option.map_some,Bool.and_true,↓reduceIte,Nat.reduceEqDiff,Bool.false_eq_true,allPlain,PW.wr,setO,killO,Bool.or_self,Bool.not_true]
    refine PDraw.last (Nat.zero_le _) rfl ?_
    try dsimp only
    simp only [wx_nil]
    repeat (refine PRun.wpn rfl ?_;simp only [wp,wo_nil,wo_p,onO_s,pv_t,pv_int,put_some,bi_add,pevP,getP,setP,Option.map_some])
    rw [wrap64 (by omega) (by omega)]
    refine Gh.mr (false::false::true::true::false::false::false::false::false::false::false::false::true::true::true::false::false::false::false::false::false::false::false::false::false::false::false::[]) [(0,0),(1,1),(4,2)] 3 rfl ?_
    refine ⟨ks.length - 1,by omega,1,rfl,by omega,rfl,.inr ⟨by omega,?_⟩⟩
    simp only [etake,List.take_zero,fL,List.take_zero,↓reduceIte,reduceCtorEq,Nat.reduceEqDiff,renL,renP,renO,renH,renA,lkN,List.nil_append]
   ·have q1:¬ i + 1≤i:=by omega
    have q2:¬ 140737488355328 < (2 * (i + 1) + 768) * 48:=by omega
    have q3:(fL (ks.take i)).length=i * 3:=by rw [fL_len,List.length_take,Nat.min_eq_left hi]
    have q4:=cut_all q3
    have q5:i ≠ 0:=by omega
    repeat (refine PRun.wpn rfl ?_;simp only [wp,wo_nil,wo_p,wo_r,wo_n,wo_st,onO_s,onN_s,onE_s,ble0,pv_t,ov_nil,ov_cons,ov_int,ov_str,ov_nilS,put_some,put_none,bi_lss,pevP,pevR,pevN,pevE,getP,setP,spliceP,overP,plainP,isCell,look,PW.push,List.length_cons,List.length_nil,Option.map_some,Int.natCast_nonneg,Int.toNat_natCast,and_self,Bool.and_true,↓reduceIte,ltL,lt,Nat.reduceAdd,Bool.false_eq_true,Nat.zero_add,allPlain,PW.wr,setO,killO,Bool.or_self,Bool.not_true,List.length_cons,List.length_nil,ltB_t hlt,hlt,hcut])
    refine PDraw.stage (Nat.zero_le _) rfl ?_
    try dsimp only
    simp only [onX_s,onXI_s,rdX_e,ltN,ltD_s,onD_s,wx_nil,wx_cons,wx_p,wx_r,wd_cons,wd_e,pv_t,put_some,pevP,pevR,getP,setP,nthO,look,PW.cs?,nthP,cut0,cutS,baseP,ROp.base,List.length_cons,List.length_nil,List.drop_zero,Option.map_some,Option.bind_some,Bool.and_true,↓reduceIte,Nat.reduceAdd,Nat.reduceEqDiff,Option.isSome_some,Nat.zero_add,List.length_cons,List.length_nil]
    refine PDE.pure hrec rfl ?_
    refine PDraw.stage (Nat.zero_le _) rfl ?_
    try dsimp only
    simp only [onXN_s,onXI_s,onD_s,wx_nil,wx_cons,wx_n,wd_cons,wd_e,pv_t,ov_nil,ov_cons,ov_int,ov_str,ov_nilS,put_some,pevN,getP,setP,nthO,fillP,spliceP,overP,PW.push,List.length_cons,List.length_nil,Option.map_some,Option.bind_some,Bool.and_true,↓reduceIte,ltL,lt,Nat.reduceAdd,Nat.zero_add,List.length_cons,List.length_nil]
    refine PDE.ev (Nat.zero_le _) ?_
    simp only [pv_t,put_some,onDE_s,pevE,getP,setP,lenP,srcP,appendP,plainP,isCell,look,PW.cs?,PW.push,cut0,cutS,List.drop_zero,Option.map_some,Option.bind_some,Bool.and_true,↓reduceIte,Nat.reduceAdd,Nat.reduceMul,Nat.reduceEqDiff,Bool.false_eq_true,Nat.zero_add,allPlain,setO,Bool.or_self,Bool.not_true,gt_iff_lt,q1,q2,q3,q4,bne_self_eq_false]
    refine PDraw.stage (Nat.zero_le _) rfl ?_
    try dsimp only
    simp only [onX_s,onXI_s,onD_s,wx_nil,wx_cons,wx_p,wd_cons,wd_e,pv_t,put_some,pevP,getP,setP,nthO,Nat.zero_add]
    refine PDE.ev (Nat.zero_le _) ?_
    simp only [beq_self_eq_true,pv_t,put_none,onDE_s,pevE,getP,spliceP,overP,plainP,look,Option.map_some,Bool.and_true,↓reduceIte,Nat.reduceEqDiff,Bool.false_eq_true,allPlain,PW.wr,setO,killO,Bool.or_self,Bool.not_true]
    refine PDraw.last (Nat.zero_le _) rfl ?_
    try dsimp only
    simp only [wx_nil]
    repeat (refine PRun.wpn rfl ?_;simp only [wp,wo_nil,wo_p,onO_s,pv_t,pv_int,put_some,bi_add,pevP,getP,setP,Option.map_some])
    rw [wrap64 (by omega) (by omega)]
    refine Gh.mr (false::false::true::true::false::false::false::false::false::false::false::false::true::true::true::false::false::false::false::false::false::false::false::false::false::false::false::[]) [(0,0),(1,1),(5,2)] 3 rfl ?_
    refine ⟨ks.length - (i + 1),by omega,i + 1,rfl,by omega,rfl,.inr ⟨by omega,?_⟩⟩
    simp only [← etake,renL_fL,↓reduceIte,reduceCtorEq,Nat.reduceEqDiff,renL,renP,renO,renH,renA,lkN]
  ·have hil:i=ks.length:=by omega
   subst hil
   rcases hπ with ⟨h0,rfl⟩ | ⟨hi0,rfl⟩
   ·have hk0:ks=[]:=List.length_eq_zero_iff.1 h0
    subst hk0
    repeat (refine PRun.wpn rfl ?_;simp only [wp,wo_nil,wo_p,wo_r,wo_st,onO_s,onE_s,ble0,pv_t,put_some,put_none,bi_lss,pevP,pevR,pevE,getP,setP,spliceP,overP,plainP,isCell,look,PW.cs?,cut0,cutS,List.length_cons,List.length_nil,List.drop_zero,Option.map_some,Option.bind_some,or_true,Nat.sub_zero,nc0,Int.lt_irrefl,true_and,Bool.and_true,↓reduceIte,reduceCtorEq,Nat.reduceAdd,Bool.false_eq_true,Nat.zero_add,allPlain,PW.wr,setO,killO,Bool.or_self,Bool.not_true,ltB_iff,List.length_cons,List.length_nil])
    refine .refl ⟨_,rfl,?_⟩
    exact .agg (.cons (.refl _) (.cons (.refl _) (.cons .nil_sz .nil)))
   ·rw [List.take_length]
    repeat (refine PRun.wpn rfl ?_;simp only [wp,wo_nil,wo_p,wo_r,wo_st,onO_s,onE_s,ble0,pv_t,put_some,put_none,bi_lss,pevP,pevR,pevE,getP,setP,spliceP,overP,plainP,isCell,look,PW.cs?,cut0,cutS,List.length_cons,List.length_nil,List.drop_zero,Option.map_some,Option.bind_some,or_true,true_and,Bool.and_true,↓reduceIte,reduceCtorEq,Nat.reduceAdd,Nat.reduceEqDiff,Bool.false_eq_true,Nat.zero_add,allPlain,PW.wr,setO,killO,Bool.or_self,Bool.not_true,List.length_cons,List.length_nil,ltB_f hlt])
    refine Gh.frz 2 rfl (pureL_fL ks) rfl ?_
    simp only [List.drop_zero,↓reduceIte,reduceCtorEq,Nat.reduceEqDiff,frzL,frzP,frzO,frzH,Nat.le_refl]
    refine .refl ⟨_,rfl,?_⟩
    exact .agg (.cons (.refl _) (.cons (.refl _) (.cons .sl_sz .nil)))
end
end Go.Proofs.YtnpoloachkcadaaGreatDoor.Ai
namespace Go.Proofs.YtnpoloachkcadaaGreatDoor.Ai
open Go
set_option linter.unusedVariables false
set_option linter.unusedSectionVars false
set_option maxRecDepth 10000
def dotS:ByteArray:=⟨#[46]⟩
noncomputable def belowS (itS:Nat→ByteArray) (p:ByteArray) (i:Nat):ByteArray:=if eqS p ⟨#[]⟩=true then itS i else p++dotS++itS i
mutual
noncomputable def Fm.visits (itS:Nat→ByteArray) (p:ByteArray):Fm→List (ByteArray × Fm)
 | .mk o n ks=>(p,.mk o n ks)::visitss itS p 0 ks
noncomputable def visitss (itS:Nat→ByteArray) (p:ByteArray) (i:Nat):List Fm→List (ByteArray × Fm)
 | []=>[]
 | k::ks=>k.visits itS (belowS itS p i)++visitss itS p (i + 1) ks
end
mutual
theorem visits_len (itS:Nat→ByteArray):∀ (f:Fm) (p:ByteArray),(f.visits itS p).length=f.size
 | .mk o n ks,p=>by simp only [Fm.visits,List.length_cons,visitss_len itS ks,Fm.size];omega
theorem visitss_len (itS:Nat→ByteArray):∀ (ks:List Fm) (p:ByteArray) (i:Nat),(visitss itS p i ks).length=sizes ks
 | [],p,i=>rfl
 | k::ks,p,i=>by simp only [visitss,List.length_append,visits_len itS k,visitss_len itS ks,sizes]
end
def PW.wf (π:PW):Prop:=∀ j o,look π.heap j=some o→j < π.next∧∀ cs ty esz ex ret al,o = .cells cs ty esz ex ret al→∀ k∈al,k < π.next
theorem PY.mono {C:Ctx} {b l:Nat} {args:List PV} {π:PW} {A B:PV→PW→Prop} (h:PY C b l args π A) (k:∀ r π,A r π→B r π):PY C b l args π B:=by
 intro F I η σ vargs a hG hs hr ha
 obtain ⟨v,σ',I',η',r,π',h1,h2,h4,h5,h6⟩:=h F I η σ _ a hG hs hr ha
 exact ⟨v,σ',I',η',r,π',h1,h2,h4,h5,k _ _ h6⟩
section
variable {C:Ctx} (hm:C.P.follows .mixedOrders=true) (hC:TabOK C.P C.ng C.ts Tryz.tab) {itS:Nat→ByteArray} (hI:∀ i:Nat,i < 2 ^ 40→PFun C 91 [.lit (.int .i64 (i:Nat))] (.lit (.string (itS i)))) (hIs:∀ i:Nat,i < 2 ^ 40→(itS i).size≤20)
include hm hC hI hIs
def WPost (S:Nat→PW→Prop) (T:PW→Prop) (k:Nat) (r:PV) (π':PW):Prop:=(r = .lit (.bool true)∧S k π')∨(r = .lit (.bool false)∧T π')
end
end Go.Proofs.YtnpoloachkcadaaGreatDoor.Ai
namespace Go.Proofs.YtnpoloachkcadaaGreatDoor.Ai
open Go
set_option linter.unusedVariables false
set_option linter.unusedSectionVars false
set_option maxRecDepth 10000
def as26:ICode:=(.ops [⟨(some 6),(.n (.new 27 3 [(.int .u8 0),(.string ⟨#[]⟩),(.slice none 0 0)])),none⟩,⟨none,(.e (.st 3 (.t 6) (.t 11))),none⟩])
def bo26:ICode:=(.block 1 (.seq (.ops [⟨(some 12),(.p (.faddr 0 (.t 6))),none⟩,⟨(some 13),(.r (.ld (.t 12))),none⟩,⟨(some 14),(.p (.bin .eql (.t 13) (.c (.int .u8 3)))),none⟩,⟨(some 15),(.p (.mov (.t 14))),none⟩,⟨(some 16),(.r (.ld (.t 4))),(some (15,true))⟩,⟨(some 17),(.p (.faddr 1 (.t 6))),(some (15,true))⟩,⟨(some 18),(.r (.ld (.t 17))),(some (15,true))⟩,⟨(some 19),(.r (.lookup .str (.int .i64 0) false (.t 16) (.t 18))),(some (15,true))⟩,⟨(some 20),(.p (.bin .eql (.t 19) (.c (.int .i64 0)))),(some (15,true))⟩,⟨(some 21),(.p (.pick (.t 15) (.t 20) (.c (.bool false)))),none⟩]) (.cond (.t 21) (.seq (.ops [⟨(some 22),(.r (.ld (.t 4))),none⟩,⟨(some 23),(.p (.faddr 1 (.t 6))),none⟩,⟨(some 24),(.r (.ld (.t 23))),none⟩,⟨(some 25),(.r (.lookup .str (.int .i64 0) false (.t 22) (.t 24))),none⟩,⟨(some 26),(.p (.bin .add (.t 25) (.c (.int .i64 1)))),none⟩,⟨none,(.e (.mapUpd .str (.t 22) (.t 24) (.t 26))),none⟩]) (.ops [⟨(some 27),(.r (.ld (.t 3))),none⟩,⟨(some 28),(.p (.faddr 1 (.t 6))),none⟩,⟨(some 29),(.r (.ld (.t 28))),none⟩,⟨(some 30),(.n (.buildSlice 9 1 1 [(.string ⟨#[]⟩)] [(0,(1,(.t 29)))])),none⟩,⟨(some 31),(.e (.append 9 1 16 [(.string ⟨#[]⟩)] (.t 27) (.t 30))),none⟩,⟨none,(.e (.st 1 (.t 3) (.t 31))),none⟩])) .skip)))
def sL (ns:List ByteArray):List PV:=ns.map fun s=>.lit (.string s)
def mE:Nat→List ByteArray→List (PV × PV × Nat)
 | _,[]=>[]
 | i,s::ns=>(.lit (.string s),.lit (.int .i64 1),i)::mE (i + 1) ns
open Classical in
noncomputable def addN (ns:List ByteArray) (f:Fm):List ByteArray:=if f.op=3∧f.name∉ns then ns++[f.name] else ns
noncomputable def Fm.names (itS:Nat→ByteArray) (f:Fm):List ByteArray:=((f.visits itS ⟨#[]⟩).map (·.2)).foldl addN []
section
variable {C:Ctx} (hm:C.P.follows .mixedOrders=true) (hC:TabOK C.P C.ng C.ts Tryz.tab) {itS:Nat→ByteArray} (hI:∀ i:Nat,i < 2 ^ 40→PFun C 91 [.lit (.int .i64 (i:Nat))] (.lit (.string (itS i)))) (hIs:∀ i:Nat,i < 2 ^ 40→(itS i).size≤20)
def namesL (f0:Fm):PObj:=.loop .ready none (.junk::.junk::.junk::.ptr 0 0::.ptr 2 0::.junk::.junk::.junk::.junk::.fn 92 [] [.ref (fC f0)]::.junk::.junk::.junk::.junk::.junk::.junk::.junk::.junk::.junk::.junk::.junk::.junk::.junk::.junk::.junk::.junk::.junk::.junk::.junk::.junk::.junk::.junk::.junk::[]) [10,11] as26 bo26
def namesS (f0:Fm) (ns:List ByteArray) (π:PW):Prop:=
 (ns=[]∧4≤π.next∧π.heap=[(3,namesL f0),(2,.cells [.map 1] 88 1 true false []),(1,.map [] 0),(0,.cells [.lit (.slice none 0 0)] 53 1 true false [])])∨
 (ns ≠ []∧5≤π.next∧π.heap=[(4,.cells (sL ns) 9 1 false false []),(3,namesL f0),(2,.cells [.map 1] 88 1 true false []),(1,.map (mE 0 ns) ns.length),(0,.cells [.loc 4 0 ns.length ns.length] 53 1 true false [])])
include hm hC hI hIs
end
noncomputable def nmsAt (itS:Nat→ByteArray) (f:Fm) (j:Nat):List ByteArray:=(((f.visits itS ⟨#[]⟩).take j).map (·.2)).foldl addN []
section
variable {C:Ctx} (hm:C.P.follows .mixedOrders=true) (hC:TabOK C.P C.ng C.ts Tryz.tab) {itS:Nat→ByteArray} (hI:∀ i:Nat,i < 2 ^ 40→PFun C 91 [.lit (.int .i64 (i:Nat))] (.lit (.string (itS i)))) (hIs:∀ i:Nat,i < 2 ^ 40→(itS i).size≤20)
include hm hC hI hIs
end
end Go.Proofs.YtnpoloachkcadaaGreatDoor.Ai
