/- A PART OF THE PROOF: a step of the proof that the law's code does what its contracts say, by an interpreter of the program's functions that is proved to be sound. -/
import Derived.Test.YtnpoloachkcadaaGreatDoorPv4
import Derived.Test.YtnpoloachkcadaaGreatDoorIrP
import Derived.Lib.Bytealg
import Derived.ChangeArms
import Derived.DataReads
namespace Go.Proofs.YtnpoloachkcadaaGreatDoor.Ai
set_option linter.unusedSimpArgs false
open Go
set_option linter.unusedVariables false
set_option linter.unusedSectionVars false
set_option maxRecDepth 10000
def mkPuA1:List Bool:=(false::true::true::false::false::true::true::false::false::false::false::false::false::false::false::false::false::false::false::false::false::false::false::false::false::false::false::false::false::false::false::false::false::false::false::[])
def mkPuA2:List Bool:=(true::false::false::false::false::false::false::false::false::false::false::false::false::true::true::false::false::false::false::false::false::false::false::false::false::false::false::false::false::false::false::false::false::false::false::[])
def mkPuA3:List Bool:=(true::false::false::true::true::false::false::false::false::false::false::false::false::false::false::false::false::false::false::false::false::false::false::false::[])
def mkPuA4:List Bool:=(true::true::false::false::false::false::true::false::false::false::false::false::false::false::false::false::false::false::false::false::false::false::false::false::false::false::false::false::false::false::false::false::false::false::false::false::false::false::false::false::false::false::false::false::false::false::false::false::false::false::false::false::false::false::false::false::false::false::false::false::false::false::false::false::false::false::false::[])
inductive Fm where
 | mk (op:Nat) (name:ByteArray) (kids:List Fm)
def Fm.op:Fm→Nat | .mk o _ _=>o
def Fm.name:Fm→ByteArray | .mk _ n _=>n
def Fm.kids:Fm→List Fm | .mk _ _ k=>k
mutual
def fC:Fm→List PV
 | .mk o n ks=>[.lit (.int .u8 (o:Nat)),.lit (.string n),.sz (fL ks) ks.length]
def fL:List Fm→List PV
 | []=>[]
 | k::ks=>fC k++fL ks
end
def fP (f:Fm):PV:=.agg (fC f)
theorem fC_len (f:Fm):(fC f).length=3:=by cases f;simp [fC]
theorem fL_len:∀ ks:List Fm,(fL ks).length=ks.length * 3
 | []=>by simp [fL]
 | k::ks=>by simp [fL,fC_len,fL_len ks];omega
theorem fL_app:∀ a b:List Fm,fL (a++b)=fL a++fL b
 | [],b=>by simp [fL]
 | k::a,b=>by simp [fL,fL_app a b,List.append_assoc]
theorem fL_drop:∀ (ks:List Fm) (i:Nat),(fL ks).drop (i * 3)=fL (ks.drop i)
 | ks,0=>by simp
 | [],i + 1=>by simp [fL]
 | k::ks,i + 1=>by
  have e:(i + 1) * 3=(fC k).length + i * 3:=by rw [fC_len];omega
  simp only [fL,List.drop_succ_cons]
  rw [e,← List.drop_drop,List.drop_left]
  exact fL_drop ks i
theorem cut_app {l r:List PV} {n:Nat} (h:l.length=n):cutP n (l++r)=some l:=by
 subst h
 unfold cutP
 rw [if_pos (by simp),List.take_left]
theorem fL_cut {ks:List Fm} {i:Nat} {k:Fm} (h:ks[i]? = some k):cutP 3 ((fL ks).drop (i * 3))=some (fC k):=by
 rw [fL_drop]
 obtain ⟨hi,rfl⟩:=List.getElem?_eq_some_iff.1 h
 rw [List.drop_eq_getElem_cons hi,fL]
 exact cut_app (fC_len _)
mutual
theorem pureL_fC:∀ f:Fm,pureL (fC f)=true
 | .mk o n ks=>by simp [fC,pureL,pureP]
theorem pureL_fL:∀ ks:List Fm,pureL (fL ks)=true
 | []=>rfl
 | k::ks=>by simp [fL,pureL_append,pureL_fC k,pureL_fL ks]
end
mutual
theorem allPlain_fC:∀ f:Fm,allPlain (fC f)=true
 | .mk o n ks=>by simp [fC,allPlain,plainP,isCell]
theorem allPlain_fL:∀ ks:List Fm,allPlain (fL ks)=true
 | []=>rfl
 | k::ks=>by simp [fL,allPlain_append,allPlain_fC k,allPlain_fL ks]
end
mutual
def Fm.size:Fm→Nat
 | .mk _ _ ks=>1 + sizes ks
def sizes:List Fm→Nat
 | []=>0
 | k::ks=>k.size + sizes ks
end
mutual
def Fm.depth:Fm→Nat
 | .mk _ _ ks=>depths ks + 1
def depths:List Fm→Nat
 | []=>0
 | k::ks=>max k.depth (depths ks)
end
theorem Fm.size_pos:∀ f:Fm,0 < f.size
 | .mk _ _ ks=>by simp [Fm.size];omega
theorem sizes_app:∀ a b:List Fm,sizes (a++b)=sizes a + sizes b
 | [],b=>by simp [sizes]
 | k::a,b=>by simp [sizes,sizes_app a b];omega
theorem sizes_take {ks:List Fm} {i:Nat} {k:Fm} (h:ks[i]? = some k):sizes (ks.take (i + 1))=sizes (ks.take i) + k.size:=by
 rw [List.take_add_one,h,sizes_app];simp [sizes]
theorem sizes_le:∀ (ks:List Fm) (i:Nat),sizes (ks.take i)≤sizes ks
 | ks,i=>by
  have:=sizes_app (ks.take i) (ks.drop i)
  rw [List.take_append_drop] at this;omega
theorem size_kid {ks:List Fm} {i:Nat} {k:Fm} (h:ks[i]? = some k):k.size≤sizes ks:=by
 have h1:=sizes_take h
 have h2:=sizes_le ks (i + 1)
 omega
theorem len_sizes:∀ ks:List Fm,ks.length≤sizes ks
 | []=>by simp [sizes]
 | k::ks=>by have:=k.size_pos;have:=len_sizes ks;simp [sizes];omega
mutual
theorem depth_size:∀ f:Fm,f.depth≤f.size
 | .mk _ _ ks=>by have:=depths_sizes ks;simp [Fm.size,Fm.depth];omega
theorem depths_sizes:∀ ks:List Fm,depths ks≤sizes ks
 | []=>by simp [sizes,depths]
 | k::ks=>by have:=depth_size k;have:=depths_sizes ks;simp [sizes,depths];omega
end
section
variable {C:Ctx} (hm:C.P.follows .mixedOrders=true) (hC:TabOK C.P C.ng C.ts Tryz.tab)
include hm hC
end
mutual
def Fm.wt (d:Nat):Fm→Nat
 | .mk _ nm ks=>if 2000 < d then 2147483648 else wts (d + 1) (1 + nm.size) ks
def wts (d:Nat) (n:Nat):List Fm→Nat
 | []=>n
 | k::ks=>if n≤2147483647 then wts d (n + k.wt d) ks else n
end
mutual
def Fm.ok:Fm→Prop
 | .mk _ nm ks=>nm.size < 2 ^ 50∧ks.length < 2 ^ 50∧oks ks
def oks:List Fm→Prop
 | []=>True
 | k::ks=>k.ok∧oks ks
end
theorem oks_get:∀ {ks:List Fm} {i:Nat} {k:Fm},oks ks→ks[i]? = some k→k.ok
 | [],i,k,_,h=>by simp at h
 | x::ks,0,k,ho,h=>by simp at h;subst h;exact ho.1
 | x::ks,i + 1,k,ho,h=>oks_get (i:=i) ho.2 (by simpa using h)
theorem oks_take:∀ {ks:List Fm},oks ks→∀ i,oks (ks.take i)
 | [],_,i=>by simp [oks]
 | x::ks,h,0=>by simp [oks]
 | x::ks,h,i + 1=>⟨h.1,oks_take h.2 i⟩
mutual
theorem wt_le:∀ (f:Fm) (d:Nat),f.ok→d≤2001→f.wt d≤(2002 - d) * 2147483648 + 2251799813685248
 | .mk _ nm ks,d,ho,hd=>by
  simp only [Fm.ok] at ho
  simp only [Fm.wt]
  by_cases h:2000 < d
  ·rw [if_pos h]
   generalize hX:(2002 - d) * 2147483648=X
   exact Nat.le_trans (Nat.le_of_ble_eq_true rfl:2147483648≤2251799813685248) (Nat.le_add_left _ _)
  ·rw [if_neg h]
   have:=wts_le ks (d + 1) (1 + nm.size) ho.2.2 (by omega) (by
    have:1 + nm.size≤2251799813685248:=by omega
    exact Nat.le_trans this (Nat.le_add_left _ _))
   have e:2003 - (d + 1)=2002 - d:=by omega
   rw [e] at this;exact this
theorem wts_le:∀ (ks:List Fm) (d n:Nat),oks ks→d≤2001→n≤(2003 - d) * 2147483648 + 2251799813685248→wts d n ks≤(2003 - d) * 2147483648 + 2251799813685248
 | [],d,n,_,_,hn=>by simpa [wts] using hn
 | k::ks,d,n,ho,hd,hn=>by
  simp only [oks] at ho
  simp only [wts]
  split
  ·have:=wt_le k d ho.1 hd
   exact wts_le ks d (n + k.wt d) ho.2 hd (by omega)
  ·exact hn
end
theorem wts_app:∀ (a b:List Fm) (d n:Nat),wts d n (a++b)=wts d (wts d n a) b
 | [],b,d,n=>by simp [wts]
 | k::a,b,d,n=>by
  simp only [List.cons_append,wts]
  split
  ·exact wts_app a b d _
  ·rename_i h
   cases b with
   | nil=>simp [wts]
   | cons x b=>simp [wts,h]
theorem wts_stop:∀ (b:List Fm) (d n:Nat),¬ n≤2147483647→wts d n b=n
 | [],d,n,_=>rfl
 | k::b,d,n,h=>by simp [wts,h]
theorem wts_take {ks:List Fm} {i:Nat} {k:Fm} (d n:Nat) (h:ks[i]? = some k) (hn:wts d n (ks.take i)≤2147483647):wts d n (ks.take (i + 1))=wts d n (ks.take i) + k.wt d:=by
 rw [List.take_add_one,h,wts_app];simp [wts,hn]
mutual
def Fm.pw:Fm→Nat
 | .mk _ nm ks=>1 + nm.size + pws ks
def pws:List Fm→Nat
 | []=>0
 | k::ks=>k.pw + pws ks
end
theorem wts_ge:∀ (ks:List Fm) (d n:Nat),n≤wts d n ks
 | [],d,n=>Nat.le_refl _
 | k::ks,d,n=>by
  simp only [wts]
  split
  ·have:=wts_ge ks d (n + k.wt d);omega
  ·exact Nat.le_refl _
mutual
theorem wt_plain:∀ (f:Fm) (d:Nat),f.wt d≤2147483647→f.wt d=f.pw∧d + f.depth≤2001
 | .mk _ nm ks,d,h=>by
  simp only [Fm.wt] at h ⊢
  split at h
  ·omega
  ·rename_i hd
   rw [if_neg hd]
   obtain ⟨h1,h2⟩:=wts_plain ks (d + 1) (1 + nm.size) h
   simp only [Fm.pw,Fm.depth]
   refine ⟨by omega,?_⟩
   rcases Nat.eq_zero_or_pos (depths ks) with h0 | h0
   ·omega
   ·have:=h2 h0;omega
theorem wts_plain:∀ (ks:List Fm) (d n:Nat),wts d n ks≤2147483647→wts d n ks=n + pws ks∧(0 < depths ks→d + depths ks≤2001)
 | [],d,n,h=>by simp [wts,pws,depths]
 | k::ks,d,n,h=>by
  simp only [wts] at h ⊢
  have hn:n≤2147483647:=by
   split at h
   ·rename_i hc;exact hc
   ·omega
  rw [if_pos hn] at h ⊢
  obtain ⟨h1,h2⟩:=wts_plain ks d (n + k.wt d) h
  have h3:=wts_ge ks d (n + k.wt d)
  obtain ⟨h4,h5⟩:=wt_plain k d (by omega)
  simp only [pws,depths]
  refine ⟨by omega,fun _=>?_⟩
  rcases Nat.le_total k.depth (depths ks) with hm | hm
  ·rw [Nat.max_eq_right hm]
   rcases Nat.eq_zero_or_pos (depths ks) with h0 | h0
   ·omega
   ·exact h2 h0
  ·rw [Nat.max_eq_left hm];exact h5
end
mutual
theorem size_pw:∀ f:Fm,f.size≤f.pw
 | .mk _ nm ks=>by have:=sizes_pws ks;simp [Fm.size,Fm.pw];omega
theorem sizes_pws:∀ ks:List Fm,sizes ks≤pws ks
 | []=>by simp [sizes,pws]
 | k::ks=>by have:=size_pw k;have:=sizes_pws ks;simp [sizes,pws];omega
end
def muchF (l:List Fm):Nat→Nat→Nat
 | 0,n=>n
 | _ + 1,n=>n
section
variable {C:Ctx} (hm:C.P.follows .mixedOrders=true) (hC:TabOK C.P C.ng C.ts Tryz.tab)
include hm hC
theorem wt_ok:∀ (n:Nat) (f:Fm) (d:Nat),f.size≤n→f.ok→d≤2001→PFun C 106 [fP f,.lit (.int .i64 (d:Nat))] (.lit (.int .i64 (f.wt d:Nat))):=by
 intro n
 induction n with
 | zero=>intro f d h;have:=f.size_pos;omega
 | succ n ih=>
  intro f d hf ho hd
  obtain ⟨o,nm,ks⟩:=f
  simp only [Fm.size] at hf
  simp only [Fm.ok] at ho
  have hw:IntKind.i64.wrap (1 + (nm.size:Nat))=((1 + nm.size:Nat):Int):=by rw [wrap64 (by omega) (by omega)];omega
  refine PFun.body hm hC (show Tryz.tab.get 106=some Tryz.c106 from rfl) rfl ?_
  simp only [SW,Tryz.c106,startP,Nat.reduceAdd,Nat.reduceSub,List.replicate,fP,fC]
  by_cases hd2:(2000:Int) < (d:Nat)
  ·repeat (refine PRun.wpn rfl ?_;simp only [SW,↓reduceIte,reduceCtorEq,hw,ltB_t hd2])
   refine .refl ⟨_,rfl,?_⟩
   simp only [Fm.wt]
   rw [if_pos (by omega)]
   exact .refl _
  ·repeat (refine PRun.wpn rfl ?_;simp only [SW,↓reduceIte,reduceCtorEq,hw,ltB_f hd2])
   refine PRun.gh (Gh.mr mkPuA1 [(0,0)] 1 rfl ?_)
   simp only [mkPuA1,SW,↓reduceIte]
   refine PRun.loopG (fun m t π=>∃ i:Nat,t=(.junk::.lit (.int .i64 (d:Nat))::.ptr 0 0::.junk::.junk::.lit (.int .i64 (wts (d + 1) (1 + nm.size) (ks.take i):Nat))::.lit (.int .i64 (i:Nat))::.junk::.junk::.junk::.junk::.junk::.junk::.junk::.junk::.junk::.junk::.junk::.junk::.junk::.junk::.junk::.junk::.junk::.junk::.junk::.junk::.junk::.junk::.junk::.junk::.junk::.junk::.junk::.junk::[])∧i≤ks.length∧m=ks.length - i∧π=⟨1,[(0,.cells [.lit (.int .u8 (o:Nat)),.lit (.string nm),.sz (fL ks) ks.length] 27 3 true false [])]⟩) ?_ ks.length _ _ ⟨0,by simp [wts],by omega,rfl,rfl⟩
   rintro m t π ⟨i,rfl,hi,rfl,rfl⟩
   have hb:=wts_le (ks.take i) (d + 1) (1 + nm.size) (oks_take ho.2.2 i) (by omega) (by omega)
   by_cases hlt:(i:Int) < (ks.length:Nat)
   ·by_cases hle:((wts (d + 1) (1 + nm.size) (ks.take i):Nat):Int)≤2147483647
    ·obtain ⟨k,hk⟩:∃ k,ks[i]? = some k:=⟨ks[i]'(by omega),List.getElem?_eq_getElem (by omega)⟩
     have h1:=size_kid hk
     have h2:=wts_take (d + 1) (1 + nm.size) hk (by omega)
     have hcut:=fL_cut hk
     have hrec:=ih k (d + 1) (by omega) (oks_get ho.2.2 hk) (by omega)
     have h4:=wt_le k (d + 1) (oks_get ho.2.2 hk) (by omega)
     have ew:IntKind.i64.wrap ((d:Nat) + 1)=((d + 1:Nat):Int):=by rw [wrap64 (by omega) (by omega)];omega
     obtain ⟨o',nm',ks'⟩:=k
     simp only [fP,fC] at hrec hcut
     repeat (refine PRun.wpn rfl ?_;simp only [SW,↓reduceIte,ltB_t hlt,leB_t hle,hlt,hcut,ew])
     refine .refl (PFun.to (hrec) rfl (POps.wp ?_))
     simp only [SW]
     repeat (refine PRun.wpn rfl ?_;simp only [SW])
     have e:((wts (d + 1) (1 + nm.size) (ks.take i):Nat):Int) + ((Fm.mk o' nm' ks').wt (d + 1):Nat)=((wts (d + 1) (1 + nm.size) (ks.take (i + 1)):Nat):Int):=by rw [h2];omega
     rw [wrap64 (by omega) (by omega),wrap64 (by omega) (by omega),e]
     refine Gh.mr mkPuA1 [(0,0)] 1 rfl ?_
     exact ⟨ks.length - (i + 1),by omega,i + 1,rfl,by omega,rfl,rfl⟩
    ·repeat (refine PRun.wpn rfl ?_;simp only [SW,↓reduceIte,reduceCtorEq,ltB_t hlt,leB_f hle])
     refine .refl ⟨_,rfl,?_⟩
     simp only [Fm.wt]
     rw [if_neg (by omega)]
     have:wts (d + 1) (1 + nm.size) ks=wts (d + 1) (1 + nm.size) (ks.take i):=by
      have h:=wts_app (ks.take i) (ks.drop i) (d + 1) (1 + nm.size)
      rw [List.take_append_drop] at h
      rw [h,wts_stop _ _ _ (by omega)]
     rw [this]
     exact .refl _
   ·have hil:i=ks.length:=by omega
    subst hil
    repeat (refine PRun.wpn rfl ?_;simp only [SW,↓reduceIte,reduceCtorEq,ltB_f hlt])
    refine .refl ⟨_,rfl,?_⟩
    simp only [Fm.wt]
    rw [if_neg (by omega),List.take_length]
    exact .refl _
theorem weight_ok (f:Fm) (ho:f.ok):PFun C 56 [fP f] (.lit (.int .i64 (f.wt 0:Nat))):=by
 have h:=wt_ok hm hC f.size f 0 (Nat.le_refl _) ho (by omega)
 obtain ⟨o,nm,ks⟩:=f
 simp only [fP,fC,nc0] at h
 refine PFun.body hm hC (show Tryz.tab.get 56=some Tryz.c56 from rfl) rfl ?_
 simp only [SW,Tryz.c56,startP,Nat.reduceAdd,Nat.reduceSub,List.replicate,fP,fC]
 repeat (refine PRun.wpn rfl ?_;simp only [SW,↓reduceIte])
 refine .refl (PFun.to (h) rfl (POps.wp ?_))
 simp only [SW]
 repeat (refine PRun.wpn rfl ?_;simp only [wp,or_true,true_and,reduceCtorEq])
 exact .refl ⟨_,rfl,.refl _⟩
end
end Go.Proofs.YtnpoloachkcadaaGreatDoor.Ai
namespace Go.Proofs.YtnpoloachkcadaaGreatDoor.Ai
set_option linter.unusedSimpArgs false
open Go
set_option linter.unusedVariables false
set_option linter.unusedSectionVars false
set_option maxRecDepth 10000
def charOK (c:UInt8):Prop:=32≤c.toNat∧c.toNat≤126∧c.toNat ≠ 34∧c.toNat ≠ 92
def nameOK (s:ByteArray):Prop:=0 < s.size∧s.size≤32∧∀ (i:Nat) (h:i < s.size),charOK s[i]
open Classical in
noncomputable def yesB (p:Prop):Bool:=decide p
theorem yes_t {p:Prop} (h:p):yesB p=true:=by simp [yesB,h]
theorem yes_f {p:Prop} (h:¬ p):yesB p=false:=by simp [yesB,h]
theorem size_empty (s:ByteArray):s=⟨#[]⟩↔s.size=0:=by
 constructor
 ·rintro rfl;rfl
 ·intro h
  have h1:s.data.toList.length=0:=by rw [ba_size];exact h
  exact ba_ext (List.length_eq_zero_iff.1 h1)
section
variable {C:Ctx} (hm:C.P.follows .mixedOrders=true) (hC:TabOK C.P C.ng C.ts Tryz.tab)
include hm hC
theorem name_ok (s:ByteArray) (hs:s.size < 2 ^ 60):PFun C 100 [.lit (.string s)] (.lit (.bool (yesB (nameOK s)))):=by
 refine PFun.body hm hC (show Tryz.tab.get 100=some Tryz.c100 from rfl) rfl ?_
 simp only [SW,Tryz.c100,startP,Nat.reduceAdd,Nat.reduceSub,List.replicate]
 by_cases h0:s=⟨#[]⟩
 ·repeat (refine PRun.wpn rfl ?_;simp only [SW,↓reduceIte,reduceCtorEq,eqS_t h0])
  rw [yes_f (fun h=>by have:=h.1;rw [(size_empty s).1 h0] at this;omega)]
  exact .refl ⟨_,rfl,.refl _⟩
 have hs0:s.size ≠ 0:=fun h=>h0 ((size_empty s).2 h)
 by_cases h1:(32:Int) < (s.size:Nat)
 ·repeat (refine PRun.wpn rfl ?_;simp only [SW,↓reduceIte,reduceCtorEq,eqS_f h0,ltB_t h1])
  rw [yes_f (fun h=>by have:=h.2.1;omega)]
  exact .refl ⟨_,rfl,.refl _⟩
 repeat (refine PRun.wpn rfl ?_;simp only [SW,↓reduceIte,reduceCtorEq,eqS_f h0,ltB_f h1])
 refine PRun.gh (Gh.mr mkPuA2 [] 0 rfl ?_)
 simp only [mkPuA2,SW,↓reduceIte]
 refine PRun.loopG (fun m t π=>∃ i:Nat,t=(.lit (.string s)::.junk::.junk::.junk::.junk::.junk::.junk::.junk::.junk::.junk::.junk::.junk::.junk::.lit (.int .i64 (s.size:Nat))::.lit (.int .i64 (i:Nat))::.junk::.junk::.junk::.junk::.junk::.junk::.junk::.junk::.junk::.junk::.junk::.junk::.junk::.junk::.junk::.junk::.junk::.junk::.junk::.junk::[])∧i≤s.size∧m=s.size - i∧π=⟨0,[]⟩∧∀ (j:Nat) (h:j < s.size),j < i→charOK s[j]) ?_ s.size _ _ ⟨0,rfl,by omega,rfl,rfl,fun j h h'=>by omega⟩
 rintro m t π ⟨i,rfl,hi,rfl,rfl,hall⟩
 repeat (refine PRun.wpn rfl ?_;simp only [SW,↓reduceIte])
 split
 ·rename_i hlt
  have hil:i < s.size:=by omega
  have hc:=idx_some hil
  have bad:¬ charOK s[i]→yesB (nameOK s)=false:=fun hb=>yes_f fun h=>hb (h.2.2 i hil)
  generalize hcc:s[i]=c at hc bad
  by_cases c1:((c.toNat:Nat):Int) < 32
  ·repeat (refine PRun.wpn rfl ?_;simp only [SW,↓reduceIte,reduceCtorEq,hc,ltB_t c1])
   rw [bad (fun h=>by have:=h.1;omega)]
   exact .refl ⟨_,rfl,.refl _⟩
  by_cases c2:126 < ((c.toNat:Nat):Int)
  ·repeat (refine PRun.wpn rfl ?_;simp only [SW,↓reduceIte,reduceCtorEq,hc,ltB_f c1,ltB_t c2])
   rw [bad (fun h=>by have:=h.2.1;omega)]
   exact .refl ⟨_,rfl,.refl _⟩
  by_cases c3:((c.toNat:Nat):Int)=34
  ·repeat (refine PRun.wpn rfl ?_;simp only [SW,↓reduceIte,reduceCtorEq,hc,ltB_f c1,ltB_f c2,eqB_t c3])
   rw [bad (fun h=>by have:=h.2.2.1;omega)]
   exact .refl ⟨_,rfl,.refl _⟩
  by_cases c4:((c.toNat:Nat):Int)=92
  ·repeat (refine PRun.wpn rfl ?_;simp only [SW,↓reduceIte,reduceCtorEq,hc,ltB_f c1,ltB_f c2,eqB_f c3,eqB_t c4])
   rw [bad (fun h=>by have:=h.2.2.2;omega)]
   exact .refl ⟨_,rfl,.refl _⟩
  repeat (refine PRun.wpn rfl ?_;simp only [SW,↓reduceIte,hc,ltB_f c1,ltB_f c2,eqB_f c3,eqB_f c4])
  rw [wrap64 (by omega) (by omega)]
  refine Gh.mr mkPuA2 [] 0 rfl ?_
  refine ⟨s.size - (i + 1),by omega,i + 1,rfl,by omega,rfl,rfl,fun j h hj=>?_⟩
  by_cases hji:j=i
  ·subst hji;rw [hcc];exact ⟨by omega,by omega,by omega,by omega⟩
  ·exact hall j h (by omega)
 ·rename_i hge
  have hil:i=s.size:=by omega
  subst hil
  repeat (refine PRun.wpn rfl ?_;simp only [SW,reduceCtorEq])
  rw [yes_t ⟨by omega,by omega,fun j h=>hall j h h⟩]
  exact .refl ⟨_,rfl,.refl _⟩
end
def kt:List Int:=[-1,0,0,0,1,2,2,2,2,1,1,1,2,2,2,2,1,1,1,1,2,2]
def kidsC:List PV:=kt.map fun z=>.lit (.int .i8 z)
theorem kidsC_drop {o:Nat} (h:o < 22):kidsC.drop o = .lit (.int .i8 (kt.getD o 0))::kidsC.drop (o + 1):=by
 have hl:o < kidsC.length:=by simp [kidsC,kt];omega
 rw [List.drop_eq_getElem_cons hl]
 congr 1
 have:o < kt.length:=by simp [kt];omega
 simp [kidsC,List.getD,List.getElem?_eq_getElem this]
mutual
def Fm.formed (tk:Nat→Bool):Fm→Prop
 | .mk o nm ks=>o < 22∧0≤kt.getD o 0∧(ks.length:Int)=kt.getD o 0∧tk o=true∧(o=3→nameOK nm)∧(o ≠ 3→nm=⟨#[]⟩)∧formeds tk ks
def formeds (tk:Nat→Bool):List Fm→Prop
 | []=>True
 | k::ks=>k.formed tk∧formeds tk ks
end
theorem formeds_iff {tk:Nat→Bool}:∀ {ks:List Fm},formeds tk ks↔∀ (i:Nat) (k:Fm),ks[i]? = some k→k.formed tk
 | []=>by simp [formeds]
 | x::ks=>by
  simp only [formeds,formeds_iff (ks:=ks)]
  constructor
  ·rintro ⟨h1,h2⟩ i k hk
   cases i with
   | zero=>simp at hk;subst hk;exact h1
   | succ i=>exact h2 i k (by simpa using hk)
  ·intro h
   exact ⟨h 0 x rfl,fun i k hk=>h (i + 1) k (by simpa using hk)⟩
mutual
def Fm.opsOK:Fm→Prop
 | .mk o _ ks=>o < 256∧opsOKs ks
def opsOKs:List Fm→Prop
 | []=>True
 | k::ks=>k.opsOK∧opsOKs ks
end
theorem opsOKs_get:∀ {ks:List Fm} {i:Nat} {k:Fm},opsOKs ks→ks[i]? = some k→k.opsOK
 | [],i,k,_,h=>by simp at h
 | x::ks,0,k,ho,h=>by simp at h;subst h;exact ho.1
 | x::ks,i + 1,k,ho,h=>opsOKs_get (i:=i) ho.2 (by simpa using h)
def tkP (g:FuncId):PV:=.fn g [] []
section
variable {C:Ctx} (hm:C.P.follows .mixedOrders=true) (hC:TabOK C.P C.ng C.ts Tryz.tab)
include hm hC
theorem idxF_ok (ks:List Fm) (p:Fm→Bool) (g:FuncId) (hl:ks.length < 2 ^ 60) (hp:∀ (i:Nat) (k:Fm),ks[i]? = some k→PFun C 125 [fP k,.ref [tkP g]] (.lit (.bool (p k)))) :
  ∃ r:Int,(yesB (0≤r)=yesB (∃ (i:Nat) (k:Fm),ks[i]? = some k∧p k=true))∧PFun C 147 [.sz (fL ks) ks.length,.fn 125 [] [.ref [tkP g]]] (.lit (.int .i64 r)):=by
 by_cases hex:∃ (i:Nat) (k:Fm),ks[i]? = some k∧p k=true
 ·obtain ⟨m,⟨km,hkm,hpm⟩,hmin⟩:∃ m,(∃ k,ks[m]? = some k∧p k=true)∧∀ j,j < m→∀ k,ks[j]? = some k→p k=false:=by
   obtain ⟨i,hi⟩:=hex
   induction i using Nat.strongRecOn with
   | ind i ih=>
    by_cases h:∃ j,j < i∧∃ k,ks[j]? = some k∧p k=true
    ·obtain ⟨j,hj,hk⟩:=h;exact ih j hj hk
    ·refine ⟨i,hi,fun j hj k hk=>?_⟩
     cases hpk:p k with
     | false=>rfl
     | true=>exact absurd ⟨j,hj,k,hk,hpk⟩ h
  have hml:=(List.getElem?_eq_some_iff.1 hkm).1
  refine ⟨(m:Nat),by rw [yes_t (by omega),yes_t ⟨m,km,hkm,hpm⟩],?_⟩
  refine PFun.body hm hC (show Tryz.tab.get 147=some Tryz.c147 from rfl) rfl ?_
  simp only [SW,Tryz.c147,startP,Nat.reduceAdd,Nat.reduceSub,List.replicate]
  repeat (refine PRun.wpn rfl ?_;simp only [SW,reduceCtorEq])
  refine PRun.gh (Gh.mr (true::true::false::false::false::false::false::true::true::false::false::false::false::false::false::false::false::false::false::[]) [] 0 rfl ?_)
  simp only [SW,↓reduceIte]
  refine PRun.loopG (fun n t π=>∃ i:Nat,t=(.sz (fL ks) ks.length::.fn 125 [] [.ref [tkP g]]::.junk::.junk::.junk::.junk::.junk::.lit (.int .i64 (ks.length:Nat))::.lit (.int .i64 (i:Nat))::.junk::.junk::.junk::.junk::.junk::.junk::.junk::.junk::.junk::.junk::[])∧i≤m∧n=m - i∧π=⟨0,[]⟩) ?_ m _ _ ⟨0,rfl,by omega,rfl,rfl⟩
  rintro n t π ⟨i,rfl,hi,rfl,rfl⟩
  obtain ⟨k,hk⟩:∃ k,ks[i]? = some k:=⟨ks[i]'(by omega),List.getElem?_eq_getElem (by omega)⟩
  have hlt:((i:Nat):Int) < (ks.length:Nat):=by omega
  have hcut:=fL_cut hk
  have hcl:=hp i k hk
  have hmi:=hmin i
  obtain ⟨o',nm',ks'⟩:=k
  simp only [fP,fC] at hcl hcut
  by_cases him:i=m
  ·subst him
   rw [hkm] at hk;cases hk
   rw [hpm] at hcl
   repeat (refine PRun.wpn rfl ?_;simp only [SW,↓reduceIte,ltB_t hlt,hlt,hcut])
   refine .refl (PFun.to hcl rfl (POps.wp ?_))
   simp only [wo_nil,setP]
   repeat (refine PRun.wpn rfl ?_;simp only [SW,↓reduceIte,reduceCtorEq])
   exact .refl ⟨_,rfl,.refl _⟩
  ·rw [hmi (by omega) _ hk] at hcl
   repeat (refine PRun.wpn rfl ?_;simp only [SW,↓reduceIte,ltB_t hlt,hlt,hcut])
   refine .refl (PFun.to hcl rfl (POps.wp ?_))
   simp only [wo_nil,setP]
   repeat (refine PRun.wpn rfl ?_;simp only [SW,↓reduceIte])
   rw [wrap64 (by omega) (by omega)]
   refine Gh.mr (true::true::false::false::false::false::false::true::true::false::false::false::false::false::false::false::false::false::false::[]) [] 0 rfl ?_
   exact ⟨m - (i + 1),by omega,i + 1,rfl,by omega,rfl,rfl⟩
 ·refine ⟨-1,by rw [yes_f (by omega),yes_f hex],?_⟩
  refine PFun.body hm hC (show Tryz.tab.get 147=some Tryz.c147 from rfl) rfl ?_
  simp only [SW,Tryz.c147,startP,Nat.reduceAdd,Nat.reduceSub,List.replicate]
  repeat (refine PRun.wpn rfl ?_;simp only [SW,reduceCtorEq])
  refine PRun.gh (Gh.mr (true::true::false::false::false::false::false::true::true::false::false::false::false::false::false::false::false::false::false::[]) [] 0 rfl ?_)
  simp only [SW,↓reduceIte]
  refine PRun.loopG (fun n t π=>∃ i:Nat,t=(.sz (fL ks) ks.length::.fn 125 [] [.ref [tkP g]]::.junk::.junk::.junk::.junk::.junk::.lit (.int .i64 (ks.length:Nat))::.lit (.int .i64 (i:Nat))::.junk::.junk::.junk::.junk::.junk::.junk::.junk::.junk::.junk::.junk::[])∧i≤ks.length∧n=ks.length - i∧π=⟨0,[]⟩) ?_ ks.length _ _ ⟨0,rfl,by omega,rfl,rfl⟩
  rintro n t π ⟨i,rfl,hi,rfl,rfl⟩
  by_cases hlt:((i:Nat):Int) < (ks.length:Nat)
  ·obtain ⟨k,hk⟩:∃ k,ks[i]? = some k:=⟨ks[i]'(by omega),List.getElem?_eq_getElem (by omega)⟩
   have hcut:=fL_cut hk
   have hcl:=hp i k hk
   have hpk:p k=false:=by
    cases h:p k with
    | false=>rfl
    | true=>exact absurd ⟨i,k,hk,h⟩ hex
   rw [hpk] at hcl
   obtain ⟨o',nm',ks'⟩:=k
   simp only [fP,fC] at hcl hcut
   repeat (refine PRun.wpn rfl ?_;simp only [SW,↓reduceIte,ltB_t hlt,hlt,hcut])
   refine .refl (PFun.to hcl rfl (POps.wp ?_))
   simp only [wo_nil,setP]
   repeat (refine PRun.wpn rfl ?_;simp only [SW,↓reduceIte])
   rw [wrap64 (by omega) (by omega)]
   refine Gh.mr (true::true::false::false::false::false::false::true::true::false::false::false::false::false::false::false::false::false::false::[]) [] 0 rfl ?_
   exact ⟨ks.length - (i + 1),by omega,i + 1,rfl,by omega,rfl,rfl⟩
  ·repeat (refine PRun.wpn rfl ?_;simp only [SW,↓reduceIte,reduceCtorEq,ltB_f hlt])
   exact .refl ⟨_,rfl,.refl _⟩
theorem contains_ok (ks:List Fm) (p:Fm→Bool) (g:FuncId) (hl:ks.length < 2 ^ 60) (hp:∀ (i:Nat) (k:Fm),ks[i]? = some k→PFun C 125 [fP k,.ref [tkP g]] (.lit (.bool (p k)))) :
  PFun C 124 [.sz (fL ks) ks.length,.fn 125 [] [.ref [tkP g]]] (.lit (.bool (yesB (∃ (i:Nat) (k:Fm),ks[i]? = some k∧p k=true)))):=by
 obtain ⟨r,hr,h⟩:=idxF_ok hm hC ks p g hl hp
 rw [← hr]
 refine PFun.body hm hC (show Tryz.tab.get 124=some Tryz.c124 from rfl) rfl ?_
 simp only [SW,Tryz.c124,startP,Nat.reduceAdd,Nat.reduceSub,List.replicate]
 repeat (refine PRun.wpn rfl ?_;simp only [wp,wo_nil,wo_p,wo_call,onO_s,pv_t,pv_bool,put_some,pevP,getP,setP,evsP,PW.none,Nat.zero_le,true_and,resPs,resP,tupP])
 refine .refl (PFun.to (h) rfl (POps.wp ?_))
 simp only [wo_nil,wo_p,onO_s,pv_t,pv_int,put_some,bi_geq,pevP,getP,setP,Option.map_some]
 by_cases h0:0≤r
 ·repeat (refine PRun.wpn rfl ?_;simp only [wp,or_true,true_and,reduceCtorEq,leB_t h0])
  rw [yes_t h0]
  exact .refl ⟨_,rfl,.refl _⟩
 ·repeat (refine PRun.wpn rfl ?_;simp only [wp,or_true,true_and,reduceCtorEq,leB_f h0])
  rw [yes_f h0]
  exact .refl ⟨_,rfl,.refl _⟩
theorem formed_ok (g:FuncId) (tk:Nat→Bool) (hG0:C.G 0=some kidsC) (htk:∀ o:Nat,o < 256→PFun C g [.lit (.int .u8 (o:Nat))] (.lit (.bool (tk o)))) :
  ∀ (n:Nat) (f:Fm),f.size≤n→f.ok→f.opsOK→n < 2 ^ 60→PFun C 98 [fP f,tkP g] (.lit (.bool (yesB (f.formed tk)))):=by
 intro n
 induction n with
 | zero=>intro f h;have:=f.size_pos;omega
 | succ n ih=>
  intro f hf ho hop hn
  obtain ⟨o,nm,ks⟩:=f
  simp only [Fm.size] at hf
  simp only [Fm.ok] at ho
  simp only [Fm.opsOK] at hop
  have hlen:=len_sizes ks
  have hkid:∀ (i:Nat) (k:Fm),ks[i]? = some k→PFun C 125 [fP k,.ref [tkP g]] (.lit (.bool (!(yesB (k.formed tk))))):=by
   intro i k hk
   have h:=ih k (by have:=size_kid hk;omega) (oks_get ho.2.2 hk) (opsOKs_get hop.2 hk) (by omega)
   obtain ⟨o',nm',ks'⟩:=k
   simp only [fP,fC,tkP] at h ⊢
   generalize yesB ((Fm.mk o' nm' ks').formed tk)=r at h ⊢
   refine PFun.body hm hC (show Tryz.tab.get 125=some Tryz.c125 from rfl) rfl ?_
   simp only [SW,Tryz.c125,startP,Nat.reduceAdd,Nat.reduceSub,List.replicate]
   repeat (refine PRun.wpn rfl ?_;simp only [SW,↓reduceIte])
   refine .refl (PFun.to (h) rfl (POps.wp ?_))
   simp only [SW]
   repeat (refine PRun.wpn rfl ?_;simp only [wp,or_true,true_and,reduceCtorEq])
   exact .refl ⟨_,rfl,.refl _⟩
  have hcon:=contains_ok hm hC ks (fun k=>!(yesB (k.formed tk))) g (by omega) hkid
  have hname:=name_ok hm hC nm (by omega)
  have htk1:=htk o hop.1
  have ec:IntKind.i64.wrap ((o:Nat):Int)=(o:Nat):=wrap64 (by omega) (by omega)
  simp only [tkP] at hcon
  refine PFun.body hm hC (show Tryz.tab.get 98=some Tryz.c98 from rfl) rfl ?_
  simp only [SW,Tryz.c98,startP,Nat.reduceAdd,Nat.reduceSub,List.replicate,fP,fC,tkP]
  have nof:∀ {p:Prop},¬ p→((Fm.mk o nm ks).formed tk→p)→yesB ((Fm.mk o nm ks).formed tk)=false:=fun h1 h2=>yes_f fun h3=>h1 (h2 h3)
  repeat (refine PRun.wpn rfl ?_;simp only [SW,↓reduceIte,Nat.reduceAdd])
  refine PDraw.stage (Nat.zero_le _) rfl ?_
  by_cases c1:(22:Int)≤(o:Nat)
  ·try dsimp only
   simp only [SW,↓reduceIte,reduceCtorEq,Nat.reduceAdd,ec,leB_t c1]
   refine PDraw.last (Nat.zero_le _) rfl ?_
   try dsimp only
   simp only [SW]
   repeat (refine PRun.wpn rfl ?_;simp only [SW,↓reduceIte,reduceCtorEq])
   rw [nof (p:=o < 22) (by omega) (fun h=>h.1)]
   exact .refl ⟨_,rfl,.refl _⟩
  have hd:=kidsC_drop (show o < 22 by omega)
  have c0:((o:Nat):Int) < ((22:Nat):Int):=by omega
  have hg:∀ e,Opd.pv C.G e (.g 0) = .ref kidsC:=fun e=>by simp only [Opd.pv,hG0]
  have hk1 : -128≤kt.getD o 0∧kt.getD o 0≤127:=by
   have:∀ o:Fin 22,-128≤kt.getD o.1 0∧kt.getD o.1 0≤127:=by decide
   exact this ⟨o,by omega⟩
  generalize hkt:kt.getD o 0=kd at hd hk1
  have ec2:IntKind.i64.wrap kd=kd:=wrap64 (by omega) (by omega)
  have fm:(Fm.mk o nm ks).formed tk=(o < 22∧0≤kd∧(ks.length:Int)=kd∧tk o=true∧(o=3→nameOK nm)∧(o ≠ 3→nm=⟨#[]⟩)∧formeds tk ks):=by simp only [Fm.formed,hkt]
  by_cases c2:kd < 0
  ·try dsimp only
   simp only [SW,↓reduceIte,reduceCtorEq,Nat.reduceAdd,ec,leB_f c1,hg,c0,hd,ltB_t c2]
   refine PDraw.last (Nat.zero_le _) rfl ?_
   try dsimp only
   simp only [SW]
   repeat (refine PRun.wpn rfl ?_;simp only [SW,↓reduceIte,reduceCtorEq])
   rw [nof (p:=0≤kd) (by omega) (fun h=>by rw [fm] at h;exact h.2.1)]
   exact .refl ⟨_,rfl,.refl _⟩
  by_cases c3:((ks.length:Nat):Int)=kd
  ·cases c4:tk o with
   | false=>
    rw [c4] at htk1
    try dsimp only
    simp only [SW,↓reduceIte,reduceCtorEq,Nat.reduceAdd,ec,ec2,leB_f c1,hg,c0,hd,ltB_f c2,neB_f c3]
    refine PDE.pureV rfl htk1 rfl ?_
    refine PDraw.last (Nat.zero_le _) rfl ?_
    try dsimp only
    simp only [beq_self_eq_true,wanted_g,wantB_b,onX_s,onXG_t,onXI_s,wx_nil,wx_cons,wx_p,wx_g,pv_t,put_some,pevP,getP,setP,nthO,Bool.not_false]
    repeat (refine PRun.wpn rfl ?_;simp only [wp,wo_nil,wo_p,onO_s,pv_t,pv_bool,put_some,pevP,getP,setP,or_true,true_and,↓reduceIte,reduceCtorEq])
    rw [nof (p:=tk o=true) (by rw [c4];simp) (fun h=>by rw [fm] at h;exact h.2.2.2.1)]
    exact .refl ⟨_,rfl,.refl _⟩
   | true=>
    rw [c4] at htk1
    try dsimp only
    simp only [SW,↓reduceIte,reduceCtorEq,Nat.reduceAdd,ec,ec2,leB_f c1,hg,c0,hd,ltB_f c2,neB_f c3]
    refine PDE.pureV rfl htk1 rfl ?_
    refine PDraw.last (Nat.zero_le _) rfl ?_
    try dsimp only
    simp only [SW]
    have hcon2:(¬ ∃ (i:Nat) (k:Fm),ks[i]? = some k∧(!(yesB (k.formed tk)))=true)↔formeds tk ks:=by
     rw [formeds_iff]
     constructor
     ·intro h i k hk
      apply Classical.byContradiction
      intro hf'
      exact h ⟨i,k,hk,by rw [yes_f hf'];rfl⟩
     ·rintro h ⟨i,k,hk,hb⟩
      rw [yes_t (h i k hk)] at hb;cases hb
    have fin:∀ {q:Prop},(q↔formeds tk ks)→(o=3→nameOK nm)→(o ≠ 3→nm=⟨#[]⟩)→yesB ((Fm.mk o nm ks).formed tk)=yesB q:=by
     intro q hq h1 h2
     have:(Fm.mk o nm ks).formed tk↔q:=by
      rw [fm,hq]
      exact ⟨fun h=>h.2.2.2.2.2.2,fun h=>⟨by omega,by omega,c3,c4,h1,h2,h⟩⟩
     by_cases h:q
     ·rw [yes_t h,yes_t (this.2 h)]
     ·rw [yes_f h,yes_f (fun h'=>h (this.1 h'))]
    have notB:∀ {q:Prop},(!(yesB q))=yesB (¬ q):=by
     intro q
     by_cases h:q
     ·rw [yes_t h,yes_f (fun h'=>h' h)];rfl
     ·rw [yes_f h,yes_t h];rfl
    by_cases c5:((o:Nat):Int)=3
    ·by_cases c6:nameOK nm
     ·rw [yes_t c6] at hname
      repeat (refine PRun.wpn rfl ?_;simp only [SW,↓reduceIte,reduceCtorEq,eqB_t c5])
      refine .refl (PFun.to (hname) rfl (POps.wp ?_))
      simp only [wo_nil,wo_p,wo_r,wo_g,beq_self_eq_true,onO_s,onG_t,onG_f,wanted_g,wantB_b,b_ft,pv_t,pv_int,pv_bool,put_some,bi_neq,pevP,pevR,getP,setP,look,PW.cs?,nthP,Option.map_some,Option.bind_some,↓reduceIte,reduceCtorEq,Nat.add_zero,Bool.not_true,neB_f c5]
      repeat (refine PRun.wpn rfl ?_;simp only [wp,wo_p,wo_r,wo_call,onO_s,pv_t,put_some,pevP,pevR,getP,setP,evsP,look,PW.cs?,nthP,Option.bind_some,Nat.zero_le,true_and,↓reduceIte,reduceCtorEq,Bool.false_eq_true,Nat.zero_add])
      refine Gh.frz 1 rfl rfl rfl ?_
      simp only [SW,↓reduceIte,reduceCtorEq]
      refine .refl (PFun.to hcon rfl (POps.wp ?_))
      simp only [SW]
      repeat (refine PRun.wpn rfl ?_;simp only [wp,or_true,true_and,reduceCtorEq])
      rw [fin hcon2 (fun _=>c6) (fun h=>absurd (by omega) h),notB]
      exact .refl ⟨_,rfl,.refl _⟩
     ·rw [yes_f c6] at hname
      repeat (refine PRun.wpn rfl ?_;simp only [SW,↓reduceIte,reduceCtorEq,eqB_t c5])
      refine .refl (PFun.to (hname) rfl (POps.wp ?_))
      simp only [wo_nil,wo_p,wo_g,beq_self_eq_true,onO_s,onG_t,onG_f,wanted_g,wantB_b,wantB_u,b_tf,pv_t,pv_bool,put_some,pevP,getP,setP,Bool.not_false]
      repeat (refine PRun.wpn rfl ?_;simp only [wp,wo_nil,wo_p,onO_s,pv_t,pv_bool,put_some,pevP,getP,setP,or_true,true_and,↓reduceIte,reduceCtorEq])
      rw [nof (p:=(o=3→nameOK nm)) (fun h=>c6 (h (by omega))) (fun h=>by rw [fm] at h;exact h.2.2.2.2.1)]
      exact .refl ⟨_,rfl,.refl _⟩
    ·by_cases c6:nm=⟨#[]⟩
     ·repeat (refine PRun.wpn rfl ?_;simp only [SW,↓reduceIte,reduceCtorEq,eqB_f c5,neB_t c5,neS_f c6])
      refine Gh.frz 1 rfl rfl rfl ?_
      simp only [SW,↓reduceIte,reduceCtorEq]
      refine .refl (PFun.to hcon rfl (POps.wp ?_))
      simp only [SW]
      repeat (refine PRun.wpn rfl ?_;simp only [wp,or_true,true_and,reduceCtorEq])
      rw [fin hcon2 (fun h=>absurd (by omega) c5) (fun _=>c6),notB]
      exact .refl ⟨_,rfl,.refl _⟩
     ·repeat (refine PRun.wpn rfl ?_;simp only [SW,↓reduceIte,reduceCtorEq,eqB_f c5,neB_t c5,neS_t c6])
      rw [nof (p:=(o ≠ 3→nm=⟨#[]⟩)) (fun h=>c6 (h (by omega))) (fun h=>by rw [fm] at h;exact h.2.2.2.2.2.1)]
      exact .refl ⟨_,rfl,.refl _⟩
  ·try dsimp only
   simp only [SW,↓reduceIte,reduceCtorEq,Nat.reduceAdd,ec,ec2,leB_f c1,hg,c0,hd,ltB_f c2,neB_t c3]
   refine PDraw.last (Nat.zero_le _) rfl ?_
   try dsimp only
   simp only [SW]
   repeat (refine PRun.wpn rfl ?_;simp only [SW,↓reduceIte,reduceCtorEq])
   rw [nof (p:=(ks.length:Int)=kd) c3 (fun h=>by rw [fm] at h;exact h.2.2.1)]
   exact .refl ⟨_,rfl,.refl _⟩
end
end Go.Proofs.YtnpoloachkcadaaGreatDoor.Ai
namespace Go.Proofs.YtnpoloachkcadaaGreatDoor.Ai
set_option linter.unusedSimpArgs false
open Go
set_option linter.unusedVariables false
set_option linter.unusedSectionVars false
set_option maxRecDepth 10000
noncomputable def rightE (tk:Nat→Bool) (f:Fm):Int:=if yesB (f.formed tk)=true then (if yesB (1000 < f.size∨100 < f.depth)=true then 31 else 0) else 30
noncomputable def futB (o:Nat):Bool:=yesB (o < 16)
noncomputable def pastB (o:Nat):Bool:=yesB (o < 9∨16≤o)
section
variable {C:Ctx} (hm:C.P.follows .mixedOrders=true) (hC:TabOK C.P C.ng C.ts Tryz.tab)
include hm hC
end
def muchN:Nat→List Fm→Nat
 | n,[]=>n
 | n,k::ks=>if n≤1048576 then muchN (n + k.wt 0) ks else n
theorem muchN_app:∀ (a b:List Fm) (n:Nat),muchN n (a++b)=muchN (muchN n a) b
 | [],b,n=>rfl
 | k::a,b,n=>by
  simp only [List.cons_append,muchN]
  split
  ·exact muchN_app a b _
  ·rename_i h
   cases b with
   | nil=>simp [muchN]
   | cons x b=>simp [muchN,h]
theorem muchN_stop:∀ (b:List Fm) (n:Nat),¬ n≤1048576→muchN n b=n
 | [],n,_=>rfl
 | k::b,n,h=>by simp [muchN,h]
theorem muchN_take {ks:List Fm} {i:Nat} {k:Fm} (n:Nat) (h:ks[i]? = some k) (hn:muchN n (ks.take i)≤1048576):muchN n (ks.take (i + 1))=muchN n (ks.take i) + k.wt 0:=by
 rw [List.take_add_one,h,muchN_app];simp [muchN,hn]
section
variable {C:Ctx} (hm:C.P.follows .mixedOrders=true) (hC:TabOK C.P C.ng C.ts Tryz.tab)
include hm hC
theorem much_ok (ks:List Fm) (ho:oks ks) (hlen:ks.length < 2 ^ 60):PFun C 15 [.sl (fL ks) ks.length] (.lit (.bool (yesB (1048576 < muchN 0 ks)))):=by
 refine PFun.body hm hC (show Tryz.tab.get 15=some Tryz.c15 from rfl) rfl ?_
 simp only [SW,Tryz.c15,startP,Nat.reduceAdd,Nat.reduceSub,List.replicate]
 repeat (refine PRun.wpn rfl ?_;simp only [SW,reduceCtorEq])
 refine PRun.gh (Gh.mr mkPuA3 [] 0 rfl ?_)
 simp only [mkPuA3,SW,↓reduceIte]
 refine PRun.loopG (fun m t π=>∃ i:Nat,t=(.sl (fL ks) ks.length::.junk::.junk::.lit (.int .i64 (muchN 0 (ks.take i):Nat))::.lit (.int .i64 (i:Nat))::.junk::.junk::.junk::.junk::.junk::.junk::.junk::.junk::.junk::.junk::.junk::.junk::.junk::.junk::.junk::.junk::.junk::.junk::.junk::[])∧i≤ks.length∧m=ks.length - i∧π=⟨0,[]⟩∧muchN 0 (ks.take i)≤2 ^ 61) ?_ ks.length _ _ ⟨0,by simp [muchN],by omega,rfl,rfl,by simp [muchN]⟩
 rintro m t π ⟨i,rfl,hi,rfl,rfl,hb⟩
 by_cases hlt:(i:Int) < (ks.length:Nat)
 ·by_cases hle:((muchN 0 (ks.take i):Nat):Int)≤1048576
  ·obtain ⟨k,hk⟩:∃ k,ks[i]? = some k:=⟨ks[i]'(by omega),List.getElem?_eq_getElem (by omega)⟩
   have h2:=muchN_take 0 hk (by omega)
   have hcut:=fL_cut hk
   have hrec:=weight_ok hm hC k (oks_get ho hk)
   have h4:=wt_le k 0 (oks_get ho hk) (by omega)
   obtain ⟨o',nm',ks'⟩:=k
   simp only [fP,fC] at hrec hcut
   repeat (refine PRun.wpn rfl ?_;simp only [SW,↓reduceIte,ltB_t hlt,leB_t hle,hlt,hcut])
   refine .refl (PFun.to (hrec) rfl (POps.wp ?_))
   simp only [SW]
   repeat (refine PRun.wpn rfl ?_;simp only [SW])
   have e:((muchN 0 (ks.take i):Nat):Int) + ((Fm.mk o' nm' ks').wt 0:Nat)=((muchN 0 (ks.take (i + 1)):Nat):Int):=by rw [h2];omega
   rw [wrap64 (by omega) (by omega),wrap64 (by omega) (by omega),e]
   refine Gh.mr mkPuA3 [] 0 rfl ?_
   exact ⟨ks.length - (i + 1),by omega,i + 1,rfl,by omega,rfl,rfl,by omega⟩
  ·repeat (refine PRun.wpn rfl ?_;simp only [SW,↓reduceIte,reduceCtorEq,ltB_t hlt,leB_f hle,ltB_t (show (1048576:Int) < (muchN 0 (ks.take i):Nat) by omega)])
   have:muchN 0 ks=muchN 0 (ks.take i):=by
    have h:=muchN_app (ks.take i) (ks.drop i) 0
    rw [List.take_append_drop] at h
    rw [h,muchN_stop _ _ (by omega)]
   rw [yes_t (by omega)]
   exact .refl ⟨_,rfl,.refl _⟩
 ·have hil:i=ks.length:=by omega
  subst hil
  rw [List.take_length] at hb
  by_cases hle:(1048576:Int) < (muchN 0 ks:Nat)
  ·rw [yes_t (by omega)]
   have e:muchN 0 (ks.take ks.length)=muchN 0 ks:=by rw [List.take_length]
   rw [e]
   repeat (refine PRun.wpn rfl ?_;simp only [SW,↓reduceIte,reduceCtorEq,ltB_f hlt,ltB_t hle])
   exact .refl ⟨_,rfl,.refl _⟩
  ·rw [yes_f (by omega)]
   have e:muchN 0 (ks.take ks.length)=muchN 0 ks:=by rw [List.take_length]
   rw [e]
   repeat (refine PRun.wpn rfl ?_;simp only [SW,↓reduceIte,reduceCtorEq,ltB_f hlt,ltB_f hle])
   exact .refl ⟨_,rfl,.refl _⟩
end
end Go.Proofs.YtnpoloachkcadaaGreatDoor.Ai
namespace Go.Proofs.YtnpoloachkcadaaGreatDoor.Ai
set_option linter.unusedSimpArgs false
open Go
set_option linter.unusedVariables false
set_option linter.unusedSectionVars false
set_option maxRecDepth 10000
noncomputable def cmpZ (a b:Int):Int:=if ltB a b=true then -1 else if ltB b a=true then 1 else 0
noncomputable def orZ (a b:Int):Int:=if neB a 0=true then a else b
def cmpS (a b:ByteArray):Int:=Go.Lib.compareBytes a.data.toList b.data.toList
mutual
noncomputable def Fm.cmp:Fm→Fm→Int
 | .mk o n ks,.mk o' n' ks'=>orZ (orZ (cmpZ (o:Nat) (o':Nat)) (orZ (cmpS n n') (cmpZ (ks.length:Nat) (ks'.length:Nat)))) (cmps ks ks')
noncomputable def cmps:List Fm→List Fm→Int
 | k::ks,m::ms=>orZ (k.cmp m) (cmps ks ms)
 | _,_=>0
end
section
variable {C:Ctx} (hm:C.P.follows .mixedOrders=true) (hC:TabOK C.P C.ng C.ts Tryz.tab)
include hm hC
end
end Go.Proofs.YtnpoloachkcadaaGreatDoor.Ai
namespace Go.Proofs.YtnpoloachkcadaaGreatDoor.Ai
set_option linter.unusedSimpArgs false
open Go
set_option linter.unusedVariables false
set_option linter.unusedSectionVars false
set_option maxRecDepth 10000
theorem cut_all {l:List PV} {n:Nat} (h:l.length=n):cutP n l=some l:=by subst h;simp [cutP]
theorem renL_fL (ρ:List (Nat × Nat)) (ks:List Fm):renL ρ (fL ks)=fL ks:=renL_pure ρ _ (pureL_fL ks)
section
variable {C:Ctx} (hm:C.P.follows .mixedOrders=true) (hC:TabOK C.P C.ng C.ts Tryz.tab)
include hm hC
end
end Go.Proofs.YtnpoloachkcadaaGreatDoor.Ai
namespace Go.Proofs.YtnpoloachkcadaaGreatDoor.Ai
set_option linter.unusedSimpArgs false
open Go
set_option linter.unusedVariables false
set_option linter.unusedSectionVars false
set_option maxRecDepth 10000
def dotS:ByteArray:=⟨#[46]⟩
noncomputable def belowS (itS:Nat→ByteArray) (p:ByteArray) (i:Nat):ByteArray:=if eqS p ⟨#[]⟩=true then itS i else p++dotS++itS i
mutual
noncomputable def Fm.visits (itS:Nat→ByteArray) (p:ByteArray):Fm→List (ByteArray × Fm)
 | .mk o n ks=>(p,.mk o n ks)::visitss itS p 0 ks
noncomputable def visitss (itS:Nat→ByteArray) (p:ByteArray) (i:Nat):List Fm→List (ByteArray × Fm)
 | []=>[]
 | k::ks=>k.visits itS (belowS itS p i)++visitss itS p (i + 1) ks
end
mutual
theorem visits_len (itS:Nat→ByteArray):∀ (f:Fm) (p:ByteArray),(f.visits itS p).length=f.size
 | .mk o n ks,p=>by simp only [Fm.visits,List.length_cons,visitss_len itS ks,Fm.size];omega
theorem visitss_len (itS:Nat→ByteArray):∀ (ks:List Fm) (p:ByteArray) (i:Nat),(visitss itS p i ks).length=sizes ks
 | [],p,i=>rfl
 | k::ks,p,i=>by simp only [visitss,List.length_append,visits_len itS k,visitss_len itS ks,sizes]
end
def PW.wf (π:PW):Prop:=∀ j o,look π.heap j=some o→j < π.next∧∀ cs ty esz ex ret al,o = .cells cs ty esz ex ret al→∀ k∈al,k < π.next
theorem PY.mono {C:Ctx} {b l:Nat} {args:List PV} {π:PW} {A B:PV→PW→Prop} (h:PY C b l args π A) (k:∀ r π,A r π→B r π):PY C b l args π B:=by
 intro F I η σ vargs a hG hs hr ha
 obtain ⟨v,σ',I',η',r,π',h1,h2,h4,h5,h6⟩:=h F I η σ _ a hG hs hr ha
 exact ⟨v,σ',I',η',r,π',h1,h2,h4,h5,k _ _ h6⟩
section
variable {C:Ctx} (hm:C.P.follows .mixedOrders=true) (hC:TabOK C.P C.ng C.ts Tryz.tab) {itS:Nat→ByteArray} (hI:∀ i:Nat,i < 2 ^ 40→PFun C 91 [.lit (.int .i64 (i:Nat))] (.lit (.string (itS i)))) (hIs:∀ i:Nat,i < 2 ^ 40→(itS i).size≤20)
include hm hC hI hIs
def WPost (S:Nat→PW→Prop) (T:PW→Prop) (k:Nat) (r:PV) (π':PW):Prop:=(r = .lit (.bool true)∧S k π')∨(r = .lit (.bool false)∧T π')
end
end Go.Proofs.YtnpoloachkcadaaGreatDoor.Ai
namespace Go.Proofs.YtnpoloachkcadaaGreatDoor.Ai
set_option linter.unusedSimpArgs false
open Go
set_option linter.unusedVariables false
set_option linter.unusedSectionVars false
set_option maxRecDepth 10000
def as26:ICode:=(.ops [⟨(some 6),(.n (.new 27 3 [(.int .u8 0),(.string ⟨#[]⟩),(.slice none 0 0)])),none⟩,⟨none,(.e (.st 3 (.t 6) (.t 11))),none⟩])
def bo26:ICode:=(.block 1 (.seq (.ops [⟨(some 12),(.p (.faddr 0 (.t 6))),none⟩,⟨(some 13),(.r (.ld (.t 12))),none⟩,⟨(some 14),(.p (.bin .eql (.t 13) (.c (.int .u8 3)))),none⟩,⟨(some 15),(.p (.mov (.t 14))),none⟩,⟨(some 16),(.r (.ld (.t 4))),(some (15,true))⟩,⟨(some 17),(.p (.faddr 1 (.t 6))),(some (15,true))⟩,⟨(some 18),(.r (.ld (.t 17))),(some (15,true))⟩,⟨(some 19),(.r (.lookup .str (.int .i64 0) false (.t 16) (.t 18))),(some (15,true))⟩,⟨(some 20),(.p (.bin .eql (.t 19) (.c (.int .i64 0)))),(some (15,true))⟩,⟨(some 21),(.p (.pick (.t 15) (.t 20) (.c (.bool false)))),none⟩]) (.cond (.t 21) (.seq (.ops [⟨(some 22),(.r (.ld (.t 4))),none⟩,⟨(some 23),(.p (.faddr 1 (.t 6))),none⟩,⟨(some 24),(.r (.ld (.t 23))),none⟩,⟨(some 25),(.r (.lookup .str (.int .i64 0) false (.t 22) (.t 24))),none⟩,⟨(some 26),(.p (.bin .add (.t 25) (.c (.int .i64 1)))),none⟩,⟨none,(.e (.mapUpd .str (.t 22) (.t 24) (.t 26))),none⟩]) (.ops [⟨(some 27),(.r (.ld (.t 3))),none⟩,⟨(some 28),(.p (.faddr 1 (.t 6))),none⟩,⟨(some 29),(.r (.ld (.t 28))),none⟩,⟨(some 30),(.n (.buildSlice 9 1 1 [(.string ⟨#[]⟩)] [(0,(1,(.t 29)))])),none⟩,⟨(some 31),(.e (.append 9 1 16 [(.string ⟨#[]⟩)] (.t 27) (.t 30))),none⟩,⟨none,(.e (.st 1 (.t 3) (.t 31))),none⟩])) .skip)))
def sL (ns:List ByteArray):List PV:=ns.map fun s=>.lit (.string s)
def mE:Nat→List ByteArray→List (PV × PV × Nat)
 | _,[]=>[]
 | i,s::ns=>(.lit (.string s),.lit (.int .i64 1),i)::mE (i + 1) ns
theorem sL_len (ns:List ByteArray):(sL ns).length=ns.length:=by simp [sL]
theorem sL_app (a b:List ByteArray):sL (a++b)=sL a++sL b:=by simp [sL]
theorem pureL_sL:∀ ns:List ByteArray,pureL (sL ns)=true
 | []=>rfl
 | s::ns=>by have:=pureL_sL ns;simp only [SW,sL,List.map_cons] at this ⊢;exact this
open Classical in
noncomputable def addN (ns:List ByteArray) (f:Fm):List ByteArray:=if f.op=3∧f.name∉ns then ns++[f.name] else ns
noncomputable def Fm.names (itS:Nat→ByteArray) (f:Fm):List ByteArray:=((f.visits itS ⟨#[]⟩).map (·.2)).foldl addN []
section
variable {C:Ctx} (hm:C.P.follows .mixedOrders=true) (hC:TabOK C.P C.ng C.ts Tryz.tab) {itS:Nat→ByteArray} (hI:∀ i:Nat,i < 2 ^ 40→PFun C 91 [.lit (.int .i64 (i:Nat))] (.lit (.string (itS i)))) (hIs:∀ i:Nat,i < 2 ^ 40→(itS i).size≤20)
def namesL (f0:Fm):PObj:=.loop .ready none (.junk::.junk::.junk::.ptr 0 0::.ptr 2 0::.junk::.junk::.junk::.junk::.fn 92 [] [.ref (fC f0)]::.junk::.junk::.junk::.junk::.junk::.junk::.junk::.junk::.junk::.junk::.junk::.junk::.junk::.junk::.junk::.junk::.junk::.junk::.junk::.junk::.junk::.junk::.junk::[]) [10,11] as26 bo26
def namesS (f0:Fm) (ns:List ByteArray) (π:PW):Prop:=
 (ns=[]∧4≤π.next∧π.heap=[(3,namesL f0),(2,.cells [.map 1] 88 1 true false []),(1,.map [] 0),(0,.cells [.lit (.slice none 0 0)] 53 1 true false [])])∨
 (ns ≠ []∧5≤π.next∧π.heap=[(4,.cells (sL ns) 9 1 false false []),(3,namesL f0),(2,.cells [.map 1] 88 1 true false []),(1,.map (mE 0 ns) ns.length),(0,.cells [.loc 4 0 ns.length ns.length] 53 1 true false [])])
include hm hC hI hIs
end
noncomputable def nmsAt (itS:Nat→ByteArray) (f:Fm) (j:Nat):List ByteArray:=(((f.visits itS ⟨#[]⟩).take j).map (·.2)).foldl addN []
section
variable {C:Ctx} (hm:C.P.follows .mixedOrders=true) (hC:TabOK C.P C.ng C.ts Tryz.tab) {itS:Nat→ByteArray} (hI:∀ i:Nat,i < 2 ^ 40→PFun C 91 [.lit (.int .i64 (i:Nat))] (.lit (.string (itS i)))) (hIs:∀ i:Nat,i < 2 ^ 40→(itS i).size≤20)
include hm hC hI hIs
end
end Go.Proofs.YtnpoloachkcadaaGreatDoor.Ai
namespace Go.Proofs.YtnpoloachkcadaaGreatDoor.Ai
set_option linter.unusedSimpArgs false
open Go
set_option linter.unusedSimpArgs false
set_option linter.unusedVariables false
set_option linter.unusedSectionVars false
structure FmT (P:Program) (tO:TypeId):Prop where
 u27:∃ fs:Array Field,P.underlying 27=some (.struct fs)∧fs.size=3∧fs.toList.map (·.type)=[tO,9,25]∧(∃ f,fs[0]? = some f∧f.type=tO∧f.offset=0)∧(∃ f,fs[1]? = some f∧f.type=9∧f.offset=1)∧(∃ f,fs[2]? = some f∧f.type=25∧f.offset=2)
 uO:P.underlying tO=some (.int .u8)
 u9:P.underlying 9=some .string
 u25:P.underlying 25=some (.slice 27)
 c27:P.cellsOf 27=3
 cO:P.cellsOf tO=1
 c9:P.cellsOf 9=1
 c25:P.cellsOf 25=1
 b27:0 < P.bytesOf 27
section
variable {H:Type} {enc:TypeId × Value→H} {P:Program} {ng:Nat} {ts:List TypeId} {W:World} {tO:TypeId}
def OpenAny (P:Program) (ng:Nat) (ts:List TypeId) (W:World) (vs:List Value) (ps:List PV):Prop:=
 ∀ σ μ I,Op P ng ts W σ μ I→Opens P ng ts W σ μ I vs ps
theorem OpenAny.nil:OpenAny P ng ts W [] []:=fun σ μ I h=>⟨σ,μ,I,[],h,.refl,rfl,by simp [RdL],rfl⟩
theorem OpenAny.append {vs ws:List Value} {ps qs:List PV} (h:OpenAny P ng ts W vs ps) (k:OpenAny P ng ts W ws qs):OpenAny P ng ts W (vs++ws) (ps++qs):=by
 intro σ μ I ho
 obtain ⟨σ1,μ1,I1,us1,o1,l1,c1,r1,t1⟩:=h σ μ I ho
 obtain ⟨σ2,μ2,I2,us2,o2,l2,c2,r2,t2⟩:=k σ1 μ1 I1 o1
 refine ⟨σ2,μ2,I2,us1++us2,o2,l1.trans l2,?_,(r1.mono l2.i (Eta.le_refl _)).append r2,ltL_append.2 ⟨ltL_mono l2.n _ t1,t2⟩⟩
 rw [concL_app,c2,concL_congr l2.m us1 t1,c1]
theorem OpenAny.lit {u:Value} (h:lt 0 u=true):OpenAny P ng ts W [u] [.lit u]:=fun σ μ I ho=>
 ⟨σ,μ,I,[u],ho,.refl,by simp [concL,conc_zero _ _ h],by simp only [RdL];exact ⟨rd_mk h,trivial⟩,by simp [ltL,lt_mono (Nat.zero_le _) _ h]⟩
theorem Addr.add_none {b o:Nat} (j:Nat):(⟨b,o,none⟩:Addr).add j=⟨b,o + j,none⟩:=by
 unfold Addr.add
 split
 ·rename_i h;subst h;rfl
 ·rfl
theorem cells3 {w:World} {a:Addr} {row:List Value} (hs:a.spot=none) (h:w.cells? 0 a 3=some row):∃ C t fr,w.heap[a.block]? = some (.cells C t fr)∧row=(C.toList.drop a.off).take 3∧a.off + 3≤C.size:=by
 obtain ⟨b,o,s⟩:=a
 simp only at hs;subst hs
 unfold World.cells? at h
 rw [if_pos (Nat.zero_le _)] at h
 have e:List.range 3=[0,1,2]:=rfl
 rw [e] at h
 simp only [List.mapM_cons,List.mapM_nil,Option.bind_eq_bind,Option.bind_eq_some_iff] at h
 obtain ⟨v0,h0,r0,⟨v1,h1,r1,⟨v2,h2,r2,h3,h4⟩,h5⟩,h6⟩:=h
 simp at h3 h4 h5 h6
 subst h3 h4 h5 h6
 obtain ⟨C,t,fr,hC,g0⟩:=cell_at (W:=w) (a:=⟨b,o,none⟩) rfl h0
 obtain ⟨C1,t1,fr1,hC1,g1⟩:=cell_at (W:=w) (a:=⟨b,o,none⟩) rfl h1
 obtain ⟨C2,t2,fr2,hC2,g2⟩:=cell_at (W:=w) (a:=⟨b,o,none⟩) rfl h2
 simp only at hC hC1 hC2 g0 g1 g2
 rw [hC] at hC1 hC2
 simp only [Option.some.injEq,Obj.cells.injEq] at hC1 hC2
 obtain ⟨rfl,_⟩:=hC1
 obtain ⟨rfl,_⟩:=hC2
 have q0:=Array.getElem?_eq_some_iff.1 g0
 have q1:=Array.getElem?_eq_some_iff.1 g1
 have q2:=Array.getElem?_eq_some_iff.1 g2
 obtain ⟨l2,e2⟩:=q2
 obtain ⟨l1,e1⟩:=q1
 obtain ⟨l0,e0⟩:=q0
 refine ⟨C,t,fr,hC,?_,by show o + 3≤C.size;omega⟩
 show [v0,v1,v2]=(C.toList.drop o).take 3
 have d0:=List.drop_eq_getElem_cons (l:=C.toList) (i:=o) (by simp;omega)
 have d1:=List.drop_eq_getElem_cons (l:=C.toList) (i:=o + 1) (by simp;omega)
 have d2:=List.drop_eq_getElem_cons (l:=C.toList) (i:=o + 1 + 1) (by simp;omega)
 rw [d0,d1,d2]
 simp only [SW,Array.getElem_toList]
 rw [← e0,← e1,← e2]
 rfl
theorem rows_flat (l:List Value):∀ n,(((List.range n).map fun i=>(l.drop (i * 3)).take 3).flatten)=l.take (n * 3)
 | 0=>by simp
 | n + 1=>by
  rw [List.range_succ,List.map_append,List.flatten_append,rows_flat l n]
  simp only [List.map_cons,List.map_nil,List.flatten_cons,List.flatten_nil,List.append_nil]
  rw [show (n + 1) * 3=n * 3 + 3 by omega,List.take_add]
theorem rows_open:∀ {rows:List (List Value)},(∀ r∈rows,∃ f:Fm,f.ok∧f.opsOK∧OpenAny P ng ts W r (fC f))→∃ gs:List Fm,gs.length=rows.length∧oks gs∧opsOKs gs∧OpenAny P ng ts W rows.flatten (fL gs)
 | [],_=>⟨[],rfl,trivial,trivial,by simpa [fL] using OpenAny.nil⟩
 | r::rows,h=>by
  obtain ⟨f,h1,h2,h3⟩:=h r (by simp)
  obtain ⟨gs,g1,g2,g3,g4⟩:=rows_open (rows:=rows) fun x hx=>h x (by simp [hx])
  exact ⟨f::gs,by simp [g1],⟨h1,g2⟩,⟨h2,g3⟩,by simp only [List.flatten_cons,fL];exact h3.append g4⟩
theorem oks_takeR {ks:List Fm} (h:opsOKs ks) (i:Nat):opsOKs (ks.take i):=by
 induction ks generalizing i with
 | nil=>simp [opsOKs]
 | cons x ks ih=>cases i with
  | zero=>simp [opsOKs]
  | succ i=>exact ⟨h.1,ih h.2 i⟩
theorem mem_weights {P:Program} {t:TypeId} {H:Type} {d:DataW H} {m:Nat} (hm:m∈d.weights P t):∀ {l:List (DataW H)},d∈l→m∈DataW.weightsAll P t l
 | [],h=>by simp at h
 | x::l,h=>by
  simp only [DataW.weightsAll,List.mem_append]
  rcases List.mem_cons.1 h with rfl | h
  ·exact .inl hm
  ·exact .inr (mem_weights hm h)
theorem kids_open (T:FmT P tO) (hb:∃ (b:Nat) (C:Array Value) (t:TypeId) (fr:Nat × Nat),W.heap[b]? = some (.cells C t fr)) {fuel:Nat} (ih:∀ n,n < fuel→∀ cs x,DataW.trod enc P W 0 (fun _=>true) true n 27 cs=some x→(∀ m∈x.1.weights P 27,m≤reachBytes)→∃ f:Fm,f.ok∧f.opsOK∧OpenAny P ng ts W cs (fC f))
  {v:Value} {x:DataW H × List MemPlace} (h:DataW.trod enc P W 0 (fun _=>true) true fuel 25 [v]=some x) (hw:∀ m∈x.1.weights P 25,m≤reachBytes):∃ ks:List Fm,ks.length < 2 ^ 50∧oks ks∧opsOKs ks∧OpenAny P ng ts W [v] [.sz (fL ks) ks.length]:=by
 rcases DataW.trod_slice T.u25 h with ⟨h1,_⟩ | ⟨a,len,cap,elems,rest,n,rfl,h1,hx,_,hlc,hcap,hel,hE,hR,_⟩
 ·simp at h1;subst h1
  refine ⟨[],by simp,trivial,trivial,fun σ μ I ho=>⟨σ,μ,I,[.slice none 0 0],ho,.refl,by simp [concL,conc],by simp only [RdL];exact ⟨by simp [Rd],trivial⟩,by simp [ltL,lt]⟩⟩
 ·simp at h1;subst h1
  have hreach:reachBytes < 2 ^ 50:=by decide
  by_cases hc0:cap=0
  ·have hl0:len=0:=by omega
   subst hc0 hl0
   refine ⟨[],by simp,trivial,trivial,fun σ μ I ho=>?_⟩
   obtain ⟨b0,C,t,fr,hC⟩:=hb
   obtain ⟨o1,l1⟩:=ho.skip ⟨a.block,0,0⟩
   obtain ⟨o2,l2⟩:=o1.add (blk:=b0) (off:=0) (us:=[]) rfl ⟨C,t,fr,hC,by simp,fun k v hk=>by simp at hk⟩
   refine ⟨_,_,_,[.slice (some ⟨σ.next,a.off,a.spot⟩) 0 0],o2,l1.trans l2,?_,?_,?_⟩
   ·have hμ:upd (upd μ σ.next ⟨a.block,0,0⟩) σ.bump.next ⟨b0,0,0⟩ σ.next=⟨a.block,0,0⟩:=by
     rw [l2.m σ.next (Nat.lt_succ_self _),upd_same]
    simp only [concL,conc,cAddr,hμ,Nat.zero_add,Nat.add_zero]
   ·simp only [RdL,Rd]
    exact ⟨.inl ⟨rfl,.inr ⟨_,σ.bump.next,[],rfl,Nat.le_succ _,by simp [Img.set]⟩⟩,trivial⟩
   ·simp [ltL,lt];exact Nat.lt_succ_of_lt (Nat.lt_succ_self _)
  ·
   have hrow:∀ i,i < cap→∃ row x',W.cells? 0 (a.add (i * 3)) 3=some row∧DataW.trod enc P W 0 (fun _=>true) true n 27 row=some x'∧∀ m∈x'.1.weights P 27,m≤reachBytes:=by
    intro i hi
    rw [T.c27] at hE
    obtain ⟨hr1,hr2⟩:=hR rfl
    rw [T.c27] at hr2
    by_cases hil:i < len
    ·have h2:=hE i hil
     rw [List.getElem?_eq_getElem (by omega),Option.bind_eq_some_iff] at h2
     obtain ⟨row,h3,h4⟩:=h2
     exact ⟨row,_,h3,h4,fun m hm=>hw m (by
      rw [hx];simp only [DataW.weights,T.u25,List.mem_cons,List.mem_append]
      exact .inr (.inl (mem_weights hm (List.mem_map_of_mem (List.getElem_mem _)))))⟩
    ·have h2:=hr2 (i - len) (by omega)
     rw [List.getElem?_eq_getElem (by omega),Option.bind_eq_some_iff] at h2
     obtain ⟨row,h3,h4⟩:=h2
     rw [show len + (i - len)=i by omega] at h3
     exact ⟨row,_,h3,h4,fun m hm=>hw m (by
      rw [hx];simp only [DataW.weights,T.u25,List.mem_cons,List.mem_append]
      exact .inr (.inr (mem_weights hm (List.mem_map_of_mem (List.getElem_mem _)))))⟩
   have hsp:a.spot=none:=by
    obtain ⟨row,_,h3,_,_⟩:=hrow 0 (by omega)
    unfold World.cells? at h3
    rw [if_pos (Nat.zero_le _)] at h3
    have e:List.range 3=[0,1,2]:=rfl
    rw [e] at h3
    simp only [List.mapM_cons,Option.bind_eq_bind,Option.bind_eq_some_iff] at h3
    obtain ⟨v0,h0,_⟩:=h3
    have:=World.cell?_spot h0
    simpa [Addr.add] using this
   obtain ⟨b,o,s⟩:=a
   simp only at hsp;subst hsp
   obtain ⟨row0,_,h30,_,_⟩:=hrow 0 (by omega)
   rw [Addr.add_none] at h30
   obtain ⟨C,t,fr,hC,_,_⟩:=cells3 rfl h30
   simp only at hC
   have hrow2:∀ i,i < cap→((C.toList.drop o).drop (i * 3)).take 3=((C.toList.drop o).drop (i * 3)).take 3∧o + i * 3 + 3≤C.size∧∃ x',DataW.trod enc P W 0 (fun _=>true) true n 27 (((C.toList.drop o).drop (i * 3)).take 3)=some x'∧∀ m∈x'.1.weights P 27,m≤reachBytes:=by
    intro i hi
    obtain ⟨row,x',h3,h4,h5⟩:=hrow i hi
    rw [Addr.add_none] at h3
    obtain ⟨C',t',fr',hC',he,hs⟩:=cells3 rfl h3
    simp only at hC' he hs
    rw [hC] at hC'
    simp only [Option.some.injEq,Obj.cells.injEq] at hC'
    obtain ⟨rfl,_⟩:=hC'
    refine ⟨rfl,hs,x',?_,h5⟩
    rw [List.drop_drop,← he];exact h4
   obtain ⟨gs,g1,g2,g3,g4⟩:=rows_open (P:=P) (ng:=ng) (ts:=ts) (W:=W) (rows:=(List.range cap).map fun i=>((C.toList.drop o).drop (i * 3)).take 3) (by
    intro r hr
    simp only [List.mem_map,List.mem_range] at hr
    obtain ⟨i,hi,rfl⟩:=hr
    obtain ⟨_,_,x',hx',hx2⟩:=hrow2 i hi
    exact ih n (Nat.lt_succ_self _) _ _ hx' hx2)
   rw [rows_flat] at g4
   simp at g1
   have hsz:=(hrow2 (cap - 1) (by omega)).2.1
   have htl:(gs.take len).length=len:=by rw [List.length_take];omega
   have hlw:len < 2 ^ 50:=by
    have:=hw ((elems.length + rest.length) * P.bytesOf 27) (by rw [hx];simp only [DataW.weights,T.u25,List.length_map,List.mem_cons,true_or])
    have h2:elems.length + rest.length≤(elems.length + rest.length) * P.bytesOf 27:=Nat.le_mul_of_pos_right _ T.b27
    omega
   refine ⟨gs.take len,by rw [htl];exact hlw,oks_take g2 len,oks_takeR g3 len,fun σ μ I ho=>?_⟩
   obtain ⟨σ1,μ1,I1,us,o1,l1,c1,r1,t1⟩:=g4 σ μ I ho
   have hul:us.length=cap * 3:=by
    have:=congrArg List.length c1
    rw [concL_len,List.length_take,List.length_drop] at this
    simp at this;omega
   obtain ⟨o2,l2⟩:=o1.add (blk:=b) (off:=o) (us:=us) t1 ⟨C,t,fr,hC,by omega,fun k v hk=>by
    have h1:(concL μ1 us)[k]? = some (conc μ1 v):=by rw [concL_eq,List.getElem?_map,hk];rfl
    rw [c1,List.getElem?_take] at h1
    split at h1
    ·rw [List.getElem?_drop] at h1;simpa using h1
    ·simp at h1⟩
   refine ⟨_,_,_,[.slice (some ⟨σ1.next,0,none⟩) len cap],o2,l1.trans l2,?_,?_,?_⟩
   ·simp [concL,conc,cAddr,upd_same]
   ·simp only [RdL,Rd]
    refine ⟨.inr ⟨σ1.next,0,cap,us,us.take (len * 3),us.drop (len * 3),by rw [htl],by rw [htl];exact hlc,by simp [Img.set],by simp,?_⟩,trivial⟩
    have hfl:fL (gs.take len)=(fL gs).take (len * 3):=by
     have e:=fL_app (gs.take len) (gs.drop len)
     rw [List.take_append_drop] at e
     rw [e,show len * 3=(fL (gs.take len)).length by rw [fL_len,htl],List.take_left]
    rw [hfl]
    exact (r1.take _).mono l2.i (Eta.le_refl _)
   ·simp [ltL,lt]
theorem fm_open (T:FmT P tO) (hb:∃ (b:Nat) (C:Array Value) (t:TypeId) (fr:Nat × Nat),W.heap[b]? = some (.cells C t fr)):∀ (fuel:Nat) (cs:List Value) (x:DataW H × List MemPlace),DataW.trod enc P W 0 (fun _=>true) true fuel 27 cs=some x→(∀ m∈x.1.weights P 27,m≤reachBytes)→∃ f:Fm,f.ok∧f.opsOK∧OpenAny P ng ts W cs (fC f):=by
 intro fuel
 induction fuel using Nat.strongRecOn with
 | ind fuel ih=>
  intro cs x h hw
  obtain ⟨fs,hu,hfs,hty,⟨f0,a0,a1,a2⟩,⟨f1,b0,b1,b2⟩,⟨f2,c0,c1,c2⟩⟩:=T.u27
  obtain ⟨xs,n,rfl,hx,hl,hxl,hf⟩:=DataW.trod_struct hu h
  rw [T.c27] at hl
  obtain ⟨v0,v1,v2,rfl⟩:∃ a b c,cs=[a,b,c]:=by
   match cs,hl with
   | [a,b,c],_=>exact ⟨a,b,c,rfl⟩
  have g0:=hf 0 f0 a0
  have g1:=hf 1 f1 b0
  have g2:=hf 2 f2 c0
  rw [a1,a2,T.cO,List.getElem?_eq_getElem (by omega)] at g0
  rw [b1,b2,T.c9,List.getElem?_eq_getElem (by omega)] at g1
  rw [c1,c2,T.c25,List.getElem?_eq_getElem (by omega)] at g2
  simp only [SW] at g0 g1 g2
  obtain ⟨x0,x1,x2,rfl⟩:∃ a b c,xs=[a,b,c]:=by
   match xs,hxl.trans hfs with
   | [a,b,c],_=>exact ⟨a,b,c,rfl⟩
  simp only [List.getElem_cons_zero,List.getElem_cons_succ] at g0 g1 g2
  obtain ⟨o,hv0,_,hwf⟩:=DataW.trod_int T.uO g0
  obtain ⟨s,hv1,hx1,hs⟩:=DataW.trod_string T.u9 g1
  have hwx:∀ m,m∈x1.1.weights P 9∨m∈x2.1.weights P 25→m≤reachBytes:=fun m hm=>hw m (by
   rw [hx]
   simp only [DataW.weights,hu,hty,List.map_cons,List.map_nil,DataW.weightsEach,List.mem_append]
   rcases hm with hm | hm
   ·exact .inr (.inl hm)
   ·exact .inr (.inr (.inl hm)))
  have hsz:s.size≤reachBytes:=by
   have:=hwx s.data.toList.length (.inl (by rw [hx1];simp [DataW.weights]))
   rwa [ba_size] at this
  simp at hv0 hv1
  subst hv0 hv1
  have hreach:reachBytes < 2 ^ 50:=by decide
  obtain ⟨ks,k1,k2,k3,k4⟩:=kids_open (ng:=ng) (ts:=ts) T hb (fuel:=n) (fun m hm cs x hx hy=>ih m (by omega) cs x hx hy) g2 (fun m hm=>hwx m (.inr hm))
  have ho:0≤o∧o < 256:=by
   simp [Lit.wf,IntKind.min,IntKind.max,IntKind.signed,IntKind.bits] at hwf
   omega
  refine ⟨.mk o.toNat s ks,⟨by omega,k1,k2⟩,⟨by omega,k3⟩,?_⟩
  have e:fC (.mk o.toNat s ks)=[.lit (.int .u8 o)]++([.lit (.string s)]++[.sz (fL ks) ks.length]):=by
   simp only [SW,fC]
   rw [Int.toNat_of_nonneg ho.1]
  rw [e]
  exact (OpenAny.lit (by simp [lt])).append ((OpenAny.lit (by simp [lt])).append k4)
end
end Go.Proofs.YtnpoloachkcadaaGreatDoor.Ai
namespace Go.Proofs.YtnpoloachkcadaaGreatDoor.Ai
set_option linter.unusedSimpArgs false
open Go
set_option linter.unusedSimpArgs false
set_option linter.unusedVariables false
set_option linter.unusedSectionVars false
def TR (a b c:Int):Prop:=(a≤0→b≤0→c≤0∧(a < 0∨b < 0→c < 0))∧(0≤a→0≤b→0≤c∧(0 < a∨0 < b→0 < c))
theorem TR.or {a b c a' b' c':Int} (h:TR a b c) (k:a=0→b=0→c=0→TR a' b' c'):TR (orZ a a') (orZ b b') (orZ c c'):=by
 have e:∀ x y:Int,(x=0∧orZ x y=y)∨(x ≠ 0∧orZ x y=x):=by
  intro x y
  unfold orZ
  by_cases hx:x=0
  ·exact .inl ⟨hx,by simp [neB_iff,hx]⟩
  ·exact .inr ⟨hx,by simp [neB_iff,hx]⟩
 rcases e a a' with ⟨h1,e1⟩ | ⟨h1,e1⟩ <;> rcases e b b' with ⟨h2,e2⟩ | ⟨h2,e2⟩ <;> rcases e c c' with ⟨h3,e3⟩ | ⟨h3,e3⟩ <;> rw [e1,e2,e3]
 ·exact k h1 h2 h3
 all_goals (unfold TR at *;omega)
theorem cmpZ_tr (a b c:Int):TR (cmpZ a b) (cmpZ b c) (cmpZ a c):=by
 unfold cmpZ TR
 simp only [ltB_iff]
 repeat' split
 all_goals simp <;> omega
theorem cmpB_tr:∀ a b c:List UInt8,TR (Go.Lib.compareBytes a b) (Go.Lib.compareBytes b c) (Go.Lib.compareBytes a c)
 | [],[],[]=>by simp [Go.Lib.compareBytes,TR]
 | [],[],_::_=>by simp [Go.Lib.compareBytes,TR]
 | [],_::_,[]=>by simp [Go.Lib.compareBytes,TR]
 | _::_,[],[]=>by simp [Go.Lib.compareBytes,TR]
 | _::_,_::_,[]=>by simp only [Go.Lib.compareBytes,TR];omega
 | [],_::_,_::_=>by simp only [Go.Lib.compareBytes,TR];omega
 | _::_,[],_::_=>by simp [Go.Lib.compareBytes,TR]
 | a::as,b::bs,c::cs=>by
  have ih:=cmpB_tr as bs cs
  simp only [Go.Lib.compareBytes,UInt8.lt_iff_toNat_lt]
  unfold TR at *
  repeat' split
  all_goals first | omega | simp_all
theorem cmpB_eq:∀ {a b:List UInt8},Go.Lib.compareBytes a b=0→a=b
 | [],[],_=>rfl
 | [],_::_,h=>by simp [Go.Lib.compareBytes] at h
 | _::_,[],h=>by simp [Go.Lib.compareBytes] at h
 | a::as,b::bs,h=>by
  simp only [Go.Lib.compareBytes,UInt8.lt_iff_toNat_lt] at h
  split at h
  ·simp at h
  ·split at h
   ·simp at h
   ·have:a=b:=UInt8.toNat_inj.1 (by omega)
    rw [this,cmpB_eq h]
theorem cmpZ_eq {a b:Int} (h:cmpZ a b=0):a=b:=by
 unfold cmpZ at h
 simp only [ltB_iff] at h
 split at h
 ·simp at h
 ·split at h
  ·simp at h
  ·omega
theorem orZ_eq {a b:Int} (h:orZ a b=0):a=0∧b=0:=by
 unfold orZ at h
 by_cases ha:a=0
 ·simp only [neB_iff,ha,ne_eq,not_true_eq_false,if_false] at h
  exact ⟨ha,h⟩
 ·simp only [neB_iff,ne_eq,ha,not_false_eq_true,if_true] at h
theorem cmpS_eq {a b:ByteArray} (h:cmpS a b=0):a=b:=by
 have:=cmpB_eq h
 obtain ⟨⟨a⟩⟩:=a;obtain ⟨⟨b⟩⟩:=b
 simp at this;subst this;rfl
mutual
theorem cmp_tr:∀ f g h:Fm,TR (f.cmp g) (g.cmp h) (f.cmp h)
 | .mk o n ks,.mk o' n' ks',.mk o2 n2 ks2=>by
  simp only [Fm.cmp]
  refine TR.or ?_ ?_
  ·exact (cmpZ_tr _ _ _).or fun _ _ _=>TR.or (cmpB_tr _ _ _) fun _ _ _=>cmpZ_tr _ _ _
  ·intro h1 h2 _
   have e1:=cmpZ_eq (orZ_eq (orZ_eq h1).2).2
   have e2:=cmpZ_eq (orZ_eq (orZ_eq h2).2).2
   exact cmps_tr ks ks' ks2 (by omega) (by omega)
theorem cmps_tr:∀ a b c:List Fm,a.length=b.length→b.length=c.length→TR (cmps a b) (cmps b c) (cmps a c)
 | [],[],[],_,_=>by simp [cmps,TR]
 | x::a,y::b,z::c,h1,h2=>by
  simp only [cmps]
  exact (cmp_tr x y z).or fun _ _ _=>cmps_tr a b c (by simpa using h1) (by simpa using h2)
 | [],_::_,_,h1,_=>by simp at h1
 | _::_,[],_,h1,_=>by simp at h1
 | [],[],_::_,_,h2=>by simp at h2
 | _::_,_::_,[],_,h2=>by simp at h2
end
mutual
theorem cmp_eq:∀ f g:Fm,f.cmp g=0→f=g
 | .mk o n ks,.mk o' n' ks',h=>by
  simp only [Fm.cmp] at h
  obtain ⟨h1,h2⟩:=orZ_eq h
  obtain ⟨h3,h4⟩:=orZ_eq h1
  obtain ⟨h5,h6⟩:=orZ_eq h4
  have e1:=cmpZ_eq h3
  have e2:=cmpS_eq h5
  have e3:=cmpZ_eq h6
  have e4:=cmps_eq ks ks' (by omega) h2
  have:o=o':=by omega
  rw [this,e2,e4]
theorem cmps_eq:∀ a b:List Fm,a.length=b.length→cmps a b=0→a=b
 | [],[],_,_=>rfl
 | x::a,y::b,h1,h=>by
  simp only [cmps] at h
  obtain ⟨h2,h3⟩:=orZ_eq h
  rw [cmp_eq x y h2,cmps_eq a b (by simpa using h1) h3]
 | [],_::_,h1,_=>by simp at h1
 | _::_,[],h1,_=>by simp at h1
end
theorem orZ_zero {a b:Int} (ha:a=0) (hb:b=0):orZ a b=0:=by
 subst ha hb
 simp [orZ]
theorem cmpB_refl:∀ a:List UInt8,Go.Lib.compareBytes a a=0
 | []=>rfl
 | a::as=>by simp only [Go.Lib.compareBytes,UInt8.lt_iff_toNat_lt,Nat.lt_irrefl,if_false];exact cmpB_refl as
theorem cmpZ_refl (a:Int):cmpZ a a=0:=by
 unfold cmpZ
 simp only [ltB_iff]
 rw [if_neg (by omega),if_neg (by omega)]
mutual
theorem cmp_refl:∀ f:Fm,f.cmp f=0
 | .mk o n ks=>by
  simp only [Fm.cmp]
  exact orZ_zero (orZ_zero (cmpZ_refl _) (orZ_zero (cmpB_refl _) (cmpZ_refl _))) (cmps_refl ks)
theorem cmps_refl:∀ a:List Fm,cmps a a=0
 | []=>by simp [cmps]
 | x::a=>by
  simp only [cmps]
  exact orZ_zero (cmp_refl x) (cmps_refl a)
end
mutual
theorem size_wt:∀ (f:Fm) (d:Nat),f.wt d≤2147483647→f.size≤f.wt d
 | .mk o n ks,d,h=>by
  simp only [Fm.wt,Fm.size] at h ⊢
  split at h
  ·omega
  ·rename_i hd
   rw [if_neg hd]
   have:=sizes_wt ks (d + 1) (1 + n.size) h
   omega
theorem sizes_wt:∀ (ks:List Fm) (d n:Nat),wts d n ks≤2147483647→n + sizes ks≤wts d n ks
 | [],d,n,h=>by simp [wts,sizes]
 | k::ks,d,n,h=>by
  simp only [wts,sizes] at h ⊢
  split at h
  ·rename_i hn
   rw [if_pos hn]
   have h1:=sizes_wt ks d (n + k.wt d) h
   have h2:=size_wt k d (by omega)
   omega
  ·omega
end
end Go.Proofs.YtnpoloachkcadaaGreatDoor.Ai
namespace Go.Proofs.YtnpoloachkcadaaGreatDoor.Ai
set_option linter.unusedSimpArgs false
open Go
end Go.Proofs.YtnpoloachkcadaaGreatDoor.Ai
namespace Go.Proofs.YtnpoloachkcadaaGreatDoor.Ai
set_option linter.unusedSimpArgs false
open Go
set_option linter.unusedVariables false
set_option linter.unusedSectionVars false
set_option maxRecDepth 10000
set_option maxHeartbeats 1000000
def ownS:ByteArray:=⟨#[116,104,101,32,111,119,110,101,114,39,115]⟩
def ownC:List PV:=[.lit (.int .u8 0),.lit (.string ⟨#[116,104,101,32,111,119,110,101,114,39,115]⟩),.lit (.slice none 0 0)]
mutual
def lC:Fm→List PV
 | .mk o n ks=>[.lit (.int .u8 (o:Nat)),.lit (.string n),.sp (lL ks++ownC) ks.length (ks.length + 1)]
def lL:List Fm→List PV
 | []=>[]
 | k::ks=>lC k++lL ks
end
def lP (f:Fm):PV:=.agg (lC f)
theorem lC_len (f:Fm):(lC f).length=3:=by cases f;simp [lC]
theorem lL_len:∀ ks:List Fm,(lL ks).length=ks.length * 3
 | []=>by simp [lL]
 | k::ks=>by simp [lL,lC_len,lL_len ks];omega
mutual
theorem pure_lC:∀ f:Fm,pureL (lC f)=true
 | .mk o n ks=>rfl
theorem pure_lL:∀ ks:List Fm,pureL (lL ks)=true
 | []=>rfl
 | k::ks=>by simp [lL,pureL_append,pure_lC k,pure_lL ks]
end
mutual
theorem wk_lC:∀ f:Fm,WkL (lC f) (fC f)
 | .mk o n ks=>by
  simp only [lC,fC]
  exact .cons (.refl _) (.cons (.refl _) (.cons (Wk.sp_sz (ext:=ownC) ((wk_lL ks).append (.refl _))) .nil))
theorem wk_lL:∀ ks:List Fm,WkL (lL ks) (fL ks)
 | []=>.nil
 | k::ks=>by simp only [lL,fL];exact (wk_lC k).append (wk_lL ks)
end
theorem PFun.wkA {C:Ctx} {f:FuncId} {a a':List PV} {r:PV} (h:PFun C f a r) (k:WkL a' a):PFun C f a' r:=by
 intro F I σ vargs hG hs hr
 exact h F I σ vargs hG hs (k _ _ _ hr)
theorem lL_drop:∀ (ks:List Fm) (i:Nat),(lL ks).drop (i * 3)=lL (ks.drop i)
 | ks,0=>by simp
 | [],i + 1=>by simp [lL]
 | k::ks,i + 1=>by
  simp only [lL,List.drop_succ_cons]
  rw [show (i + 1) * 3=(lC k).length + i * 3 by rw [lC_len];omega,← List.drop_drop,List.drop_left,lL_drop ks i]
theorem lL_cut {ks:List Fm} {i:Nat} {k:Fm} (h:ks[i]? = some k):cutP 3 ((lL ks++ownC).drop (i * 3))=some (lC k):=by
 obtain ⟨hi,rfl⟩:=List.getElem?_eq_some_iff.1 h
 rw [List.drop_append_of_le_length (by rw [lL_len];omega),lL_drop,List.drop_eq_getElem_cons hi]
 simp only [lL]
 have:=lC_len ks[i]
 generalize lC ks[i]=c at this
 match c,this with
 | [a,b,d],_=>rfl
theorem own_drop (ks:List Fm):(lL ks++ownC).drop (ks.length * 3)=ownC:=by
 rw [← lL_len ks,List.drop_left]
theorem overP_all:∀ (z v b:List PV),z.length=v.length→overP (z++b) v=some (v++b)
 | [],[],b,_=>by cases b <;> rfl
 | x::z,y::v,b,h=>by simp only [SW,overP_all z v b (by simpa using h)]
 | [],_::_,_,h=>by simp at h
 | _::_,[],_,h=>by simp at h
theorem splice_at:∀ (a z v b:List PV) (n:Nat),a.length=n→z.length=v.length→spliceP (a++(z++b)) n v=some (a++(v++b))
 | [],z,v,b,0,_,h=>by
  have:=overP_all z v b h
  cases hz:z++b with
  | nil=>rw [hz] at this;simpa [spliceP] using this
  | cons x l=>rw [hz] at this;simpa [spliceP] using this
 | x::a,z,v,b,n + 1,h1,h2=>by simp only [SW,splice_at a z v b n (by simpa using h1) h2]
 | [],_,_,_,_ + 1,h,_=>by simp at h
 | _::_,_,_,_,0,h,_=>by simp at h
def zC:List PV:=[.lit (.int .u8 0),.lit (.string ⟨#[]⟩),.lit (.slice none 0 0)]
def zs (m:Nat):List PV:=(List.replicate m zC).flatten
theorem zs_succ (m:Nat):zs (m + 1)=zC++zs m:=by simp [zs,List.replicate_succ]
section
variable {C:Ctx} (hm:C.P.follows .mixedOrders=true) (hC:TabOK C.P C.ng C.ts Tryz.tab)
include hm hC
theorem wholes_of (ks:List Fm) (hl:ks.length < 2 ^ 38) (hk:∀ (i:Nat) (k:Fm),ks[i]? = some k→PFun C 22 [lP k,fP k] (.lit (.bool true))):PFun C 63 [.sp (lL ks++ownC) ks.length (ks.length + 1),.sz (fL ks) ks.length] (.lit (.bool true)):=by
 have w0:IntKind.i64.wrap (((ks.length:Nat):Int) + 1)=((ks.length + 1:Nat):Int):=by rw [wrap64 (by omega) (by omega)];omega
 have e0:=neB_f (show ((ks.length:Nat):Int)=((ks.length:Nat):Int) from rfl)
 have e1:=ltB_f (show ¬ ((ks.length + 1:Nat):Int) < ((ks.length + 1:Nat):Int) by omega)
 have e2:(0:Int)≤((ks.length + 1:Nat):Int):=by omega
 have e3:((ks.length:Nat):Int) < ((ks.length + 1:Nat):Int):=by omega
 have e4:=neS_f (show (⟨#[116,104,101,32,111,119,110,101,114,39,115]⟩:ByteArray)=⟨#[116,104,101,32,111,119,110,101,114,39,115]⟩ from rfl)
 have e5:=neB_f (show (0:Int)=0 from rfl)
 have e6:=ltB_f (show ¬ (0:Int) < 0 by omega)
 have hd:=own_drop ks
 have hown:ownC=[.lit (.int .u8 0),.lit (.string ⟨#[116,104,101,32,111,119,110,101,114,39,115]⟩),.lit (.slice none 0 0)]:=rfl
 rw [show (lL ks++ownC).drop (ks.length * 3)=_ from hd,hown] at hd
 have hd:(lL ks++ownC).drop (ks.length * 3)=[.lit (.int .u8 0),.lit (.string ⟨#[116,104,101,32,111,119,110,101,114,39,115]⟩),.lit (.slice none 0 0)]:=own_drop ks
 refine PFun.body hm hC (show Tryz.tab.get 63=some Tryz.c63 from rfl) rfl ?_
 simp only [SW,Tryz.c63,startP,Nat.reduceAdd,Nat.reduceSub,List.replicate]
 repeat (refine PRun.wpn rfl ?_;simp only [SW,↓reduceIte,reduceCtorEq,e0,e1,w0,e2,e3,e4,e5,e6,hd])
 refine PRun.gh (Gh.mask mkPuA4 ?_)
 simp only [mkPuA4,↓reduceIte,Bool.false_eq_true,maskP]
 refine PRun.loopG (fun m t π=>∃ i:Nat,t=(.sp (lL ks++ownC) ks.length (ks.length + 1)::.sz (fL ks) ks.length::.junk::.junk::.junk::.junk::.lit (.int .i64 (i:Nat))::.junk::.junk::.junk::.junk::.junk::.junk::.junk::.junk::.junk::.junk::.junk::.junk::.junk::.junk::.junk::.junk::.junk::.junk::.junk::.junk::.junk::.junk::.junk::.junk::.junk::.junk::.junk::.junk::.junk::.junk::.junk::.junk::.junk::.junk::.junk::.junk::.junk::.junk::.junk::.junk::.junk::.junk::.junk::.junk::.junk::.junk::.junk::.junk::.junk::.junk::.junk::.junk::.junk::.junk::.junk::.junk::.junk::.junk::.junk::.junk::[])∧i≤ks.length∧m=ks.length - i∧π=⟨0,[]⟩) ?_ ks.length _ _ ⟨0,rfl,by omega,rfl,rfl⟩
 rintro m t π ⟨i,rfl,hi,rfl,rfl⟩
 by_cases hlt:(i:Int) < (ks.length:Nat)
 ·obtain ⟨k,hki⟩:∃ k,ks[i]? = some k:=⟨ks[i]'(by omega),List.getElem?_eq_getElem (by omega)⟩
  have hcut:=fL_cut hki
  have hcut2:=lL_cut hki
  have hc:=hk i k hki
  have w1:IntKind.i64.wrap (((i:Nat):Int) + 1)=((i + 1:Nat):Int):=by rw [wrap64 (by omega) (by omega)];omega
  obtain ⟨o',nm',ks'⟩:=k
  simp only [fP,fC,lP,lC] at hc hcut hcut2
  repeat (refine PRun.wpn rfl ?_;simp only [SW,↓reduceIte,ltB_t hlt])
  refine PDraw.stage (Nat.zero_le _) rfl ?_
  try dsimp only
  simp only [SW,↓reduceIte,Nat.reduceAdd,hlt,hcut,hcut2]
  refine PDE.pure hc rfl ?_
  refine PDraw.last (Nat.zero_le _) rfl ?_
  try dsimp only
  simp only [SW]
  repeat (refine PRun.wpn rfl ?_;simp only [SW,↓reduceIte,w1])
  refine Gh.mask mkPuA4 ?_
  exact ⟨ks.length - (i + 1),by omega,i + 1,rfl,by omega,rfl,rfl⟩
 ·repeat (refine PRun.wpn rfl ?_;simp only [SW,↓reduceIte,reduceCtorEq,ltB_f hlt])
  exact .refl ⟨_,rfl,.refl _⟩
theorem whole_ok:∀ (n:Nat) (f:Fm),f.size≤n→n < 2 ^ 38→PFun C 22 [lP f,fP f] (.lit (.bool true)):=by
 intro n
 induction n with
 | zero=>intro f h;have:=f.size_pos;omega
 | succ n ih=>
  intro f hf hn
  obtain ⟨o,nm,ks⟩:=f
  simp only [Fm.size] at hf
  have hlen:=len_sizes ks
  have hl:=wholes_of hm hC ks (by omega) fun i k hk=>by
   have:=size_kid hk
   exact ih k (by omega) (by omega)
  refine PFun.body hm hC (show Tryz.tab.get 22=some Tryz.c22 from rfl) rfl ?_
  simp only [SW,Tryz.c22,startP,Nat.reduceAdd,Nat.reduceSub,List.replicate,fP,fC,lP,lC]
  repeat (refine PRun.wpn rfl ?_;simp only [SW,↓reduceIte,reduceCtorEq,Nat.reduceAdd,eqB_t (show ((o:Nat):Int)=(o:Nat) from rfl),eqS_t (show nm=nm from rfl)])
  refine .refl (PFun.to (hl) rfl (POps.wp ?_))
  simp only [SW]
  repeat (refine PRun.wpn rfl ?_;simp only [wp,or_true,true_and,reduceCtorEq])
  exact .refl ⟨_,rfl,.refl _⟩
end
end Go.Proofs.YtnpoloachkcadaaGreatDoor.Ai
