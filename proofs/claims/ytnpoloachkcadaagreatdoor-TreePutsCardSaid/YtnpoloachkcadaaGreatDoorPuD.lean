/- A PART OF THE PROOF: a step of the proof that the law's code does what its contracts say, by an interpreter of the program's functions that is proved to be sound. -/
import Derived.Test.YtnpoloachkcadaaGreatDoorPv4
import Derived.Test.YtnpoloachkcadaaGreatDoorPuA
import Derived.Test.YtnpoloachkcadaaGreatDoorPuB
import Derived.Test.YtnpoloachkcadaaGreatDoorPuC
import Derived.Lib.ItoaLen
namespace Go.Proofs.YtnpoloachkcadaaGreatDoor.Ai
set_option linter.unusedSimpArgs false
open Go
set_option linter.unusedVariables false
set_option linter.unusedSectionVars false
set_option maxRecDepth 10000
set_option maxHeartbeats 1000000
def mkPuD1:List Bool:=(true::false::false::true::false::false::false::false::false::false::false::false::false::false::false::false::false::false::false::false::false::false::false::false::false::false::false::false::false::false::false::false::false::false::false::false::false::false::false::false::[])
def mkPuD2:List Bool:=(false::true::false::true::true::false::false::false::false::false::false::false::false::false::false::false::false::false::false::false::false::[])
def mkPuD3:List Bool:=(false::true::false::true::true::false::false::false::false::false::false::false::false::false::false::false::false::false::false::false::false::false::[])
def mkPuD4:List Bool:=(false::true::true::false::false::true::true::true::false::false::false::false::false::false::false::false::false::false::false::false::false::false::false::false::false::false::false::false::false::false::false::false::false::false::false::false::false::false::false::false::false::false::false::false::false::false::false::false::false::false::false::false::false::false::false::false::false::false::false::false::false::false::false::false::false::false::false::false::false::false::false::false::false::false::false::false::false::false::false::false::false::false::false::false::[])
def mkPuD5:List Bool:=(false::true::true::false::false::true::false::false::false::true::false::false::false::false::false::false::false::false::false::false::false::false::false::false::false::false::false::false::false::false::false::false::false::false::false::false::false::false::false::false::false::false::false::false::false::false::false::false::false::false::false::false::false::false::false::false::false::false::false::false::false::false::false::false::false::false::false::false::false::false::false::false::false::false::false::false::false::false::false::false::false::false::false::false::[])
def mkPuD6:List Bool:=(false::true::true::true::true::false::false::false::false::false::false::false::false::false::false::false::false::false::false::false::false::false::false::false::false::false::false::false::false::[])
def mkPuD7:List Bool:=(false::true::true::true::false::false::true::false::true::true::false::false::false::false::false::false::false::false::false::false::false::false::false::false::false::false::false::false::false::false::false::false::false::false::false::false::false::false::false::false::false::false::false::false::false::false::false::false::false::false::false::false::[])
def mkPuD8:List Bool:=(true::false::true::false::true::false::false::false::false::false::false::false::false::false::false::false::false::false::false::false::false::false::false::false::false::false::false::false::false::false::false::false::false::false::false::false::false::false::false::[])
def mkPuD9:List Bool:=(true::false::true::false::true::false::false::true::false::false::false::false::false::false::false::false::false::false::false::false::false::false::false::false::false::false::false::false::false::false::false::false::false::false::false::false::false::false::false::[])
def mkPuD10:List Bool:=(false::true::false::true::false::true::true::true::false::false::false::true::true::true::false::false::false::false::false::false::false::false::false::false::false::false::false::false::false::false::false::false::false::false::false::false::false::false::false::false::false::false::false::false::false::false::false::false::false::false::false::false::false::false::false::false::false::false::false::false::false::false::false::false::false::false::false::false::false::false::false::false::false::false::false::false::false::false::false::false::[])
def mkPuD11:List Bool:=(false::true::false::true::false::true::false::true::false::true::true::true::true::true::true::true::false::false::false::false::false::false::false::false::false::false::false::false::false::false::false::false::false::false::false::false::false::false::false::false::false::false::false::false::false::false::false::false::false::false::false::false::false::false::false::false::false::false::false::false::false::false::false::false::false::false::false::false::false::false::false::false::false::false::false::false::false::false::false::false::false::false::false::false::false::false::false::false::false::false::false::false::false::false::false::false::false::false::false::false::false::false::false::[])
theorem eqB_nat (o j:Nat):eqB ((o:Nat):Int) ((j:Nat):Int)=(o == j):=by
 by_cases h:o=j
 ·rw [eqB_t (by omega)];simp [h]
 ·rw [eqB_f (by omega)];simp [h]
def rk (o:Nat):Int:=if o < 22 then kt.getD o 0 else -1
section
variable {C:Ctx} (hm:C.P.follows .mixedOrders=true) (hC:TabOK C.P C.ng C.ts Tryz.tab)
include hm hC
theorem rkids_ok (o:Nat):PFun C 126 [.lit (.int .u8 (o:Nat))] (.lit (.int .i64 (rk o))):=by
 have e1:eqB (o:Nat) 1=(o == 1):=eqB_nat o 1
 have e2:eqB (o:Nat) 2=(o == 2):=eqB_nat o 2
 have e3:eqB (o:Nat) 3=(o == 3):=eqB_nat o 3
 have e4:eqB (o:Nat) 4=(o == 4):=eqB_nat o 4
 have e5:eqB (o:Nat) 5=(o == 5):=eqB_nat o 5
 have e6:eqB (o:Nat) 6=(o == 6):=eqB_nat o 6
 have e7:eqB (o:Nat) 7=(o == 7):=eqB_nat o 7
 have e8:eqB (o:Nat) 8=(o == 8):=eqB_nat o 8
 have e9:eqB (o:Nat) 9=(o == 9):=eqB_nat o 9
 have e10:eqB (o:Nat) 10=(o == 10):=eqB_nat o 10
 have e11:eqB (o:Nat) 11=(o == 11):=eqB_nat o 11
 have e12:eqB (o:Nat) 12=(o == 12):=eqB_nat o 12
 have e13:eqB (o:Nat) 13=(o == 13):=eqB_nat o 13
 have e14:eqB (o:Nat) 14=(o == 14):=eqB_nat o 14
 have e15:eqB (o:Nat) 15=(o == 15):=eqB_nat o 15
 have e16:eqB (o:Nat) 16=(o == 16):=eqB_nat o 16
 have e17:eqB (o:Nat) 17=(o == 17):=eqB_nat o 17
 have e18:eqB (o:Nat) 18=(o == 18):=eqB_nat o 18
 have e19:eqB (o:Nat) 19=(o == 19):=eqB_nat o 19
 have e20:eqB (o:Nat) 20=(o == 20):=eqB_nat o 20
 have e21:eqB (o:Nat) 21=(o == 21):=eqB_nat o 21
 generalize hv:((o:Nat):Int)=v at *
 refine PFun.body hm hC (show Tryz.tab.get 126=some Tryz.c126 from rfl) rfl ?_
 simp only [SW,Tryz.c126,startP,Nat.reduceAdd,Nat.reduceSub,List.replicate]
 by_cases h:o < 22
 ·obtain ⟨j,hj⟩:∃ j:Fin 22,j.1=o:=⟨⟨o,h⟩,rfl⟩
  have hr:rk o=kt.getD o 0:=if_pos h
  rw [hr]
  clear hr hv
  rcases o with _ | _ | _ | _ | _ | _ | _ | _ | _ | _ | _ | _ | _ | _ | _ | _ | _ | _ | _ | _ | _ | _ | o
  all_goals first | (exfalso;omega) | skip
  all_goals simp only [Nat.reduceAdd,Nat.reduceBEq,Nat.zero_add] at e1 e2 e3 e4 e5 e6 e7 e8 e9 e10 e11 e12 e13 e14 e15 e16 e17 e18 e19 e20 e21
  all_goals
   repeat (refine PRun.wpn rfl ?_;simp only [SW,↓reduceIte,reduceCtorEq,Nat.reduceAdd,e1,e2,e3,e4,e5,e6,e7,e8,e9,e10,e11,e12,e13,e14,e15,e16,e17,e18,e19,e20,e21])
   exact .refl ⟨_,rfl,.refl _⟩
 ·have hr:rk o = -1:=if_neg h
  rw [hr]
  have f:∀ j:Nat,j < 22→(o == j)=false:=fun j hj=>by simp;omega
  rw [f _ (by decide)] at e1 e2 e3 e4 e5 e6 e7 e8 e9 e10 e11 e12 e13 e14 e15 e16 e17 e18 e19 e20 e21
  repeat (refine PRun.wpn rfl ?_;simp only [SW,↓reduceIte,reduceCtorEq,e1,e2,e3,e4,e5,e6,e7,e8,e9,e10,e11,e12,e13,e14,e15,e16,e17,e18,e19,e20,e21])
  exact .refl ⟨_,rfl,.refl _⟩
end
end Go.Proofs.YtnpoloachkcadaaGreatDoor.Ai
namespace Go.Proofs.YtnpoloachkcadaaGreatDoor.Ai
set_option linter.unusedSimpArgs false
open Go
set_option linter.unusedVariables false
set_option linter.unusedSectionVars false
set_option maxRecDepth 10000
set_option maxHeartbeats 1000000
section
variable {C:Ctx} (hm:C.P.follows .mixedOrders=true) (hC:TabOK C.P C.ng C.ts Tryz.tab)
include hm hC
theorem rname_ok (s:ByteArray) (hs:s.size < 2 ^ 60):PFun C 96 [.lit (.string s)] (.lit (.bool (yesB (nameOK s)))):=by
 refine PFun.body hm hC (show Tryz.tab.get 96=some Tryz.c96 from rfl) rfl ?_
 simp only [SW,Tryz.c96,startP,Nat.reduceAdd,Nat.reduceSub,List.replicate]
 by_cases h0:((s.size:Nat):Int) < 1
 ·repeat (refine PRun.wpn rfl ?_;simp only [SW,↓reduceIte,reduceCtorEq,ltB_t h0])
  rw [yes_f (fun h=>by have:=h.1;omega)]
  exact .refl ⟨_,rfl,.refl _⟩
 by_cases h1:(32:Int) < (s.size:Nat)
 ·repeat (refine PRun.wpn rfl ?_;simp only [SW,↓reduceIte,reduceCtorEq,ltB_f h0,ltB_t h1])
  rw [yes_f (fun h=>by have:=h.2.1;omega)]
  exact .refl ⟨_,rfl,.refl _⟩
 repeat (refine PRun.wpn rfl ?_;simp only [SW,↓reduceIte,reduceCtorEq,ltB_f h0,ltB_f h1])
 refine PRun.gh (Gh.mask mkPuD1 ?_)
 simp only [mkPuD1,↓reduceIte,Bool.false_eq_true,maskP]
 refine PRun.loopG (fun m t π=>∃ i:Nat,t=(.lit (.string s)::.junk::.junk::.lit (.int .i64 (i:Nat))::.junk::.junk::.junk::.junk::.junk::.junk::.junk::.junk::.junk::.junk::.junk::.junk::.junk::.junk::.junk::.junk::.junk::.junk::.junk::.junk::.junk::.junk::.junk::.junk::.junk::.junk::.junk::.junk::.junk::.junk::.junk::.junk::.junk::.junk::.junk::.junk::[])∧i≤s.size∧m=s.size - i∧(∀ (j:Nat) (h:j < s.size),j < i→charOK s[j])∧π=⟨0,[]⟩) ?_ s.size _ _ ⟨0,rfl,by omega,rfl,fun j h hj=>by omega,rfl⟩
 rintro m t π ⟨i,rfl,hi,rfl,hall,rfl⟩
 by_cases hlt:(i:Int) < (s.size:Nat)
 ·have hil:i < s.size:=by omega
  have hc:=idx_some hil
  have bad:¬ charOK s[i]→yesB (nameOK s)=false:=fun hb=>yes_f fun h=>hb (h.2.2 i hil)
  have w1:IntKind.i64.wrap (((i:Nat):Int) + 1)=((i + 1:Nat):Int):=by rw [wrap64 (by omega) (by omega)];omega
  generalize hcc:s[i]=c at hc bad
  by_cases c1:((c.toNat:Nat):Int) < 32
  ·repeat (refine PRun.wpn rfl ?_;simp only [SW,↓reduceIte,reduceCtorEq,ltB_t hlt,hc,ltB_t c1])
   rw [bad (fun h=>by have:=h.1;omega)]
   exact .refl ⟨_,rfl,.refl _⟩
  by_cases c2:126 < ((c.toNat:Nat):Int)
  ·repeat (refine PRun.wpn rfl ?_;simp only [SW,↓reduceIte,reduceCtorEq,ltB_t hlt,hc,ltB_f c1,ltB_t c2])
   rw [bad (fun h=>by have:=h.2.1;omega)]
   exact .refl ⟨_,rfl,.refl _⟩
  by_cases c3:((c.toNat:Nat):Int)=34
  ·repeat (refine PRun.wpn rfl ?_;simp only [SW,↓reduceIte,reduceCtorEq,ltB_t hlt,hc,ltB_f c1,ltB_f c2,eqB_t c3])
   rw [bad (fun h=>by have:=h.2.2.1;omega)]
   exact .refl ⟨_,rfl,.refl _⟩
  by_cases c4:((c.toNat:Nat):Int)=92
  ·repeat (refine PRun.wpn rfl ?_;simp only [SW,↓reduceIte,reduceCtorEq,ltB_t hlt,hc,ltB_f c1,ltB_f c2,eqB_f c3,eqB_t c4])
   rw [bad (fun h=>by have:=h.2.2.2;omega)]
   exact .refl ⟨_,rfl,.refl _⟩
  repeat (refine PRun.wpn rfl ?_;simp only [SW,↓reduceIte,ltB_t hlt,hc,ltB_f c1,ltB_f c2,eqB_f c3,eqB_f c4,w1])
  refine Gh.mask mkPuD1 ?_
  refine ⟨s.size - (i + 1),by omega,i + 1,rfl,by omega,rfl,fun j h hj=>?_,rfl⟩
  by_cases hji:j=i
  ·subst hji;rw [hcc];exact ⟨by omega,by omega,by omega,by omega⟩
  ·exact hall j h (by omega)
 ·repeat (refine PRun.wpn rfl ?_;simp only [SW,↓reduceIte,reduceCtorEq,ltB_f hlt])
  rw [yes_t ⟨by omega,by omega,fun j h=>hall j h (by omega)⟩]
  exact .refl ⟨_,rfl,.refl _⟩
theorem rsize_ok:∀ (n:Nat) (f:Fm),f.size≤n→n < 2 ^ 60→PFun C 23 [fP f] (.lit (.int .i64 (f.size:Nat))):=by
 intro n
 induction n with
 | zero=>intro f h;have:=f.size_pos;omega
 | succ n ih=>
  intro f hf hn
  obtain ⟨o,nm,ks⟩:=f
  simp only [Fm.size] at hf
  have hlen:=len_sizes ks
  refine PFun.body hm hC (show Tryz.tab.get 23=some Tryz.c23 from rfl) rfl ?_
  simp only [SW,Tryz.c23,startP,Nat.reduceAdd,Nat.reduceSub,List.replicate,fP,fC]
  repeat (refine PRun.wpn rfl ?_;simp only [SW,reduceCtorEq])
  refine PRun.gh (Gh.mask mkPuD2 ?_)
  simp only [mkPuD2,↓reduceIte,Bool.false_eq_true,maskP]
  refine PRun.loopG (fun m t π=>∃ i:Nat,t=(.junk::.ptr 0 0::.junk::.lit (.int .i64 ((1 + sizes (ks.take i):Nat):Int))::.lit (.int .i64 (i:Nat))::.junk::.junk::.junk::.junk::.junk::.junk::.junk::.junk::.junk::.junk::.junk::.junk::.junk::.junk::.junk::.junk::[])∧i≤ks.length∧m=ks.length - i∧π=⟨1,[(0,.cells [.lit (.int .u8 (o:Nat)),.lit (.string nm),.sz (fL ks) ks.length] 27 3 true false [])]⟩) ?_ ks.length _ _ ⟨0,rfl,by omega,rfl,rfl⟩
  rintro m t π ⟨i,rfl,hi,rfl,rfl⟩
  by_cases hlt:(i:Int) < (ks.length:Nat)
  ·obtain ⟨k,hk⟩:∃ k,ks[i]? = some k:=⟨ks[i]'(by omega),List.getElem?_eq_getElem (by omega)⟩
   have h1:=size_kid hk
   have h2:=sizes_take hk
   have h3:=sizes_le ks (i + 1)
   have hcut:=fL_cut hk
   have hrec:=ih k (by omega) (by omega)
   have w1:IntKind.i64.wrap (((i:Nat):Int) + 1)=((i + 1:Nat):Int):=by rw [wrap64 (by omega) (by omega)];omega
   have w2:IntKind.i64.wrap (((1 + sizes (ks.take i):Nat):Int) + (k.size:Nat))=((1 + sizes (ks.take (i + 1)):Nat):Int):=by rw [wrap64 (by omega) (by omega),h2];omega
   generalize k.size=kz at *
   obtain ⟨o',nm',ks'⟩:=k
   simp only [fP,fC] at hrec hcut
   repeat (refine PRun.wpn rfl ?_;simp only [SW,↓reduceIte,ltB_t hlt,hlt,hcut])
   refine .refl (PFun.to (hrec) rfl (POps.wp ?_))
   simp only [SW,w2]
   repeat (refine PRun.wpn rfl ?_;simp only [SW,w1])
   refine Gh.mask mkPuD2 ?_
   exact ⟨ks.length - (i + 1),by omega,i + 1,rfl,by omega,rfl,rfl⟩
  ·have hil:i=ks.length:=by omega
   subst hil
   repeat (refine PRun.wpn rfl ?_;simp only [SW,↓reduceIte,reduceCtorEq,ltB_f hlt])
   refine .refl ⟨_,rfl,?_⟩
   rw [List.take_length]
   exact .refl _
theorem rdepth_ok:∀ (n:Nat) (f:Fm),f.size≤n→n < 2 ^ 60→PFun C 34 [fP f] (.lit (.int .i64 (f.depth:Nat))):=by
 intro n
 induction n with
 | zero=>intro f h;have:=f.size_pos;omega
 | succ n ih=>
  intro f hf hn
  obtain ⟨o,nm,ks⟩:=f
  simp only [Fm.size] at hf
  have hlen:=len_sizes ks
  have hds:=depths_sizes ks
  refine PFun.body hm hC (show Tryz.tab.get 34=some Tryz.c34 from rfl) rfl ?_
  simp only [SW,Tryz.c34,startP,Nat.reduceAdd,Nat.reduceSub,List.replicate,fP,fC]
  repeat (refine PRun.wpn rfl ?_;simp only [SW,reduceCtorEq])
  refine PRun.gh (Gh.mask mkPuD3 ?_)
  simp only [mkPuD3,↓reduceIte,Bool.false_eq_true,maskP]
  refine PRun.loopG (fun m t π=>∃ i:Nat,t=(.junk::.ptr 0 0::.junk::.lit (.int .i64 ((depths (ks.take i):Nat):Int))::.lit (.int .i64 (i:Nat))::.junk::.junk::.junk::.junk::.junk::.junk::.junk::.junk::.junk::.junk::.junk::.junk::.junk::.junk::.junk::.junk::.junk::[])∧i≤ks.length∧m=ks.length - i∧π=⟨1,[(0,.cells [.lit (.int .u8 (o:Nat)),.lit (.string nm),.sz (fL ks) ks.length] 27 3 true false [])]⟩) ?_ ks.length _ _ ⟨0,rfl,by omega,rfl,rfl⟩
  rintro m t π ⟨i,rfl,hi,rfl,rfl⟩
  by_cases hlt:(i:Int) < (ks.length:Nat)
  ·obtain ⟨k,hk⟩:∃ k,ks[i]? = some k:=⟨ks[i]'(by omega),List.getElem?_eq_getElem (by omega)⟩
   have h1:=size_kid hk
   have h2:=depths_take hk
   have hcut:=fL_cut hk
   have hrec:=ih k (by omega) (by omega)
   have w1:IntKind.i64.wrap (((i:Nat):Int) + 1)=((i + 1:Nat):Int):=by rw [wrap64 (by omega) (by omega)];omega
   have w2:(if ((k.depth:Nat):Int) > ((depths (ks.take i):Nat):Int) then ((k.depth:Nat):Int) else ((depths (ks.take i):Nat):Int))=((depths (ks.take (i + 1)):Nat):Int):=by rw [h2];split <;> omega
   generalize k.depth=kz at *
   obtain ⟨o',nm',ks'⟩:=k
   simp only [fP,fC] at hrec hcut
   simp only [gt_iff_lt] at w2
   repeat (refine PRun.wpn rfl ?_;simp only [SW,↓reduceIte,ltB_t hlt,hlt,hcut])
   refine .refl (PFun.to (hrec) rfl (POps.wp ?_))
   simp only [SW,w2]
   repeat (refine PRun.wpn rfl ?_;simp only [SW,w1])
   refine Gh.mask mkPuD3 ?_
   exact ⟨ks.length - (i + 1),by omega,i + 1,rfl,by omega,rfl,rfl⟩
  ·have hil:i=ks.length:=by omega
   subst hil
   have w3:IntKind.i64.wrap (((depths ks:Nat):Int) + 1)=((depths ks + 1:Nat):Int):=by rw [wrap64 (by omega) (by omega)];omega
   rw [List.take_length]
   repeat (refine PRun.wpn rfl ?_;simp only [SW,↓reduceIte,reduceCtorEq,ltB_f hlt,w3])
   exact .refl ⟨_,rfl,.refl _⟩
end
end Go.Proofs.YtnpoloachkcadaaGreatDoor.Ai
namespace Go.Proofs.YtnpoloachkcadaaGreatDoor.Ai
set_option linter.unusedSimpArgs false
open Go
set_option linter.unusedVariables false
set_option linter.unusedSectionVars false
set_option maxRecDepth 10000
set_option maxHeartbeats 4000000
noncomputable def tkW (w:Int) (o:Nat):Bool:=!(eqB w 1 && (leB 9 (o:Nat) && leB (o:Nat) 15)) && !(eqB w 2 && leB 16 (o:Nat))
theorem ret_ways:∀ b1 b2 b3 b4 b6 b7 bf b10 b11:Bool,(b1 || b2 || (b3 && !b4) || (!b3 && b6) || (b7 && bf) || (b10 && b11))=true→
  b1=true∨(b1=false∧b2=true)∨(b1=false∧b2=false∧b3=true∧b4=false)∨(b1=false∧b2=false∧b3=false∧b6=true)∨
  (b1=false∧b2=false∧b3=true∧b4=true∧b7=true∧bf=true)∨(b1=false∧b2=false∧b3=false∧b6=false∧b7=true∧bf=true)∨
  (b1=false∧b2=false∧b3=true∧b4=true∧b7=true∧bf=false∧b10=true∧b11=true)∨(b1=false∧b2=false∧b3=true∧b4=true∧b7=false∧b10=true∧b11=true)∨
  (b1=false∧b2=false∧b3=false∧b6=false∧b7=true∧bf=false∧b10=true∧b11=true)∨(b1=false∧b2=false∧b3=false∧b6=false∧b7=false∧b10=true∧b11=true):=by
 intro b1 b2 b3 b4 b6 b7 bf b10 b11
 cases b1 <;> cases b2 <;> cases b3 <;> cases b4 <;> cases b6 <;> cases b7 <;> cases bf <;> cases b10 <;> cases b11 <;> decide
theorem on_ways:∀ b1 b2 b3 b4 b6 b7 bf b10 b11:Bool,(b1 || b2 || (b3 && !b4) || (!b3 && b6) || (b7 && bf) || (b10 && b11))=false→
  b1=false∧b2=false∧((b3=true∧b4=true)∨(b3=false∧b6=false))∧((b7=true∧bf=false)∨b7=false)∧((b10=true∧b11=false)∨b10=false):=by
 intro b1 b2 b3 b4 b6 b7 bf b10 b11
 cases b1 <;> cases b2 <;> cases b3 <;> cases b4 <;> cases b6 <;> cases b7 <;> cases bf <;> cases b10 <;> cases b11 <;> decide
theorem neB_not (a b:Int):neB a b = !eqB a b:=by
 by_cases h:a=b
 ·rw [neB_f (by omega),eqB_t h];rfl
 ·rw [neB_t h,eqB_f h];rfl
theorem hall_t (w:Int) (o:Nat) (nm:ByteArray) (ks:List Fm):yesB ((Fm.mk o nm ks).formed (tkW w))=(!(ltB (rk o) 0 || neB ((ks.length:Nat):Int) (rk o) || (eqB (o:Nat) 3 && !yesB (nameOK nm)) || (!eqB (o:Nat) 3 && neS nm ⟨#[]⟩) || (eqB w 1 && (leB 9 (o:Nat) && leB (o:Nat) 15)) || (eqB w 2 && leB 16 (o:Nat))) && yesB (formeds (tkW w) ks)):=by
 by_cases hf:formeds (tkW w) ks
 ·rw [yes_t hf,Bool.and_true]
  by_cases h22:o < 22
  ·have hr:rk o=kt.getD o 0:=if_pos h22
   rw [hr]
   by_cases h1:kt.getD o 0 < 0
   ·rw [ltB_t h1,yes_f (by simp only [Fm.formed];rintro ⟨_,h,_⟩;omega)];rfl
   ·rw [ltB_f h1]
    by_cases h2:((ks.length:Nat):Int)=kt.getD o 0
    ·rw [neB_f h2]
     have key:(Fm.mk o nm ks).formed (tkW w)↔tkW w o=true∧(o=3→nameOK nm)∧(o ≠ 3→nm=⟨#[]⟩):=by
      simp only [Fm.formed]
      exact ⟨fun h=>⟨h.2.2.2.1,h.2.2.2.2.1,h.2.2.2.2.2.1⟩,fun h=>⟨h22,by omega,h2,h.1,h.2.1,h.2.2,hf⟩⟩
     by_cases h3:o=3
     ·have e3:eqB (o:Nat) 3=true:=eqB_t (by omega)
      rw [e3]
      by_cases h4:nameOK nm
      ·rw [yes_t h4]
       cases ht:tkW w o
       ·rw [yes_f (by rw [key];rintro ⟨h,_⟩;rw [ht] at h;cases h)]
        unfold tkW at ht
        revert ht
        cases eqB w 1 <;> cases leB 9 (o:Nat) <;> cases leB (o:Nat) 15 <;> cases eqB w 2 <;> cases leB 16 (o:Nat) <;> simp
       ·rw [yes_t (key.2 ⟨ht,fun _=>h4,fun h=>absurd h3 h⟩)]
        unfold tkW at ht
        revert ht
        cases eqB w 1 <;> cases leB 9 (o:Nat) <;> cases leB (o:Nat) 15 <;> cases eqB w 2 <;> cases leB 16 (o:Nat) <;> simp
      ·rw [yes_f h4,yes_f (by rw [key];rintro ⟨_,h,_⟩;exact h4 (h h3))];rfl
     ·have e3:eqB (o:Nat) 3=false:=eqB_f (by omega)
      rw [e3]
      by_cases h4:nm=⟨#[]⟩
      ·rw [neS_f h4]
       cases ht:tkW w o
       ·rw [yes_f (by rw [key];rintro ⟨h,_⟩;rw [ht] at h;cases h)]
        unfold tkW at ht
        revert ht
        cases eqB w 1 <;> cases leB 9 (o:Nat) <;> cases leB (o:Nat) 15 <;> cases eqB w 2 <;> cases leB 16 (o:Nat) <;> simp
       ·rw [yes_t (key.2 ⟨ht,fun h=>absurd h h3,fun _=>h4⟩)]
        unfold tkW at ht
        revert ht
        cases eqB w 1 <;> cases leB 9 (o:Nat) <;> cases leB (o:Nat) 15 <;> cases eqB w 2 <;> cases leB 16 (o:Nat) <;> simp
      ·rw [neS_t h4,yes_f (by rw [key];rintro ⟨_,_,h⟩;exact h4 (h h3))];rfl
    ·rw [neB_t h2,yes_f (by simp only [Fm.formed];rintro ⟨_,_,h,_⟩;exact h2 h)];rfl
  ·have hr:rk o = -1:=if_neg h22
   rw [hr,ltB_t (show (-1:Int) < 0 by omega),yes_f (by simp only [Fm.formed];rintro ⟨h,_⟩;exact h22 h)];rfl
 ·rw [yes_f hf,Bool.and_false,yes_f (by simp only [Fm.formed];rintro ⟨_,_,_,_,_,_,h⟩;exact hf h)]
section
variable {C:Ctx} (hm:C.P.follows .mixedOrders=true) (hC:TabOK C.P C.ng C.ts Tryz.tab)
include hm hC
theorem rformed_ok (w:Int):∀ (n:Nat) (f:Fm),f.size≤n→f.ok→n < 2 ^ 60→PFun C 108 [fP f,.lit (.int .i64 w)] (.lit (.bool (yesB (f.formed (tkW w))))):=by
 intro n
 induction n with
 | zero=>intro f h;have:=f.size_pos;omega
 | succ n ih=>
  intro f hf hok hn
  obtain ⟨o,nm,ks⟩:=f
  simp only [Fm.size] at hf
  simp only [Fm.ok] at hok
  have hlen:=len_sizes ks
  have hks:=hok.2.2
  have k1:=rkids_ok hm hC o
  have k2:=rname_ok hm hC nm (by omega)
  have hall:=hall_t w o nm ks
  have hrk:ltB (rk o) 0=false→neB ((ks.length:Nat):Int) (rk o)=false→rk o=(ks.length:Nat):=by
   intro h1 h2
   by_cases h:((ks.length:Nat):Int)=rk o
   ·exact h.symm
   ·rw [neB_t h] at h2;cases h2
  rw [hall]
  clear hall
  generalize hr:rk o=r at *
  generalize hb1:ltB r 0=b1 at *
  generalize hb2:neB ((ks.length:Nat):Int) r=b2 at *
  generalize hb3:eqB ((o:Nat):Int) 3=b3 at *
  generalize hb4:yesB (nameOK nm)=b4 at *
  have hb5:=neB_not ((o:Nat):Int) 3
  rw [hb3] at hb5
  generalize hb6:neS nm ⟨#[]⟩=b6 at *
  generalize hb7:eqB w 1=b7 at *
  generalize hb8:leB 9 ((o:Nat):Int)=b8 at *
  generalize hb9:leB ((o:Nat):Int) 15=b9 at *
  generalize hb10:eqB w 2=b10 at *
  generalize hb11:leB 16 ((o:Nat):Int)=b11 at *
  refine PFun.body hm hC (show Tryz.tab.get 108=some Tryz.c108 from rfl) rfl ?_
  simp only [Tryz.c108,startP,List.length_cons,List.length_nil,Nat.reduceAdd,Nat.reduceSub,List.replicate,List.cons_append,List.nil_append,fP,fC]
  repeat (refine PRun.wpn rfl ?_;simp only [wp,wo_nil,wo_p,wo_r,wo_n,wo_call,onO_s,onN_s,ble_self,pv_t,pv_bool,put_some,pevP,pevR,pevN,getP,setP,evsP,boxP,look,PW.cs?,PW.push,PW.none,nthP,Option.map_some,Option.bind_some,Nat.zero_le,true_and,↓reduceIte,Nat.add_zero,Nat.zero_add,resPs,resP,tupP])
  refine .refl (PFun.to (k1) rfl (POps.wp ?_))
  simp only [wo_nil,wo_p,onO_s,pv_t,put_some,pevP,getP,setP]
  repeat (refine PRun.wpn rfl ?_;simp only [wp,wo_p,wo_r,wo_call,onO_s,pv_t,put_some,pevP,pevR,getP,setP,evsP,look,PW.cs?,nthP,Option.bind_some,Nat.zero_le,true_and,↓reduceIte,Nat.zero_add])
  refine .refl (PFun.to (k2) rfl (POps.wp ?_))
  simp only [wo_nil,wo_p,onO_s,pv_t,put_some,pevP,getP,setP]
  refine PRun.seqc (fun t π=>t=(.junk::.lit (.int .i64 w)::.ptr 0 0::.junk::.junk::.lit (.int .i64 r)::.lit (.bool b4)::.lit (.bool (b8 && b9))::.junk::.junk::.junk::.junk::.junk::.junk::.junk::.junk::.junk::.junk::.junk::.junk::.junk::.junk::.junk::.junk::.junk::.junk::.junk::.junk::.junk::.junk::.junk::.junk::.junk::.junk::.junk::.junk::.junk::.junk::.junk::.junk::.junk::.junk::.junk::.junk::.junk::.junk::.junk::.junk::.junk::.junk::.junk::.junk::.junk::.junk::.junk::.junk::.junk::.junk::.junk::.junk::.junk::.junk::.junk::.junk::.junk::.junk::.junk::.junk::.junk::.junk::.junk::.junk::.junk::.junk::.junk::.junk::.junk::.junk::.junk::.junk::.junk::.junk::.junk::.junk::[])∧π=⟨1,[(0,.cells [.lit (.int .u8 (o:Nat)),.lit (.string nm),.sz (fL ks) ks.length] 27 3 true false [])]⟩) ?_ ?_
  ·cases b8
   ·repeat (refine PRun.wpn rfl ?_;simp only [wp,wo_nil,wo_p,wo_r,wo_g,onO_s,onG_f,wanted_g,wantB_b,b_ft,pv_t,pv_int,pv_bool,put_some,bi_geq,pevP,pevR,getP,setP,look,PW.cs?,nthP,Option.map_some,Option.bind_some,Bool.false_and,↓reduceIte,Nat.add_zero,hb8])
    refine Gh.mask mkPuD4 ?_
    exact ⟨rfl,rfl⟩
   ·repeat (refine PRun.wpn rfl ?_;simp only [wp,wo_nil,wo_p,wo_r,wo_g,beq_self_eq_true,onO_s,onG_t,wanted_g,wantB_b,pv_t,pv_int,put_some,bi_leq,bi_geq,pevP,pevR,getP,setP,look,PW.cs?,nthP,Option.map_some,Option.bind_some,Bool.true_and,↓reduceIte,Nat.add_zero,hb8,hb9])
    refine Gh.mask mkPuD4 ?_
    exact ⟨rfl,rfl⟩
  rintro t π ⟨rfl,rfl⟩
  generalize (b8 && b9)=bf at *
  refine PRun.wpn rfl ?_
  simp only [wp,wo_nil,wo_p,wo_r,onO_s,pv_t,pv_int,put_some,bi_geq,pevP,pevR,getP,setP,look,PW.cs?,nthP,Option.map_some,Option.bind_some,↓reduceIte,Nat.add_zero,hb11]
  by_cases hP:(b1 || b2 || (b3 && !b4) || (!b3 && b6) || (b7 && bf) || (b10 && b11))=true
  ·rw [hP]
   rcases ret_ways b1 b2 b3 b4 b6 b7 bf b10 b11 hP with rfl | ⟨rfl,rfl⟩ | ⟨rfl,rfl,rfl,rfl⟩ | ⟨rfl,rfl,rfl,rfl⟩ | ⟨rfl,rfl,rfl,rfl,rfl,rfl⟩ | ⟨rfl,rfl,rfl,rfl,rfl,rfl⟩ | ⟨rfl,rfl,rfl,rfl,rfl,rfl,rfl,rfl⟩ | ⟨rfl,rfl,rfl,rfl,rfl,rfl,rfl⟩ | ⟨rfl,rfl,rfl,rfl,rfl,rfl,rfl,rfl⟩ | ⟨rfl,rfl,rfl,rfl,rfl,rfl,rfl⟩
   all_goals
    repeat (refine PRun.wpn rfl ?_;simp only [wp,wo_nil,wo_p,wo_r,wo_g,beq_self_eq_true,onO_s,onG_t,onG_f,wanted_g,wantB_b,wantB_u,b_tf,b_ft,pv_t,pv_int,pv_bool,pv_str,put_some,bi_eql,bi_neq,bi_neqS,bi_lss,pevP,pevR,getP,setP,look,PW.cs?,nthP,Option.map_some,Option.bind_some,or_true,true_and,Bool.false_and,↓reduceIte,reduceCtorEq,Nat.add_zero,Nat.zero_add,Bool.not_true,Bool.not_false,hb1,hb2,hb3,hb5,hb6,hb7,hb10])
    exact .refl ⟨_,rfl,.refl _⟩
  ·have hP':=Bool.eq_false_iff.2 hP
   rw [hP']
   obtain ⟨rfl,rfl,hw1,hw2,hw3⟩:=on_ways b1 b2 b3 b4 b6 b7 bf b10 b11 hP'
   have hrl:=hrk rfl rfl
   refine PRun.seqc (fun t π=>t=(.junk::.lit (.int .i64 w)::.ptr 0 0::.junk::.junk::.lit (.int .i64 r)::.junk::.junk::.junk::.junk::.junk::.junk::.junk::.junk::.junk::.junk::.junk::.junk::.junk::.junk::.junk::.junk::.junk::.junk::.junk::.junk::.junk::.junk::.junk::.junk::.junk::.junk::.junk::.junk::.junk::.junk::.junk::.junk::.junk::.junk::.junk::.junk::.junk::.junk::.junk::.junk::.junk::.junk::.junk::.junk::.junk::.junk::.junk::.junk::.junk::.junk::.junk::.junk::.junk::.junk::.junk::.junk::.junk::.junk::.junk::.junk::.junk::.junk::.junk::.junk::.junk::.junk::.junk::.junk::.junk::.junk::.junk::.junk::.junk::.junk::.junk::.junk::.junk::.junk::[])∧π=⟨1,[(0,.cells [.lit (.int .u8 (o:Nat)),.lit (.string nm),.sz (fL ks) ks.length] 27 3 true false [])]⟩) ?_ ?_
   ·rcases hw1 with ⟨rfl,rfl⟩ | ⟨rfl,rfl⟩ <;> rcases hw2 with ⟨rfl,rfl⟩ | rfl <;> rcases hw3 with ⟨rfl,rfl⟩ | rfl
    all_goals
     repeat (refine PRun.wpn rfl ?_;simp only [wp,wo_nil,wo_p,wo_r,wo_g,beq_self_eq_true,onO_s,onG_t,onG_f,wanted_g,wantB_b,b_ft,pv_t,pv_int,pv_bool,pv_str,put_some,bi_eql,bi_neq,bi_neqS,bi_lss,pevP,pevR,getP,setP,look,PW.cs?,nthP,Option.map_some,Option.bind_some,↓reduceIte,Bool.false_eq_true,Nat.add_zero,Nat.zero_add,Bool.not_true,Bool.not_false,hb1,hb2,hb3,hb5,hb6,hb7,hb10])
     refine Gh.mask (false::true::true::false::false::true::false::false::false::false::false::false::false::false::false::false::false::false::false::false::false::false::false::false::false::false::false::false::false::false::false::false::false::false::false::false::false::false::false::false::false::false::false::false::false::false::false::false::false::false::false::false::false::false::false::false::false::false::false::false::false::false::false::false::false::false::false::false::false::false::false::false::false::false::false::false::false::false::false::false::false::false::false::false::[]) ?_
     exact ⟨rfl,rfl⟩
   rintro t π ⟨rfl,rfl⟩
   subst hrl
   repeat (refine PRun.wpn rfl ?_;simp only [wp,wo_nil,wo_p,onO_s,pv_int,put_some,pevP,setP,Bool.true_and,reduceCtorEq,Bool.not_false])
   refine PRun.gh (Gh.mask mkPuD5 ?_)
   simp only [mkPuD5,↓reduceIte,Bool.false_eq_true,maskP]
   refine PRun.loopG (fun m t π=>∃ i:Nat,t=(.junk::.lit (.int .i64 w)::.ptr 0 0::.junk::.junk::.lit (.int .i64 (ks.length:Nat))::.junk::.junk::.junk::.lit (.int .i64 (i:Nat))::.junk::.junk::.junk::.junk::.junk::.junk::.junk::.junk::.junk::.junk::.junk::.junk::.junk::.junk::.junk::.junk::.junk::.junk::.junk::.junk::.junk::.junk::.junk::.junk::.junk::.junk::.junk::.junk::.junk::.junk::.junk::.junk::.junk::.junk::.junk::.junk::.junk::.junk::.junk::.junk::.junk::.junk::.junk::.junk::.junk::.junk::.junk::.junk::.junk::.junk::.junk::.junk::.junk::.junk::.junk::.junk::.junk::.junk::.junk::.junk::.junk::.junk::.junk::.junk::.junk::.junk::.junk::.junk::.junk::.junk::.junk::.junk::.junk::.junk::[])∧i≤ks.length∧m=ks.length - i∧(∀ (j:Nat) (k:Fm),j < i→ks[j]? = some k→k.formed (tkW w))∧π=⟨1,[(0,.cells [.lit (.int .u8 (o:Nat)),.lit (.string nm),.sz (fL ks) ks.length] 27 3 true false [])]⟩) ?_ ks.length _ _ ⟨0,rfl,by omega,rfl,fun j k hj=>by omega,rfl⟩
   rintro m t π ⟨i,rfl,hi,rfl,hal,rfl⟩
   by_cases hlt:(i:Int) < (ks.length:Nat)
   ·obtain ⟨k,hk⟩:∃ k,ks[i]? = some k:=⟨ks[i]'(by omega),List.getElem?_eq_getElem (by omega)⟩
    have h1:=size_kid hk
    have hcut:=fL_cut hk
    have hrec:=ih k (by omega) (oks_get hks hk) (by omega)
    have w1:IntKind.i64.wrap (((i:Nat):Int) + 1)=((i + 1:Nat):Int):=by rw [wrap64 (by omega) (by omega)];omega
    by_cases hkf:k.formed (tkW w)
    ·rw [yes_t hkf] at hrec
     have hal2:∀ (j:Nat) (k:Fm),j < i + 1→ks[j]? = some k→k.formed (tkW w):=by
      intro j k2 hj hk2
      by_cases hji:j=i
      ·subst hji;rw [hk] at hk2;cases hk2;exact hkf
      ·exact hal j k2 (by omega) hk2
     clear hkf
     obtain ⟨o',nm',ks'⟩:=k
     simp only [fP,fC] at hrec hcut
     repeat (refine PRun.wpn rfl ?_;simp only [wp,wo_nil,wo_p,wo_r,wo_call,onO_s,pv_t,put_some,bi_lss,pevP,pevR,getP,setP,evsP,look,PW.cs?,nthP,Option.map_some,Option.bind_some,Nat.zero_le,Int.natCast_nonneg,Int.toNat_natCast,and_self,true_and,↓reduceIte,Nat.zero_add,ltB_t hlt,hlt,hcut])
     refine .refl (PFun.to (hrec) rfl (POps.wp ?_))
     simp only [wo_nil,wo_p,onO_s,pv_t,put_some,pevP,getP,setP]
     repeat (refine PRun.wpn rfl ?_;simp only [wp,wo_nil,wo_p,onO_s,pv_t,pv_int,put_some,bi_add,pevP,getP,setP,Option.map_some,↓reduceIte,Bool.false_eq_true,Bool.not_true,w1])
     refine Gh.mask mkPuD5 ?_
     exact ⟨ks.length - (i + 1),by omega,i + 1,rfl,by omega,rfl,hal2,rfl⟩
    ·rw [yes_f hkf] at hrec
     rw [yes_f (p:=formeds (tkW w) ks) (fun h=>hkf (formeds_iff.1 h i k hk))]
     clear hkf
     obtain ⟨o',nm',ks'⟩:=k
     simp only [fP,fC] at hrec hcut
     repeat (refine PRun.wpn rfl ?_;simp only [wp,wo_nil,wo_p,wo_r,wo_call,onO_s,pv_t,put_some,bi_lss,pevP,pevR,getP,setP,evsP,look,PW.cs?,nthP,Option.map_some,Option.bind_some,Nat.zero_le,Int.natCast_nonneg,Int.toNat_natCast,and_self,true_and,↓reduceIte,Nat.zero_add,ltB_t hlt,hlt,hcut])
     refine .refl (PFun.to (hrec) rfl (POps.wp ?_))
     simp only [wo_nil,wo_p,onO_s,pv_t,put_some,pevP,getP,setP]
     repeat (refine PRun.wpn rfl ?_;simp only [wp,wo_nil,wo_p,onO_s,pv_t,pv_bool,put_some,pevP,getP,setP,or_true,true_and,↓reduceIte,reduceCtorEq,Bool.not_false])
     exact .refl ⟨_,rfl,.refl _⟩
   ·have hil:i=ks.length:=by omega
    rw [yes_t (p:=formeds (tkW w) ks) (formeds_iff.2 fun j k hk=>hal j k (by have:=(List.getElem?_eq_some_iff.1 hk).1;omega) hk)]
    repeat (refine PRun.wpn rfl ?_;simp only [wp,wo_nil,wo_p,onO_s,pv_t,pv_bool,put_some,bi_lss,pevP,getP,setP,Option.map_some,or_true,true_and,↓reduceIte,reduceCtorEq,Bool.false_eq_true,ltB_f hlt])
    exact .refl ⟨_,rfl,.refl _⟩
end
end Go.Proofs.YtnpoloachkcadaaGreatDoor.Ai
namespace Go.Proofs.YtnpoloachkcadaaGreatDoor.Ai
set_option linter.unusedSimpArgs false
open Go
set_option linter.unusedVariables false
set_option linter.unusedSectionVars false
set_option maxRecDepth 10000
open Classical in
noncomputable def posN (s:ByteArray):List ByteArray→Nat
 | []=>0
 | x::l=>if s=x then 1 else if posN s l=0 then 0 else posN s l + 1
def mP:Nat→List ByteArray→List (PV × PV × Nat)
 | _,[]=>[]
 | i,s::ns=>(.lit (.string s),.lit (.int .i64 ((i + 1:Nat):Int)),i)::mP (i + 1) ns
theorem posN_le (s:ByteArray):∀ ns:List ByteArray,posN s ns≤ns.length
 | []=>by simp [posN]
 | x::ns=>by
  have:=posN_le s ns
  unfold posN
  split
  ·simp
  ·split <;> simp <;> omega
theorem posN_zero {s:ByteArray}:∀ {ns:List ByteArray},posN s ns=0↔s∉ns
 | []=>by simp [posN]
 | x::ns=>by
  have:=@posN_zero s ns
  unfold posN
  split
  ·rename_i h;simp [h]
  ·rename_i h
   split
   ·rename_i h0;simp [h,this.1 h0]
   ·rename_i h0;rw [this] at h0;simp [h];simpa using h0
theorem sL_drop (ns:List ByteArray) (i:Nat):(sL ns).drop i=sL (ns.drop i):=by simp [sL,List.map_drop]
theorem sL_at {ns:List ByteArray} {i:Nat} {s:ByteArray} (h:ns[i]? = some s):(sL ns).drop i = .lit (.string s)::sL (ns.drop (i + 1)):=by
 obtain ⟨h1,h2⟩:=List.getElem?_eq_some_iff.1 h
 rw [sL_drop,List.drop_eq_getElem_cons h1,h2]
 rfl
noncomputable def renG (from_ to_:List ByteArray):Fm→Fm
 | .mk o n ks=>.mk o (if posN n from_=0 then n else to_.getD (posN n from_ - 1) n) ks
def placeH (ns:List ByteArray):List (Nat × PObj):=[(1,.cells [.map 0] 88 1 true false []),(0,.map (mP 0 ns) ns.length)]
section
variable {C:Ctx} (hm:C.P.follows .mixedOrders=true) (hC:TabOK C.P C.ng C.ts Tryz.tab)
include hm hC
end
end Go.Proofs.YtnpoloachkcadaaGreatDoor.Ai
namespace Go.Proofs.YtnpoloachkcadaaGreatDoor.Ai
set_option linter.unusedSimpArgs false
open Go
set_option linter.unusedVariables false
set_option linter.unusedSectionVars false
set_option maxRecDepth 10000
set_option maxHeartbeats 2000000
noncomputable def plZ (s:ByteArray) (l:List ByteArray):Int:=(posN s l:Nat) - 1
theorem posN_app_no {s:ByteArray}:∀ {a:List ByteArray},s∉a→∀ b,posN s (a++b)=if posN s b=0 then 0 else a.length + posN s b
 | [],_,b=>by
  simp only [SW]
  split
  ·rename_i h;exact h
  ·rfl
 | x::a,h,b=>by
  have h1:¬ s=x:=fun e=>h (by rw [e];exact List.mem_cons_self)
  have h2:s∉a:=fun e=>h (List.mem_cons_of_mem _ e)
  simp only [SW,posN,if_neg h1,posN_app_no h2 b]
  by_cases h3:posN s b=0
  ·simp only [h3,if_true]
  ·rw [if_neg h3,if_neg h3,if_neg (by omega)];omega
noncomputable def plBy (fr:List ByteArray) (by_:List Fm) (n:ByteArray):Option Fm:=if posN n fr=0 then none else by_[posN n fr - 1]?
section
variable {C:Ctx} (hm:C.P.follows .mixedOrders=true) (hC:TabOK C.P C.ng C.ts Tryz.tab)
include hm hC
theorem place_ok (l:List ByteArray) (s:ByteArray) (hl:l.length < 2 ^ 60):PFun C 104 [.sz (sL l) l.length,.lit (.string s)] (.lit (.int .i64 (plZ s l))):=by
 refine PFun.body hm hC (show Tryz.tab.get 104=some Tryz.c104 from rfl) rfl ?_
 simp only [SW,Tryz.c104,startP,Nat.reduceAdd,Nat.reduceSub,List.replicate]
 repeat (refine PRun.wpn rfl ?_;simp only [SW,reduceCtorEq])
 refine PRun.gh (Gh.mask (true::true::false::false::false::true::false::false::false::false::false::false::false::false::false::false::false::false::false::[]) ?_)
 simp only [↓reduceIte,Bool.false_eq_true,maskP]
 refine PRun.loopG (fun m t π=>∃ i:Nat,t=(.sz (sL l) l.length::.lit (.string s)::.junk::.junk::.junk::.lit (.int .i64 (i:Nat))::.junk::.junk::.junk::.junk::.junk::.junk::.junk::.junk::.junk::.junk::.junk::.junk::.junk::[])∧i≤l.length∧m=l.length - i∧π=⟨0,[]⟩∧s∉l.take i) ?_ l.length _ _ ⟨0,rfl,by omega,rfl,rfl,by simp⟩
 rintro m t π ⟨i,rfl,hi,rfl,rfl,hno⟩
 by_cases hlt:(i:Int) < (l.length:Nat)
 ·obtain ⟨x,hx⟩:∃ x,l[i]? = some x:=⟨l[i]'(by omega),List.getElem?_eq_getElem (by omega)⟩
  have hcut:=sL_at hx
  have w1:IntKind.i64.wrap (((i:Nat):Int) + 1)=((i + 1:Nat):Int):=by rw [wrap64 (by omega) (by omega)];omega
  by_cases he:x=s
  ·have hp:plZ s l=((i:Nat):Int):=by
    have h2:l=l.take i++(x::l.drop (i + 1)):=by
     obtain ⟨hi',rfl⟩:=List.getElem?_eq_some_iff.1 hx
     rw [← List.drop_eq_getElem_cons hi',List.take_append_drop]
    unfold plZ
    rw [h2,posN_app_no hno]
    simp only [posN,if_pos he.symm,Nat.one_ne_zero,if_false,List.length_take]
    omega
   rw [hp]
   repeat (refine PRun.wpn rfl ?_;simp only [SW,↓reduceIte,reduceCtorEq,ltB_t hlt,hlt,hcut,eqS_t he])
   exact .refl ⟨_,rfl,.refl _⟩
  ·repeat (refine PRun.wpn rfl ?_;simp only [SW,↓reduceIte,ltB_t hlt,hlt,hcut,eqS_f he,w1])
   refine Gh.mask (true::true::false::false::false::true::false::false::false::false::false::false::false::false::false::false::false::false::false::[]) ?_
   refine ⟨l.length - (i + 1),by omega,i + 1,rfl,by omega,rfl,rfl,?_⟩
   rw [List.take_add_one,hx]
   simp only [Option.toList_some,List.mem_append,List.mem_singleton,not_or]
   exact ⟨hno,fun e=>he e.symm⟩
 ·have hil:i=l.length:=by omega
  rw [hil,List.take_length] at hno
  have hp:plZ s l = -1:=by unfold plZ;rw [posN_zero.2 hno];rfl
  rw [hp]
  repeat (refine PRun.wpn rfl ?_;simp only [SW,↓reduceIte,reduceCtorEq,ltB_f hlt])
  exact .refl ⟨_,rfl,.refl _⟩
theorem rcopy_ok:∀ (n:Nat) (f:Fm),f.size≤n→n < 2 ^ 38→PFun C 123 [fP f] (fP f):=by
 intro n
 induction n with
 | zero=>intro f h;have:=f.size_pos;omega
 | succ n ih=>
  intro f hf hn
  obtain ⟨o,nm,ks⟩:=f
  simp only [Fm.size] at hf
  have hlen:=len_sizes ks
  refine PFun.body hm hC (show Tryz.tab.get 123=some Tryz.c123 from rfl) rfl ?_
  simp only [SW,Tryz.c123,startP,Nat.reduceAdd,Nat.reduceSub,List.replicate,fP,fC]
  repeat (refine PRun.wpn rfl ?_;simp only [SW,↓reduceIte,reduceCtorEq,Nat.reduceAdd])
  refine PRun.gh (Gh.mask mkPuD6 ?_)
  simp only [mkPuD6,↓reduceIte,Bool.false_eq_true,maskP]
  refine PRun.loopG (fun m t π=>∃ i:Nat,t=(.junk::.ptr 0 0::.ptr 1 0::.ptr 2 0::.lit (.int .i64 (i:Nat))::.junk::.junk::.junk::.junk::.junk::.junk::.junk::.junk::.junk::.junk::.junk::.junk::.junk::.junk::.junk::.junk::.junk::.junk::.junk::.junk::.junk::.junk::.junk::.junk::[])∧i≤ks.length∧m=ks.length - i∧((i=0∧π=⟨3,[(2,.cells [.lit (.int .u8 (o:Nat)),.lit (.string nm),.lit (.slice none 0 0)] 27 3 true false []),(1,.cells [.lit (.int .u8 0),.lit (.string ⟨#[]⟩),.lit (.slice none 0 0)] 27 3 true false []),(0,.cells [.lit (.int .u8 (o:Nat)),.lit (.string nm),.sz (fL ks) ks.length] 27 3 true false [])]⟩)∨
   (0 < i∧π=⟨4,[(3,.cells (fL (ks.take i)) 27 3 false false []),(2,.cells [.lit (.int .u8 (o:Nat)),.lit (.string nm),.loc 3 0 i i] 27 3 true false []),(1,.cells [.lit (.int .u8 0),.lit (.string ⟨#[]⟩),.lit (.slice none 0 0)] 27 3 true false []),(0,.cells [.lit (.int .u8 (o:Nat)),.lit (.string nm),.sz (fL ks) ks.length] 27 3 true false [])]⟩))) ?_ ks.length _ _ ⟨0,rfl,by omega,rfl,.inl ⟨rfl,rfl⟩⟩
  rintro m t π ⟨i,rfl,hi,rfl,hπ⟩
  by_cases hlt:(i:Int) < (ks.length:Nat)
  ·obtain ⟨k,hk⟩:∃ k,ks[i]? = some k:=⟨ks[i]'(by omega),List.getElem?_eq_getElem (by omega)⟩
   have h1:=size_kid hk
   have hcut:=fL_cut hk
   have hrec:=ih k (by omega) (by omega)
   have etake:fL (ks.take (i + 1))=fL (ks.take i)++fC k:=by rw [List.take_add_one,hk,fL_app];simp [fL]
   have w1:IntKind.i64.wrap (((i:Nat):Int) + 1)=((i + 1:Nat):Int):=by rw [wrap64 (by omega) (by omega)];omega
   obtain ⟨o',nm',ks'⟩:=k
   simp only [fP,fC] at hrec hcut etake
   rcases hπ with ⟨rfl,rfl⟩ | ⟨hi0,rfl⟩
   ·simp only [nc0,Nat.zero_mul,List.drop_zero] at hlt hcut
    repeat (refine PRun.wpn rfl ?_;simp only [SW,↓reduceIte,reduceCtorEq,ltB_t hlt])
    refine PDraw.stage (Nat.zero_le _) rfl ?_
    try dsimp only
    simp only [SW,↓reduceIte,reduceCtorEq,Nat.reduceAdd,Nat.reduceMul,hlt,hcut]
    refine PDE.pure hrec rfl ?_
    refine PDraw.stage (Nat.zero_le _) rfl ?_
    try dsimp only
    simp only [SW,↓reduceIte,Nat.reduceAdd]
    refine PDE.ev (Nat.zero_le _) ?_
    simp only [SW,↓reduceIte,Nat.reduceAdd,Nat.reduceMul,Nat.reduceLeDiff,Nat.reduceLT]
    refine PDraw.stage (Nat.zero_le _) rfl ?_
    try dsimp only
    simp only [SW]
    refine PDE.ev (Nat.zero_le _) ?_
    simp only [SW,↓reduceIte,Nat.reduceEqDiff]
    refine PDraw.last (Nat.zero_le _) rfl ?_
    try dsimp only
    simp only [wx_nil]
    simp only [nc0] at w1
    repeat (refine PRun.wpn rfl ?_;simp only [SW,w1])
    refine Gh.mr mkPuD6 [(0,0),(1,1),(2,2),(4,3)] 4 rfl ?_
    refine ⟨ks.length - 1,by omega,1,rfl,by omega,rfl,.inr ⟨by omega,?_⟩⟩
    simp only [SW,etake,fL,↓reduceIte,reduceCtorEq,Nat.reduceEqDiff]
   ·have q1:¬ i + 1≤i:=by omega
    have q2:¬ 140737488355328 < (2 * (i + 1) + 768) * 48:=by omega
    have q3:(fL (ks.take i)).length=i * 3:=by rw [fL_len,List.length_take,Nat.min_eq_left hi]
    have q4:=cut_all q3
    have q5:i ≠ 0:=by omega
    repeat (refine PRun.wpn rfl ?_;simp only [SW,↓reduceIte,reduceCtorEq,ltB_t hlt])
    refine PDraw.stage (Nat.zero_le _) rfl ?_
    try dsimp only
    simp only [SW,↓reduceIte,reduceCtorEq,Nat.reduceAdd,Nat.reduceEqDiff,hlt,hcut]
    refine PDE.pure hrec rfl ?_
    refine PDraw.stage (Nat.zero_le _) rfl ?_
    try dsimp only
    simp only [SW,↓reduceIte,Nat.reduceAdd]
    refine PDE.ev (Nat.zero_le _) ?_
    simp only [SW,↓reduceIte,Nat.reduceAdd,Nat.reduceMul,Nat.reduceEqDiff,q1,q2,q3,q4,bne_self_eq_false]
    refine PDraw.stage (Nat.zero_le _) rfl ?_
    try dsimp only
    simp only [SW]
    refine PDE.ev (Nat.zero_le _) ?_
    simp only [SW,↓reduceIte,Nat.reduceEqDiff]
    refine PDraw.last (Nat.zero_le _) rfl ?_
    try dsimp only
    simp only [wx_nil]
    repeat (refine PRun.wpn rfl ?_;simp only [SW,w1])
    refine Gh.mr mkPuD6 [(0,0),(1,1),(2,2),(5,3)] 4 rfl ?_
    refine ⟨ks.length - (i + 1),by omega,i + 1,rfl,by omega,rfl,.inr ⟨by omega,?_⟩⟩
    simp only [SW,← etake,renL_fL,↓reduceIte,reduceCtorEq,Nat.reduceEqDiff]
  ·have hil:i=ks.length:=by omega
   subst hil
   rcases hπ with ⟨h0,rfl⟩ | ⟨hi0,rfl⟩
   ·have hk0:ks=[]:=List.length_eq_zero_iff.1 h0
    subst hk0
    repeat (refine PRun.wpn rfl ?_;simp only [SW,↓reduceIte,reduceCtorEq,Nat.reduceAdd,Nat.reduceEqDiff])
    refine .refl ⟨_,rfl,?_⟩
    exact .agg (.cons (.refl _) (.cons (.refl _) (.cons .nil_sz .nil)))
   ·rw [List.take_length]
    repeat (refine PRun.wpn rfl ?_;simp only [SW,↓reduceIte,reduceCtorEq,Nat.reduceAdd,Nat.reduceEqDiff,ltB_f hlt])
    refine Gh.frz 3 rfl (pureL_fL ks) rfl ?_
    simp only [SW,↓reduceIte,reduceCtorEq,Nat.reduceEqDiff]
    refine .refl ⟨_,rfl,?_⟩
    exact .agg (.cons (.refl _) (.cons (.refl _) (.cons .sl_sz .nil)))
end
end Go.Proofs.YtnpoloachkcadaaGreatDoor.Ai
namespace Go.Proofs.YtnpoloachkcadaaGreatDoor.Ai
set_option linter.unusedSimpArgs false
open Go
set_option linter.unusedVariables false
set_option linter.unusedSectionVars false
set_option maxRecDepth 10000
set_option maxHeartbeats 2000000
section
variable {C:Ctx} (hm:C.P.follows .mixedOrders=true) (hC:TabOK C.P C.ng C.ts Tryz.tab)
include hm hC
theorem rput_ok (fr:List ByteArray) (by_:List Fm) (hl:fr.length=by_.length) (hz:fr.length < 2 ^ 38) (hbz:∀ (i:Nat) (k:Fm),by_[i]? = some k→k.size < 2 ^ 38):∀ (n:Nat) (f:Fm),f.size≤n→n < 2 ^ 38→PFun C 97 [fP f,.sz (sL fr) fr.length,.sz (fL by_) by_.length] (fP (f.rput (plBy fr by_))):=by
 generalize hpl:plBy fr by_=pl
 intro n
 induction n with
 | zero=>intro f h;have:=f.size_pos;omega
 | succ n ih=>
  intro f hf hn
  obtain ⟨o,nm,ks⟩:=f
  simp only [Fm.size] at hf
  have hlen:=len_sizes ks
  have hpc:=place_ok hm hC fr nm (by omega)
  have hple:=posN_le nm fr
  by_cases h3:((o:Nat):Int)=3
  ·by_cases h0:posN nm fr=0
   ·have e:(Fm.mk o nm ks).rput pl = .mk o nm (rputs pl ks):=by
     have:pl nm=none:=by rw [← hpl];unfold plBy;rw [if_pos h0]
     simp only [Fm.rput,this]
     split <;> rfl
    rw [e]
    have hz0:plZ nm fr = -1:=by unfold plZ;rw [h0];rfl
    rw [hz0] at hpc
    refine PFun.body hm hC (show Tryz.tab.get 97=some Tryz.c97 from rfl) rfl ?_
    simp only [SW,Tryz.c97,startP,Nat.reduceAdd,Nat.reduceSub,List.replicate,fP,fC]
    repeat (refine PRun.wpn rfl ?_;simp only [SW,↓reduceIte,reduceCtorEq,Nat.reduceAdd])
    refine .refl (PFun.to (hpc) rfl (POps.wp ?_))
    simp only [SW]
    repeat (refine PRun.wpn rfl ?_;simp only [SW,↓reduceIte,reduceCtorEq,Nat.reduceAdd,eqB_t h3,leB_f (show ¬ (0:Int)≤-1 by omega)])
    refine PRun.gh (Gh.mask mkPuD7 ?_)
    simp only [mkPuD7,↓reduceIte,Bool.false_eq_true,maskP]
    refine PRun.loopG (fun m t π=>∃ i:Nat,t=(.junk::.sz (sL fr) fr.length::.sz (fL by_) by_.length::.ptr 0 0::.junk::.junk::.ptr 1 0::.junk::.ptr 2 0::.lit (.int .i64 (i:Nat))::.junk::.junk::.junk::.junk::.junk::.junk::.junk::.junk::.junk::.junk::.junk::.junk::.junk::.junk::.junk::.junk::.junk::.junk::.junk::.junk::.junk::.junk::.junk::.junk::.junk::.junk::.junk::.junk::.junk::.junk::.junk::.junk::.junk::.junk::.junk::.junk::.junk::.junk::.junk::.junk::.junk::.junk::[])∧i≤ks.length∧m=ks.length - i∧((i=0∧π=⟨3,[(2,.cells [.lit (.int .u8 (o:Nat)),.lit (.string nm),.lit (.slice none 0 0)] 27 3 true false []),(1,.cells [.lit (.int .u8 0),.lit (.string ⟨#[]⟩),.lit (.slice none 0 0)] 27 3 true false []),(0,.cells [.lit (.int .u8 (o:Nat)),.lit (.string nm),.sz (fL ks) ks.length] 27 3 true false [])]⟩)∨
     (0 < i∧π=⟨4,[(3,.cells (fL (rputs pl (ks.take i))) 27 3 false false []),(2,.cells [.lit (.int .u8 (o:Nat)),.lit (.string nm),.loc 3 0 i i] 27 3 true false []),(1,.cells [.lit (.int .u8 0),.lit (.string ⟨#[]⟩),.lit (.slice none 0 0)] 27 3 true false []),(0,.cells [.lit (.int .u8 (o:Nat)),.lit (.string nm),.sz (fL ks) ks.length] 27 3 true false [])]⟩))) ?_ ks.length _ _ ⟨0,rfl,by omega,rfl,.inl ⟨rfl,rfl⟩⟩
    rintro m t π ⟨i,rfl,hi,rfl,hπ⟩
    by_cases hlt:(i:Int) < (ks.length:Nat)
    ·obtain ⟨k,hk⟩:∃ k,ks[i]? = some k:=⟨ks[i]'(by omega),List.getElem?_eq_getElem (by omega)⟩
     have h1:=size_kid hk
     have hcut:=fL_cut hk
     have hrec:=ih k (by omega) (by omega)
     have etake:fL (rputs pl (ks.take (i + 1)))=fL (rputs pl (ks.take i))++fC (k.rput pl):=by rw [List.take_add_one,hk,rputs_app,fL_app];simp [fL,rputs]
     generalize k.rput pl=kr at hrec etake
     obtain ⟨ro,rn,rk⟩:=kr
     have w1:IntKind.i64.wrap (((i:Nat):Int) + 1)=((i + 1:Nat):Int):=by rw [wrap64 (by omega) (by omega)];omega
     obtain ⟨o',nm',ks'⟩:=k
     simp only [fP,fC] at hrec hcut etake
     rcases hπ with ⟨rfl,rfl⟩ | ⟨hi0,rfl⟩
     ·simp only [nc0,Nat.zero_mul,List.drop_zero] at hlt hcut
      repeat (refine PRun.wpn rfl ?_;simp only [SW,↓reduceIte,reduceCtorEq,ltB_t hlt])
      refine PDraw.stage (Nat.zero_le _) rfl ?_
      try dsimp only
      simp only [SW,↓reduceIte,reduceCtorEq,Nat.reduceAdd,Nat.reduceMul,hlt,hcut]
      refine PDE.pure hrec rfl ?_
      refine PDraw.stage (Nat.zero_le _) rfl ?_
      try dsimp only
      simp only [SW,↓reduceIte,Nat.reduceAdd]
      refine PDE.ev (Nat.zero_le _) ?_
      simp only [SW,↓reduceIte,Nat.reduceAdd,Nat.reduceMul,Nat.reduceLeDiff,Nat.reduceLT]
      refine PDraw.stage (Nat.zero_le _) rfl ?_
      try dsimp only
      simp only [SW]
      refine PDE.ev (Nat.zero_le _) ?_
      simp only [SW,↓reduceIte,Nat.reduceEqDiff]
      refine PDraw.last (Nat.zero_le _) rfl ?_
      try dsimp only
      simp only [wx_nil]
      simp only [nc0] at w1
      repeat (refine PRun.wpn rfl ?_;simp only [SW,w1])
      refine Gh.mr mkPuD7 [(0,0),(1,1),(2,2),(4,3)] 4 rfl ?_
      refine ⟨ks.length - 1,by omega,1,rfl,by omega,rfl,.inr ⟨by omega,?_⟩⟩
      simp only [SW,etake,rputs,fL,↓reduceIte,reduceCtorEq,Nat.reduceEqDiff]
     ·have q1:¬ i + 1≤i:=by omega
      have q2:¬ 140737488355328 < (2 * (i + 1) + 768) * 48:=by omega
      have q3:(fL (rputs pl (ks.take i))).length=i * 3:=by rw [fL_len,rputs_len,List.length_take,Nat.min_eq_left hi]
      have q4:=cut_all q3
      have q5:i ≠ 0:=by omega
      repeat (refine PRun.wpn rfl ?_;simp only [SW,↓reduceIte,reduceCtorEq,ltB_t hlt])
      refine PDraw.stage (Nat.zero_le _) rfl ?_
      try dsimp only
      simp only [SW,↓reduceIte,reduceCtorEq,Nat.reduceAdd,Nat.reduceEqDiff,hlt,hcut]
      refine PDE.pure hrec rfl ?_
      refine PDraw.stage (Nat.zero_le _) rfl ?_
      try dsimp only
      simp only [SW,↓reduceIte,Nat.reduceAdd]
      refine PDE.ev (Nat.zero_le _) ?_
      simp only [SW,↓reduceIte,Nat.reduceAdd,Nat.reduceMul,Nat.reduceEqDiff,q1,q2,q3,q4,bne_self_eq_false]
      refine PDraw.stage (Nat.zero_le _) rfl ?_
      try dsimp only
      simp only [SW]
      refine PDE.ev (Nat.zero_le _) ?_
      simp only [SW,↓reduceIte,Nat.reduceEqDiff]
      refine PDraw.last (Nat.zero_le _) rfl ?_
      try dsimp only
      simp only [wx_nil]
      repeat (refine PRun.wpn rfl ?_;simp only [SW,w1])
      refine Gh.mr mkPuD7 [(0,0),(1,1),(2,2),(5,3)] 4 rfl ?_
      refine ⟨ks.length - (i + 1),by omega,i + 1,rfl,by omega,rfl,.inr ⟨by omega,?_⟩⟩
      simp only [SW,← etake,renL_fL,↓reduceIte,reduceCtorEq,Nat.reduceEqDiff]
    ·have hil:i=ks.length:=by omega
     subst hil
     rcases hπ with ⟨h0,rfl⟩ | ⟨hi0,rfl⟩
     ·have hk0:ks=[]:=List.length_eq_zero_iff.1 h0
      subst hk0
      repeat (refine PRun.wpn rfl ?_;simp only [SW,↓reduceIte,reduceCtorEq,Nat.reduceAdd,Nat.reduceEqDiff])
      refine .refl ⟨_,rfl,?_⟩
      exact .agg (.cons (.refl _) (.cons (.refl _) (.cons .nil_sz .nil)))
     ·rw [List.take_length]
      repeat (refine PRun.wpn rfl ?_;simp only [SW,↓reduceIte,reduceCtorEq,Nat.reduceAdd,Nat.reduceEqDiff,ltB_f hlt])
      refine Gh.frz 3 rfl (pureL_fL (rputs pl ks)) rfl ?_
      simp only [SW,↓reduceIte,reduceCtorEq,Nat.reduceEqDiff]
      refine .refl ⟨_,rfl,?_⟩
      rw [← rputs_len pl ks]
      exact .agg (.cons (.refl _) (.cons (.refl _) (.cons .sl_sz .nil)))
   ·obtain ⟨b,hb⟩:∃ b,by_[posN nm fr - 1]? = some b:=⟨by_[posN nm fr - 1]'(by omega),List.getElem?_eq_getElem (by omega)⟩
    have e:(Fm.mk o nm ks).rput pl=b:=by
     have:pl nm=some b:=by rw [← hpl];unfold plBy;rw [if_neg h0];exact hb
     simp only [Fm.rput,this]
     rw [if_pos (by omega)]
    rw [e]
    have hz0:plZ nm fr=((posN nm fr - 1:Nat):Int):=by unfold plZ;omega
    rw [hz0] at hpc
    have hcp:=rcopy_ok hm hC b.size b (Nat.le_refl _) (hbz _ _ hb)
    have hcut:=fL_cut hb
    have hlt:((posN nm fr - 1:Nat):Int) < (by_.length:Nat):=by omega
    generalize posN nm fr - 1=q at *
    obtain ⟨bo,bn,bk⟩:=b
    simp only [fP,fC] at hcp hcut
    refine PFun.body hm hC (show Tryz.tab.get 97=some Tryz.c97 from rfl) rfl ?_
    simp only [SW,Tryz.c97,startP,Nat.reduceAdd,Nat.reduceSub,List.replicate,fP,fC]
    repeat (refine PRun.wpn rfl ?_;simp only [SW,↓reduceIte,reduceCtorEq,Nat.reduceAdd])
    refine .refl (PFun.to (hpc) rfl (POps.wp ?_))
    simp only [SW]
    repeat (refine PRun.wpn rfl ?_;simp only [SW,↓reduceIte,reduceCtorEq,eqB_t h3,leB_t (show (0:Int)≤((q:Nat):Int) by omega),hlt,hcut])
    refine .refl (PFun.to (hcp) rfl (POps.wp ?_))
    simp only [SW,↓reduceIte,Nat.reduceAdd]
    repeat (refine PRun.wpn rfl ?_;simp only [wp,or_true,true_and,reduceCtorEq])
    exact .refl ⟨_,rfl,.refl _⟩
  ·have e:(Fm.mk o nm ks).rput pl = .mk o nm (rputs pl ks):=by
    simp only [Fm.rput]
    rw [if_neg (by omega)]
   rw [e]
   generalize plZ nm fr=pz at hpc
   refine PFun.body hm hC (show Tryz.tab.get 97=some Tryz.c97 from rfl) rfl ?_
   simp only [SW,Tryz.c97,startP,Nat.reduceAdd,Nat.reduceSub,List.replicate,fP,fC]
   repeat (refine PRun.wpn rfl ?_;simp only [SW,↓reduceIte,reduceCtorEq,Nat.reduceAdd])
   refine .refl (PFun.to (hpc) rfl (POps.wp ?_))
   simp only [SW]
   repeat (refine PRun.wpn rfl ?_;simp only [SW,↓reduceIte,reduceCtorEq,Nat.reduceAdd,eqB_f h3])
   refine PRun.gh (Gh.mask mkPuD7 ?_)
   simp only [mkPuD7,↓reduceIte,Bool.false_eq_true,maskP]
   refine PRun.loopG (fun m t π=>∃ i:Nat,t=(.junk::.sz (sL fr) fr.length::.sz (fL by_) by_.length::.ptr 0 0::.junk::.junk::.ptr 1 0::.junk::.ptr 2 0::.lit (.int .i64 (i:Nat))::.junk::.junk::.junk::.junk::.junk::.junk::.junk::.junk::.junk::.junk::.junk::.junk::.junk::.junk::.junk::.junk::.junk::.junk::.junk::.junk::.junk::.junk::.junk::.junk::.junk::.junk::.junk::.junk::.junk::.junk::.junk::.junk::.junk::.junk::.junk::.junk::.junk::.junk::.junk::.junk::.junk::.junk::[])∧i≤ks.length∧m=ks.length - i∧((i=0∧π=⟨3,[(2,.cells [.lit (.int .u8 (o:Nat)),.lit (.string nm),.lit (.slice none 0 0)] 27 3 true false []),(1,.cells [.lit (.int .u8 0),.lit (.string ⟨#[]⟩),.lit (.slice none 0 0)] 27 3 true false []),(0,.cells [.lit (.int .u8 (o:Nat)),.lit (.string nm),.sz (fL ks) ks.length] 27 3 true false [])]⟩)∨
    (0 < i∧π=⟨4,[(3,.cells (fL (rputs pl (ks.take i))) 27 3 false false []),(2,.cells [.lit (.int .u8 (o:Nat)),.lit (.string nm),.loc 3 0 i i] 27 3 true false []),(1,.cells [.lit (.int .u8 0),.lit (.string ⟨#[]⟩),.lit (.slice none 0 0)] 27 3 true false []),(0,.cells [.lit (.int .u8 (o:Nat)),.lit (.string nm),.sz (fL ks) ks.length] 27 3 true false [])]⟩))) ?_ ks.length _ _ ⟨0,rfl,by omega,rfl,.inl ⟨rfl,rfl⟩⟩
   rintro m t π ⟨i,rfl,hi,rfl,hπ⟩
   by_cases hlt:(i:Int) < (ks.length:Nat)
   ·obtain ⟨k,hk⟩:∃ k,ks[i]? = some k:=⟨ks[i]'(by omega),List.getElem?_eq_getElem (by omega)⟩
    have h1:=size_kid hk
    have hcut:=fL_cut hk
    have hrec:=ih k (by omega) (by omega)
    have etake:fL (rputs pl (ks.take (i + 1)))=fL (rputs pl (ks.take i))++fC (k.rput pl):=by rw [List.take_add_one,hk,rputs_app,fL_app];simp [fL,rputs]
    generalize k.rput pl=kr at hrec etake
    obtain ⟨ro,rn,rk⟩:=kr
    have w1:IntKind.i64.wrap (((i:Nat):Int) + 1)=((i + 1:Nat):Int):=by rw [wrap64 (by omega) (by omega)];omega
    obtain ⟨o',nm',ks'⟩:=k
    simp only [fP,fC] at hrec hcut etake
    rcases hπ with ⟨rfl,rfl⟩ | ⟨hi0,rfl⟩
    ·simp only [nc0,Nat.zero_mul,List.drop_zero] at hlt hcut
     repeat (refine PRun.wpn rfl ?_;simp only [SW,↓reduceIte,reduceCtorEq,ltB_t hlt])
     refine PDraw.stage (Nat.zero_le _) rfl ?_
     try dsimp only
     simp only [SW,↓reduceIte,reduceCtorEq,Nat.reduceAdd,Nat.reduceMul,hlt,hcut]
     refine PDE.pure hrec rfl ?_
     refine PDraw.stage (Nat.zero_le _) rfl ?_
     try dsimp only
     simp only [SW,↓reduceIte,Nat.reduceAdd]
     refine PDE.ev (Nat.zero_le _) ?_
     simp only [SW,↓reduceIte,Nat.reduceAdd,Nat.reduceMul,Nat.reduceLeDiff,Nat.reduceLT]
     refine PDraw.stage (Nat.zero_le _) rfl ?_
     try dsimp only
     simp only [SW]
     refine PDE.ev (Nat.zero_le _) ?_
     simp only [SW,↓reduceIte,Nat.reduceEqDiff]
     refine PDraw.last (Nat.zero_le _) rfl ?_
     try dsimp only
     simp only [wx_nil]
     simp only [nc0] at w1
     repeat (refine PRun.wpn rfl ?_;simp only [SW,w1])
     refine Gh.mr mkPuD7 [(0,0),(1,1),(2,2),(4,3)] 4 rfl ?_
     refine ⟨ks.length - 1,by omega,1,rfl,by omega,rfl,.inr ⟨by omega,?_⟩⟩
     simp only [SW,etake,rputs,fL,↓reduceIte,reduceCtorEq,Nat.reduceEqDiff]
    ·have q1:¬ i + 1≤i:=by omega
     have q2:¬ 140737488355328 < (2 * (i + 1) + 768) * 48:=by omega
     have q3:(fL (rputs pl (ks.take i))).length=i * 3:=by rw [fL_len,rputs_len,List.length_take,Nat.min_eq_left hi]
     have q4:=cut_all q3
     have q5:i ≠ 0:=by omega
     repeat (refine PRun.wpn rfl ?_;simp only [SW,↓reduceIte,reduceCtorEq,ltB_t hlt])
     refine PDraw.stage (Nat.zero_le _) rfl ?_
     try dsimp only
     simp only [SW,↓reduceIte,reduceCtorEq,Nat.reduceAdd,Nat.reduceEqDiff,hlt,hcut]
     refine PDE.pure hrec rfl ?_
     refine PDraw.stage (Nat.zero_le _) rfl ?_
     try dsimp only
     simp only [SW,↓reduceIte,Nat.reduceAdd]
     refine PDE.ev (Nat.zero_le _) ?_
     simp only [SW,↓reduceIte,Nat.reduceAdd,Nat.reduceMul,Nat.reduceEqDiff,q1,q2,q3,q4,bne_self_eq_false]
     refine PDraw.stage (Nat.zero_le _) rfl ?_
     try dsimp only
     simp only [SW]
     refine PDE.ev (Nat.zero_le _) ?_
     simp only [SW,↓reduceIte,Nat.reduceEqDiff]
     refine PDraw.last (Nat.zero_le _) rfl ?_
     try dsimp only
     simp only [wx_nil]
     repeat (refine PRun.wpn rfl ?_;simp only [SW,w1])
     refine Gh.mr mkPuD7 [(0,0),(1,1),(2,2),(5,3)] 4 rfl ?_
     refine ⟨ks.length - (i + 1),by omega,i + 1,rfl,by omega,rfl,.inr ⟨by omega,?_⟩⟩
     simp only [SW,← etake,renL_fL,↓reduceIte,reduceCtorEq,Nat.reduceEqDiff]
   ·have hil:i=ks.length:=by omega
    subst hil
    rcases hπ with ⟨h0,rfl⟩ | ⟨hi0,rfl⟩
    ·have hk0:ks=[]:=List.length_eq_zero_iff.1 h0
     subst hk0
     repeat (refine PRun.wpn rfl ?_;simp only [SW,↓reduceIte,reduceCtorEq,Nat.reduceAdd,Nat.reduceEqDiff])
     refine .refl ⟨_,rfl,?_⟩
     exact .agg (.cons (.refl _) (.cons (.refl _) (.cons .nil_sz .nil)))
    ·rw [List.take_length]
     repeat (refine PRun.wpn rfl ?_;simp only [SW,↓reduceIte,reduceCtorEq,Nat.reduceAdd,Nat.reduceEqDiff,ltB_f hlt])
     refine Gh.frz 3 rfl (pureL_fL (rputs pl ks)) rfl ?_
     simp only [SW,↓reduceIte,reduceCtorEq,Nat.reduceEqDiff]
     refine .refl ⟨_,rfl,?_⟩
     rw [← rputs_len pl ks]
     exact .agg (.cons (.refl _) (.cons (.refl _) (.cons .sl_sz .nil)))
end
end Go.Proofs.YtnpoloachkcadaaGreatDoor.Ai
namespace Go.Proofs.YtnpoloachkcadaaGreatDoor.Ai
set_option linter.unusedSimpArgs false
open Go
set_option linter.unusedVariables false
set_option linter.unusedSectionVars false
set_option maxRecDepth 10000
set_option maxHeartbeats 2000000
theorem bytes_ext {a b:ByteArray} (h:a.data.toList=b.data.toList):a=b:=by
 cases a;cases b
 simp only [ByteArray.mk.injEq]
 exact Array.ext' h
def dgS (n:Nat):ByteArray:=⟨⟨Lib.decDigits n⟩⟩
def tenS:ByteArray:=⟨#[48,49,50,51,52,53,54,55,56,57]⟩
theorem ten_sl {d:Nat} (h:d < 10):tenS.extract d (d + 1)=⟨⟨[UInt8.ofNat (48 + d)]⟩⟩:=by
 match d,h with
 | 0,_=>rfl
 | 1,_=>rfl
 | 2,_=>rfl
 | 3,_=>rfl
 | 4,_=>rfl
 | 5,_=>rfl
 | 6,_=>rfl
 | 7,_=>rfl
 | 8,_=>rfl
 | 9,_=>rfl
theorem dgS_len (n:Nat) (h:n < 2 ^ 60):(dgS n).size≤20:=by
 have:(Lib.decDigits n).length≤20:=by rw [Lib.decDigits_length];exact Lib.nDigits_le20 n (by omega)
 show (Lib.decDigits n).toArray.size≤20
 simpa using this
section
variable {C:Ctx} (hm:C.P.follows .mixedOrders=true) (hC:TabOK C.P C.ng C.ts Tryz.tab)
include hm hC
theorem rdig_ok:∀ (n:Nat),n < 2 ^ 60→PFun C 117 [.lit (.int .i64 (n:Nat))] (.lit (.string (dgS n))):=by
 intro n
 induction n using Nat.strongRecOn with
 | _ n ih=>
  intro hn
  have t10:((10:Int) ≠ 0):=by decide
  have hm10:n % 10 < 10:=Nat.mod_lt _ (by decide)
  have e1:Int.tmod ((n:Nat):Int) 10=((n % 10:Nat):Int):=rfl
  have e2:Int.tdiv ((n:Nat):Int) 10=((n / 10:Nat):Int):=rfl
  have e5:IntKind.i64.wrap ((n / 10:Nat):Int)=((n / 10:Nat):Int):=wrap64 (by omega) (by omega)
  have hsl:=ten_sl hm10
  have hone:n < 10→(⟨⟨[UInt8.ofNat (48 + n % 10)]⟩⟩:ByteArray)=dgS n:=fun h=>by
   unfold dgS;rw [Lib.decDigits_one h,Nat.mod_eq_of_lt h]
  have hmore:¬ n < 10→dgS (n / 10)++(⟨⟨[UInt8.ofNat (48 + n % 10)]⟩⟩:ByteArray)=dgS n:=fun h=>by
   unfold dgS
   conv=>rhs;rw [Lib.decDigits,dif_neg h]
   refine bytes_ext ?_
   simp only [ByteArray.data_append,Array.toList_append]
  have hs10:(dgS (n / 10)).size≤20:=dgS_len _ (by omega)
  have hrec:¬ n < 10→_:=fun h=>ih (n / 10) (by omega) (by omega)
  have hlt:n < 10↔((n:Nat):Int) < 10:=by omega
  generalize n / 10=q at *
  generalize n % 10=d at *
  have w1:IntKind.i64.wrap (((d:Nat):Int) + 1)=((d + 1:Nat):Int):=by rw [wrap64 (by omega) (by omega)];omega
  have b1:((d:Nat):Int)≤((d + 1:Nat):Int):=by omega
  have b2:((d + 1:Nat):Int)≤(((⟨#[48,49,50,51,52,53,54,55,56,57]⟩:ByteArray).size:Nat):Int):=by
   show ((d + 1:Nat):Int)≤((10:Nat):Int)
   omega
  simp only [tenS] at hsl
  by_cases h:n < 10
  ·have h':=hlt.1 h
   rw [← hone h]
   refine PFun.body hm hC (show Tryz.tab.get 117=some Tryz.c117 from rfl) rfl ?_
   simp only [SW,Tryz.c117,startP,Nat.reduceAdd,Nat.reduceSub,List.replicate]
   repeat (refine PRun.wpn rfl ?_;simp only [SW,↓reduceIte,reduceCtorEq,bi_rem t10,e1,w1,b1,b2,hsl,ltB_t h'])
   exact .refl ⟨_,rfl,.refl _⟩
  ·have h':¬ ((n:Nat):Int) < 10:=fun e=>h (hlt.2 e)
   have hr:=hrec h
   have hap:=bi_addS (a:=dgS q) (b:=⟨⟨[UInt8.ofNat (48 + d)]⟩⟩) (by show _ + 1 < _;omega)
   rw [hmore h] at hap
   refine PFun.body hm hC (show Tryz.tab.get 117=some Tryz.c117 from rfl) rfl ?_
   simp only [SW,Tryz.c117,startP,Nat.reduceAdd,Nat.reduceSub,List.replicate]
   repeat (refine PRun.wpn rfl ?_;simp only [SW,↓reduceIte,bi_rem t10,bi_quo t10,e1,e2,e5,w1,b1,b2,hsl,ltB_f h'])
   refine .refl (PFun.to (hr) rfl (POps.wp ?_))
   simp only [SW,hap]
   repeat (refine PRun.wpn rfl ?_;simp only [wp,or_true,true_and,reduceCtorEq])
   exact .refl ⟨_,rfl,.refl _⟩
end
end Go.Proofs.YtnpoloachkcadaaGreatDoor.Ai
namespace Go.Proofs.YtnpoloachkcadaaGreatDoor.Ai
set_option linter.unusedSimpArgs false
open Go
set_option linter.unusedVariables false
set_option linter.unusedSectionVars false
set_option maxRecDepth 10000
set_option maxHeartbeats 4000000
def tlC:List (ByteArray × Fm)→List PV
 | []=>[]
 | (p,f)::l=>.lit (.string p)::(fC f++tlC l)
theorem tlC_app:∀ a b:List (ByteArray × Fm),tlC (a++b)=tlC a++tlC b
 | [],b=>rfl
 | (p,f)::a,b=>by simp only [List.cons_append,tlC,tlC_app a b,List.append_assoc]
theorem tlC_len:∀ a:List (ByteArray × Fm),(tlC a).length=a.length * 4
 | []=>rfl
 | (p,f)::a=>by simp only [tlC,List.length_cons,List.length_append,fC_len,tlC_len a];omega
theorem pure_tlC:∀ a:List (ByteArray × Fm),pureL (tlC a)=true
 | []=>rfl
 | (p,f)::a=>by simp only [tlC,pureL,pureP,pureL_append,pureL_fC,pure_tlC a,Bool.and_self]
theorem tlC_drop:∀ (l:List (ByteArray × Fm)) (i:Nat),(tlC l).drop (i * 4)=tlC (l.drop i)
 | l,0=>by simp
 | [],i + 1=>by simp [tlC]
 | (p,f)::l,i + 1=>by
  simp only [tlC,List.drop_succ_cons]
  rw [show (i + 1) * 4=(i * 4 + (fC f).length) + 1 by rw [fC_len];omega,List.drop_succ_cons,Nat.add_comm (i * 4),← List.drop_drop,List.drop_left,tlC_drop l i]
def TlAt (H:List (Nat × PObj)) (nx lid:Nat) (l:List (ByteArray × Fm)):Prop:=l ≠ []→lid < nx∧look H lid=some (.cells (tlC l) 69 4 false false [])
theorem nm_sz (b:Nat) (cs:List PV) (n:Nat):nmP b (.sz cs n)=true:=by simp only [nmP]
theorem nm_ref (b:Nat) (cs:List PV):nmP b (.ref cs)=true:=by simp only [nmP]
noncomputable def subS (pt:ByteArray) (i:Nat):ByteArray:=belowS dgS pt i
def TlPost (nx lid:Nat) (H:List (Nat × PObj)) (l l':List (ByteArray × Fm)) (r:PV) (π':PW):Prop:=
 nx≤π'.next∧∃ lid',r=slotP (lid',l'.length)∧nx≤lid'∧TlAt π'.heap π'.next lid' l'∧∀ id o,id < nx→(l ≠ []→id ≠ lid)→look H id=some o→look π'.heap id=some o
section
variable {C:Ctx} (hm:C.P.follows .mixedOrders=true) (hC:TabOK C.P C.ng C.ts Tryz.tab)
include hm hC
theorem told_ok:∀ (n:Nat) (f:Fm),f.size≤n→n < 2 ^ 36→∀ (pt:ByteArray) (nx:Nat) (H:List (Nat × PObj)) (lid:Nat) (l:List (ByteArray × Fm)),pt.size + 21 * f.size < 2 ^ 50→l.length + f.size < 2 ^ 38→TlAt H nx lid l→PToB C nx 88 [.lit (.string pt),fP f,slotP (lid,l.length)] ⟨nx,H⟩ (TlPost nx lid H l (l++f.visits dgS pt)):=by
 intro n
 induction n with
 | zero=>intro f h;have:=f.size_pos;omega
 | succ n ih=>
  intro f hf hn pt nx H lid l hps hls hl
  obtain ⟨o,nm,ks⟩:=f
  simp only [Fm.size] at hf hps hls
  have hlen:=len_sizes ks
  have bnx:Nat.ble nx nx=true:=Nat.ble_eq_true_of_le (Nat.le_refl _)
  have bn1:Nat.ble nx (nx + 1)=true:=Nat.ble_eq_true_of_le (by omega)
  have bn2:Nat.ble nx (nx + 1 + 1)=true:=Nat.ble_eq_true_of_le (by omega)
  refine PToB.of_body hm hC (show Tryz.tab.get 88=some Tryz.c88 from rfl) ?_
  simp only [SW,Tryz.c88,startP,Nat.reduceAdd,Nat.reduceSub,List.replicate,fP,fC]
  refine PRun.wpn rfl ?_
  simp only [SW]
  refine PRun.seqc (fun t π=>t=(.lit (.string pt)::.junk::slotP (nx + 1 + 1,l.length + 1)::.junk::.ptr nx 0::.junk::.junk::.junk::.junk::.junk::.junk::.junk::.junk::.junk::.junk::.junk::.junk::.junk::.junk::.junk::.junk::.junk::.junk::.junk::.junk::.junk::.junk::.junk::.junk::.junk::.junk::.junk::.junk::.junk::.junk::.junk::.junk::.junk::.junk::[])∧∃ H1,π=⟨nx + 1 + 1 + 1,H1⟩∧look H1 nx=some (.cells [.lit (.int .u8 (o:Nat)),.lit (.string nm),.sz (fL ks) ks.length] 27 3 true false [])∧TlAt H1 (nx + 1 + 1 + 1) (nx + 1 + 1) (l++[(pt,Fm.mk o nm ks)])∧∀ id o,id < nx→(l ≠ []→id ≠ lid)→look H id=some o→look H1 id=some o) ?_ ?_
  ·have hsnoc:tlC (l++[(pt,Fm.mk o nm ks)])=tlC l++[.lit (.string pt),.lit (.int .u8 (o:Nat)),.lit (.string nm),.sz (fL ks) ks.length]:=by rw [tlC_app];rfl
   have hsl:=slotP_loc (p:=(nx + 1 + 1,l.length + 1)) (by show l.length + 1 ≠ 0;omega)
   by_cases hl0:l=[]
   ·subst hl0
    rw [show slotP (lid,([]:List (ByteArray × Fm)).length) = .lit (.slice none 0 0) from rfl]
    repeat (refine PRun.wpn rfl ?_;simp only [SW,↓reduceIte,Nat.reduceAdd,Nat.reduceMul,Nat.reduceLeDiff,Nat.reduceLT,bn2,bne_self_eq_false])
    refine Gh.mask mkPuD8 ?_
    refine ⟨rfl,_,rfl,?_,fun _=>⟨by omega,?_⟩,fun id y h1 _ h3=>?_⟩
    ·rw [look_ne (by omega),look_ne (by omega)];simp only [look,if_true]
    ·simp only [look,if_true];rfl
    ·rw [look_ne (by omega),look_ne (by omega),look_ne (by omega)];exact h3
   ·obtain ⟨h1,h2⟩:=hl hl0
    have hl1:l.length ≠ 0:=fun e=>hl0 (List.length_eq_zero_iff.1 e)
    rw [slotP_loc (p:=(lid,l.length)) hl1]
    have r1:¬ l.length + 1≤l.length:=by omega
    have r2:¬ 140737488355328 < (2 * (l.length + 1) + 768) * 64:=by omega
    have r3:=tlC_len l
    have r4:=cut_all r3
    have r5:¬ lid=nx:=by omega
    have r6:¬ lid=nx + 1:=by omega
    repeat (refine PRun.wpn rfl ?_;simp only [SW,↓reduceIte,Nat.reduceAdd,Nat.reduceMul,bn2,h2,r1,r2,r3,r4,r5,r6,bne_self_eq_false])
    refine Gh.retire (by omega) (Gh.mask mkPuD8 ?_)
    refine ⟨by rw [hsl];rfl,_,rfl,?_,fun _=>⟨by omega,?_⟩,fun id y h4 h5 h6=>?_⟩
    ·rw [look_ne (by omega),dropO_ne (by omega),look_ne (by omega)];simp only [look,if_true]
    ·simp only [look,if_true];rw [hsnoc]
    ·rw [look_ne (by omega),dropO_ne (h5 hl0),look_ne (by omega),look_ne (by omega),look_setO,if_neg (h5 hl0)];exact h6
  ·rintro t π ⟨rfl,H1,rfl,hb1,hT1,hK1⟩
   repeat (refine PRun.wpn rfl ?_;simp only [SW,reduceCtorEq])
   refine PRun.gh (Gh.mask mkPuD9 ?_)
   simp only [mkPuD9,↓reduceIte,Bool.false_eq_true,maskP]
   refine PRun.loopG (fun m t π=>∃ (i nx' lid':Nat) (H':List (Nat × PObj)),t=(.lit (.string pt)::.junk::slotP (lid',l.length + 1 + sizes (ks.take i))::.junk::.ptr nx 0::.junk::.junk::.lit (.int .i64 (i:Nat))::.junk::.junk::.junk::.junk::.junk::.junk::.junk::.junk::.junk::.junk::.junk::.junk::.junk::.junk::.junk::.junk::.junk::.junk::.junk::.junk::.junk::.junk::.junk::.junk::.junk::.junk::.junk::.junk::.junk::.junk::.junk::[])∧i≤ks.length∧m=ks.length - i∧π=⟨nx',H'⟩∧nx + 1 + 1 + 1≤nx'∧nx + 1 + 1≤lid'∧look H' nx=some (.cells [.lit (.int .u8 (o:Nat)),.lit (.string nm),.sz (fL ks) ks.length] 27 3 true false [])∧TlAt H' nx' lid' (l++[(pt,Fm.mk o nm ks)]++visitss dgS pt 0 (ks.take i))∧∀ id o,id < nx→(l ≠ []→id ≠ lid)→look H id=some o→look H' id=some o) ?_ ks.length _ _ ⟨0,_,nx + 1 + 1,H1,rfl,by omega,rfl,rfl,by omega,by omega,hb1,by simpa [visitss] using hT1,hK1⟩
   rintro m t π ⟨i,nx',lid',H',rfl,hi,rfl,rfl,hnx,hld,hb',hT',hK'⟩
   have hvl:(l++[(pt,Fm.mk o nm ks)]++visitss dgS pt 0 (ks.take i)).length=l.length + 1 + sizes (ks.take i):=by
    rw [List.length_append,List.length_append,visitss_len];rfl
   have hszi:=sizes_le ks i
   obtain ⟨hT1',hT2'⟩:=hT' (by simp)
   have hsl:=slotP_loc (p:=(lid',l.length + 1 + sizes (ks.take i))) (by show l.length + 1 + sizes (ks.take i) ≠ 0;omega)
   by_cases hlt:(i:Int) < (ks.length:Nat)
   ·obtain ⟨k,hki⟩:∃ k,ks[i]? = some k:=⟨ks[i]'(by omega),List.getElem?_eq_getElem (by omega)⟩
    have h1:=size_kid hki
    have hcut:=fL_cut hki
    have hd:=rdig_ok hm hC i (by omega)
    have hdl:=dgS_len i (by omega)
    have hst:=sizes_take hki
    have hsz2:=sizes_le ks (i + 1)
    have htk:visitss dgS pt 0 (ks.take (i + 1))=visitss dgS pt 0 (ks.take i)++k.visits dgS (subS pt i):=by
     rw [List.take_add_one,hki,visitss_app,List.length_take,Nat.min_eq_left hi,Nat.zero_add]
     simp [visitss,subS]
    have hps2:(subS pt i).size≤pt.size + 21:=by
     unfold subS belowS
     split
     ·omega
     ·rw [ByteArray.size_append,ByteArray.size_append]
      show pt.size + 1 + _≤_
      omega
    have hrec:=ih k (by omega) (by omega) (subS pt i) nx' H' lid' _ (by omega) (by rw [hvl];omega) hT'
    rw [hvl,hsl] at hrec
    have w1:IntKind.i64.wrap (((i:Nat):Int) + 1)=((i + 1:Nat):Int):=by rw [wrap64 (by omega) (by omega)];omega
    have n0:Nat.blt nx nx'=true:=blt_t (by omega)
    have n1:Nat.blt lid' nx'=true:=blt_t (by omega)
    have hfin:∀ r π',TlPost nx' lid' H' (l++[(pt,Fm.mk o nm ks)]++visitss dgS pt 0 (ks.take i)) (l++[(pt,Fm.mk o nm ks)]++visitss dgS pt 0 (ks.take i)++k.visits dgS (subS pt i)) r π'→True:=fun _ _ _=>trivial
    have hsub:subS pt i=belowS dgS pt i:=rfl
    have hlen2:(l++[(pt,Fm.mk o nm ks)]++visitss dgS pt 0 (ks.take (i + 1))).length=l.length + 1 + sizes (ks.take (i + 1)):=by
     rw [List.length_append,List.length_append,visitss_len];rfl
    obtain ⟨o',nm',ks'⟩:=k
    simp only [fP,fC] at hrec hcut
    rw [hsl]
    by_cases he:pt=⟨#[]⟩
    ·have hsb:subS pt i=dgS i:=by rw [hsub];unfold belowS;rw [if_pos (eqS_t he)]
     rw [hsb] at hrec htk
     have htk':l++[(pt,Fm.mk o nm ks)]++visitss dgS pt 0 (ks.take (i + 1))=l++[(pt,Fm.mk o nm ks)]++visitss dgS pt 0 (ks.take i)++(Fm.mk o' nm' ks').visits dgS (dgS i):=by rw [htk,← List.append_assoc]
     repeat (refine PRun.wpn rfl ?_;simp only [SW,↓reduceIte,hb',ltB_t hlt])
     refine .refl ⟨show nx≤nx' by omega,PFun.to hd rfl (POps.wp ?_)⟩
     simp only [SW]
     repeat (refine PRun.wpn rfl ?_;simp only [SW,↓reduceIte,hb',hlt,hcut,neS_f he])
     refine .refl ⟨show nx≤nx' by omega,PToE.mono (PToB.toE hrec (by simp only [nmL,nm_ptr,nm_agg,nm_junk,nm_loc,nm_sz,nm_ref,n0,n1,nm_lit,Bool.and_self]) (by omega)) ?_⟩
     rintro r ⟨nx2,H2⟩ ⟨g1,lid2,rfl,g2,g3,g4⟩
     dsimp only at g1 g2 g3 g4
     have hb2:=g4 nx _ (by omega) (fun _=>by omega) hb'
     rw [← htk'] at g3 ⊢
     rw [hlen2,slotP_loc (p:=(lid2,l.length + 1 + sizes (ks.take (i + 1)))) (by show l.length + 1 + sizes (ks.take (i + 1)) ≠ 0;omega)]
     refine POps.wp ?_
     simp only [SW]
     repeat (refine PRun.wpn rfl ?_;simp only [SW,w1])
     refine Gh.mask mkPuD9 ?_
     refine ⟨ks.length - (i + 1),by omega,i + 1,nx2,lid2,H2,by rw [slotP_loc (p:=(lid2,l.length + 1 + sizes (ks.take (i + 1)))) (by show l.length + 1 + sizes (ks.take (i + 1)) ≠ 0;omega)];rfl,by omega,rfl,rfl,by omega,by omega,hb2,g3,fun id y h1 h2 h3=>g4 id y (by omega) (fun _=>by omega) (hK' id y h1 h2 h3)⟩
    ·have hsb:subS pt i=pt++dotS++dgS i:=by rw [hsub];unfold belowS;rw [if_neg (by rw [eqS_f he];simp)]
     rw [hsb] at hrec htk
     have htk':l++[(pt,Fm.mk o nm ks)]++visitss dgS pt 0 (ks.take (i + 1))=l++[(pt,Fm.mk o nm ks)]++visitss dgS pt 0 (ks.take i)++(Fm.mk o' nm' ks').visits dgS (pt++dotS++dgS i):=by rw [htk,← List.append_assoc]
     have a1:=bi_addS (a:=pt) (b:=⟨#[46]⟩) (by show pt.size + 1 < _;omega)
     have a2:=bi_addS (a:=pt++⟨#[46]⟩) (b:=dgS i) (by rw [ByteArray.size_append];show pt.size + 1 + _ < _;omega)
     simp only [dotS] at hrec htk'
     repeat (refine PRun.wpn rfl ?_;simp only [SW,↓reduceIte,hb',ltB_t hlt])
     refine .refl ⟨show nx≤nx' by omega,PFun.to hd rfl (POps.wp ?_)⟩
     simp only [SW]
     repeat (refine PRun.wpn rfl ?_;simp only [SW,↓reduceIte,hb',hlt,hcut,neS_t he,a1,a2])
     refine .refl ⟨show nx≤nx' by omega,PToE.mono (PToB.toE hrec (by simp only [nmL,nm_ptr,nm_agg,nm_junk,nm_loc,nm_sz,nm_ref,n0,n1,nm_lit,Bool.and_self]) (by omega)) ?_⟩
     rintro r ⟨nx2,H2⟩ ⟨g1,lid2,rfl,g2,g3,g4⟩
     dsimp only at g1 g2 g3 g4
     have hb2:=g4 nx _ (by omega) (fun _=>by omega) hb'
     rw [← htk'] at g3 ⊢
     rw [hlen2,slotP_loc (p:=(lid2,l.length + 1 + sizes (ks.take (i + 1)))) (by show l.length + 1 + sizes (ks.take (i + 1)) ≠ 0;omega)]
     refine POps.wp ?_
     simp only [SW]
     repeat (refine PRun.wpn rfl ?_;simp only [SW,w1])
     refine Gh.mask mkPuD9 ?_
     refine ⟨ks.length - (i + 1),by omega,i + 1,nx2,lid2,H2,by rw [slotP_loc (p:=(lid2,l.length + 1 + sizes (ks.take (i + 1)))) (by show l.length + 1 + sizes (ks.take (i + 1)) ≠ 0;omega)];rfl,by omega,rfl,rfl,by omega,by omega,hb2,g3,fun id y h1 h2 h3=>g4 id y (by omega) (fun _=>by omega) (hK' id y h1 h2 h3)⟩
   ·have hil:i=ks.length:=by omega
    have hend:l++(Fm.mk o nm ks).visits dgS pt=l++[(pt,Fm.mk o nm ks)]++visitss dgS pt 0 (ks.take i):=by
     rw [hil,List.take_length];simp only [Fm.visits,List.append_assoc,List.singleton_append]
    rw [hsl]
    repeat (refine PRun.wpn rfl ?_;simp only [SW,↓reduceIte,reduceCtorEq,hb',ltB_f hlt])
    refine .refl ⟨_,rfl,?_⟩
    rw [hend]
    refine ⟨by show nx≤nx';omega,lid',?_,by omega,hT',hK'⟩
    rw [hvl,hsl];rfl
end
end Go.Proofs.YtnpoloachkcadaaGreatDoor.Ai
namespace Go.Proofs.YtnpoloachkcadaaGreatDoor.Ai
set_option linter.unusedSimpArgs false
open Go
set_option linter.unusedVariables false
set_option linter.unusedSectionVars false
set_option maxRecDepth 10000
set_option maxHeartbeats 4000000
def hitN (nm:ByteArray) (x:ByteArray × Fm):Prop:=x.2.op=3∧x.2.name=nm
open Classical in
noncomputable def cntV (nm:ByteArray):List (ByteArray × Fm)→Nat
 | []=>0
 | (_,.mk o n _)::l=>(if o=3∧n=nm then 1 else 0) + cntV nm l
theorem cntV_app (nm:ByteArray):∀ a b:List (ByteArray × Fm),cntV nm (a++b)=cntV nm a + cntV nm b
 | [],b=>by simp [cntV]
 | (_,.mk o n _)::a,b=>by simp only [List.cons_append,cntV,cntV_app nm a b];omega
theorem cntV_le (nm:ByteArray):∀ a:List (ByteArray × Fm),cntV nm a≤a.length
 | []=>by simp [cntV]
 | (_,.mk o n _)::a=>by have:=cntV_le nm a;simp only [cntV,List.length_cons];split <;> omega
mutual
theorem cnt_visits (nm:ByteArray) (itS:Nat→ByteArray):∀ (f:Fm) (p:ByteArray),cntV nm (f.visits itS p)=f.cnt nm
 | .mk o n ks,p=>by
  simp only [Fm.visits,cntV,Fm.cnt,cnts_visits nm itS ks]
theorem cnts_visits (nm:ByteArray) (itS:Nat→ByteArray):∀ (ks:List Fm) (p:ByteArray) (i:Nat),cntV nm (visitss itS p i ks)=cnts nm ks
 | [],p,i=>rfl
 | k::ks,p,i=>by simp only [visitss,cntV_app,cnts,cnt_visits nm itS k,cnts_visits nm itS ks]
end
mutual
theorem rput_size (nm:ByteArray) (b:Fm):∀ f:Fm,(f.rput (plP nm b)).size≤f.size * (b.size + 1)
 | .mk o n ks=>by
  have h:=rputs_size nm b ks
  have e:(1 + sizes ks) * (b.size + 1)=b.size + 1 + sizes ks * (b.size + 1):=by rw [Nat.add_mul,Nat.one_mul]
  simp only [Fm.rput,plP,Fm.size]
  rw [e]
  split
  ·by_cases hn:n=nm
   ·simp only [hn,if_true];omega
   ·simp only [hn,if_false,Fm.size];omega
  ·simp only [Fm.size];omega
theorem rputs_size (nm:ByteArray) (b:Fm):∀ ks:List Fm,sizes (rputs (plP nm b) ks)≤sizes ks * (b.size + 1)
 | []=>by simp [rputs,sizes]
 | k::ks=>by
  have h1:=rput_size nm b k
  have h2:=rputs_size nm b ks
  simp only [rputs,sizes,Nat.add_mul];omega
end
theorem plBy_one (nm:ByteArray) (b:Fm):plBy [nm] [b]=plP nm b:=by
 funext n
 unfold plBy plP
 by_cases h:n=nm
 ·subst h;simp [posN]
 ·simp [posN,h]
theorem tk0:tkW 0=fun _=>true:=by
 funext o
 unfold tkW
 rw [eqB_f (show ¬ (0:Int)=1 by omega),eqB_f (show ¬ (0:Int)=2 by omega)];rfl
section
variable {C:Ctx} (hm:C.P.follows .mixedOrders=true) (hC:TabOK C.P C.ng C.ts Tryz.tab)
include hm hC
theorem rFormed_ok (f:Fm) (hok:f.ok) (hn:f.size < 2 ^ 60):PFun C 95 [fP f] (.lit (.bool (yesB (f.formed fun _=>true)))):=by
 have hc:=rformed_ok hm hC 0 f.size f (Nat.le_refl _) hok hn
 rw [tk0] at hc
 obtain ⟨o,nm,ks⟩:=f
 simp only [fP,fC] at hc
 refine PFun.body hm hC (show Tryz.tab.get 95=some Tryz.c95 from rfl) rfl ?_
 simp only [SW,Tryz.c95,startP,Nat.reduceAdd,Nat.reduceSub,List.replicate,fP,fC]
 repeat (refine PRun.wpn rfl ?_;simp only [SW,↓reduceIte])
 refine .refl (PFun.to (hc) rfl (POps.wp ?_))
 simp only [SW]
 repeat (refine PRun.wpn rfl ?_;simp only [wp,or_true,true_and,reduceCtorEq])
 exact .refl ⟨_,rfl,.refl _⟩
theorem rAll_ok (f:Fm) (hn:f.size < 2 ^ 36):PFun C 41 [fP f] (.sz (tlC (f.visits dgS ⟨#[]⟩)) f.size):=by
 have hlen:=visits_len dgS f ⟨#[]⟩
 have hpos:=f.size_pos
 have hc:=fun H=>told_ok hm hC f.size f (Nat.le_refl _) hn ⟨#[]⟩ 1 H 0 [] (by show 0 + _ < _;omega) (by show 0 + _ < _;omega) (fun h=>absurd rfl h)
 obtain ⟨o,nm,ks⟩:=f
 simp only [fP,fC] at hc
 simp only [List.nil_append] at hc
 have n0:Nat.blt 0 1=true:=rfl
 refine PFun.body hm hC (show Tryz.tab.get 41=some Tryz.c41 from rfl) rfl ?_
 simp only [SW,Tryz.c41,startP,Nat.reduceAdd,Nat.reduceSub,List.replicate,fP,fC]
 repeat (refine PRun.wpn rfl ?_;simp only [SW,↓reduceIte])
 refine .refl (PToE.mono (PToB.toE (hc _) (by simp only [nmL,nm_ptr,nm_agg,nm_junk,nm_sz,n0,nm_lit,Bool.and_self]) (by omega)) ?_)
 rintro r ⟨nx2,H2⟩ ⟨g1,lid2,rfl,g2,g3,g4⟩
 dsimp only at g1 g2 g3 g4
 obtain ⟨g5,g6⟩:=g3 (fun e=>by rw [e] at hlen;simp at hlen;omega)
 rw [hlen,slotP_loc (p:=(lid2,(Fm.mk o nm ks).size)) (by show (Fm.mk o nm ks).size ≠ 0;omega)]
 refine POps.wp ?_
 simp only [SW]
 repeat (refine PRun.wpn rfl ?_;simp only [wp,or_true,true_and,reduceCtorEq])
 refine Gh.fzTop lid2 (H:=[]) g6 (pure_tlC _) (fun j o h=>by simp [look] at h) ?_
 simp only [SW,↓reduceIte]
 exact ⟨_,rfl,.sl_sz⟩
theorem rPut_ok (f b:Fm) (nm:ByteArray) (of:f.ok) (ob:b.ok) (hf:f.size < 2 ^ 28) (hb:b.size < 2 ^ 28) (hn:nm.size < 2 ^ 60) :
  PFun C 46 [fP f,.lit (.string nm),fP b] (.tup [fP (rputE f nm b).1,.lit (.int .i64 (rputE f nm b).2)]):=by
 have a1:=rFormed_ok hm hC f of (by omega)
 have a2:=rFormed_ok hm hC b ob (by omega)
 have a3:=rname_ok hm hC nm hn
 have s1:=rsize_ok hm hC f.size f (Nat.le_refl _) (by omega)
 have s2:=rsize_ok hm hC b.size b (Nat.le_refl _) (by omega)
 have v1:=rAll_ok hm hC f (by omega)
 have hvl:=visits_len dgS f ⟨#[]⟩
 have hcnt:=cnt_visits nm dgS f ⟨#[]⟩
 have p1:=rput_ok hm hC [nm] [b] rfl (by simp) (fun i k hk=>by
  match i,hk with
  | 0,hk=>simp only [List.getElem?_cons_zero,Option.some.injEq] at hk;subst hk;omega
  | i + 1,hk=>simp at hk) f.size f (Nat.le_refl _) (by omega)
 rw [plBy_one] at p1
 have hrs:(f.rput (plP nm b)).size < 2 ^ 60:=by
  have h1:=rput_size nm b f
  have h2:f.size * (b.size + 1)≤2 ^ 28 * (2 ^ 28 + 1):=Nat.mul_le_mul (by omega) (by omega)
  omega
 have d1:=rdepth_ok hm hC (f.rput (plP nm b)).size (f.rput (plP nm b)) (Nat.le_refl _) (by omega)
 have hbpos:=b.size_pos
 unfold rputE
 generalize yesB (f.formed fun _=>true)=y1 at *
 generalize yesB (b.formed fun _=>true)=y2 at *
 generalize yesB (nameOK nm)=y3 at *
 generalize f.rput (plP nm b)=r at *
 generalize f.visits dgS ⟨#[]⟩=vs at *
 generalize f.cnt nm=cn at *
 have hcl:=cntV_le nm vs
 generalize f.size=sf at *
 generalize b.size=sb at *
 generalize r.depth=dr at *
 obtain ⟨o,n,ks⟩:=f
 obtain ⟨bo,bn,bk⟩:=b
 obtain ⟨ro,rn,rk⟩:=r
 simp only [fP,fC] at a1 a2 s1 s2 v1 d1 p1
 cases y1
 ·simp only [SW,false_and,fP,fC]
  refine PFun.body hm hC (show Tryz.tab.get 46=some Tryz.c46 from rfl) rfl ?_
  simp only [SW,Tryz.c46,startP,Nat.reduceAdd,Nat.reduceSub,List.replicate]
  repeat (refine PRun.wpn rfl ?_;simp only [SW,↓reduceIte,reduceCtorEq,Nat.reduceAdd])
  refine .refl (PFun.to (a1) rfl (POps.wp ?_))
  simp only [SW]
  repeat (refine PRun.wpn rfl ?_;simp only [SW,↓reduceIte,Nat.reduceEqDiff])
  refine .refl (PFun.to (a2) rfl (POps.wp ?_))
  simp only [SW]
  repeat (refine PRun.wpn rfl ?_;simp only [SW])
  refine .refl (PFun.to (a3) rfl (POps.wp ?_))
  simp only [SW]
  repeat (refine PRun.wpn rfl ?_;simp only [SW,↓reduceIte,reduceCtorEq,Nat.reduceAdd])
  exact .refl ⟨_,rfl,.tup (.cons (.agg (.cons (.refl _) (.cons (.refl _) (.cons .nil_sz .nil)))) (.cons (.refl _) .nil))⟩
 cases y2
 ·simp only [SW,false_and,and_false,fP,fC]
  refine PFun.body hm hC (show Tryz.tab.get 46=some Tryz.c46 from rfl) rfl ?_
  simp only [SW,Tryz.c46,startP,Nat.reduceAdd,Nat.reduceSub,List.replicate]
  repeat (refine PRun.wpn rfl ?_;simp only [SW,↓reduceIte,reduceCtorEq,Nat.reduceAdd])
  refine .refl (PFun.to (a1) rfl (POps.wp ?_))
  simp only [SW]
  repeat (refine PRun.wpn rfl ?_;simp only [SW,↓reduceIte,Nat.reduceEqDiff])
  refine .refl (PFun.to (a2) rfl (POps.wp ?_))
  simp only [SW]
  repeat (refine PRun.wpn rfl ?_;simp only [SW])
  refine .refl (PFun.to (a3) rfl (POps.wp ?_))
  simp only [SW]
  repeat (refine PRun.wpn rfl ?_;simp only [SW,↓reduceIte,reduceCtorEq,Nat.reduceAdd])
  exact .refl ⟨_,rfl,.tup (.cons (.agg (.cons (.refl _) (.cons (.refl _) (.cons .nil_sz .nil)))) (.cons (.refl _) .nil))⟩
 cases y3
 ·simp only [SW,and_false,fP,fC]
  refine PFun.body hm hC (show Tryz.tab.get 46=some Tryz.c46 from rfl) rfl ?_
  simp only [SW,Tryz.c46,startP,Nat.reduceAdd,Nat.reduceSub,List.replicate]
  repeat (refine PRun.wpn rfl ?_;simp only [SW,↓reduceIte,reduceCtorEq,Nat.reduceAdd])
  refine .refl (PFun.to (a1) rfl (POps.wp ?_))
  simp only [SW]
  repeat (refine PRun.wpn rfl ?_;simp only [SW,↓reduceIte,Nat.reduceEqDiff])
  refine .refl (PFun.to (a2) rfl (POps.wp ?_))
  simp only [SW]
  repeat (refine PRun.wpn rfl ?_;simp only [SW])
  refine .refl (PFun.to (a3) rfl (POps.wp ?_))
  simp only [SW]
  repeat (refine PRun.wpn rfl ?_;simp only [SW,↓reduceIte,reduceCtorEq,Nat.reduceAdd])
  exact .refl ⟨_,rfl,.tup (.cons (.agg (.cons (.refl _) (.cons (.refl _) (.cons .nil_sz .nil)))) (.cons (.refl _) .nil))⟩
 simp only [and_self,if_true]
 rw [← hvl] at v1
 generalize hL:(if ltB 1000 (((sf:Nat):Int) + ((cn:Nat):Int) * (((sb:Nat):Int) - 1))=true then ((Fm.mk 0 ⟨#[]⟩ [],31):Fm × Int) else if ltB 100 ((dr:Nat):Int)=true then (Fm.mk 0 ⟨#[]⟩ [],31) else (Fm.mk ro rn rk,0))=res
 obtain ⟨⟨eo,en,ek⟩,ee⟩:=res
 simp only [fP,fC]
 refine PFun.body hm hC (show Tryz.tab.get 46=some Tryz.c46 from rfl) rfl ?_
 simp only [SW,Tryz.c46,startP,Nat.reduceAdd,Nat.reduceSub,List.replicate]
 repeat (refine PRun.wpn rfl ?_;simp only [SW,↓reduceIte,reduceCtorEq,Nat.reduceAdd])
 refine .refl (PFun.to (a1) rfl (POps.wp ?_))
 simp only [SW]
 repeat (refine PRun.wpn rfl ?_;simp only [SW,↓reduceIte,Nat.reduceEqDiff])
 refine .refl (PFun.to (a2) rfl (POps.wp ?_))
 simp only [SW]
 repeat (refine PRun.wpn rfl ?_;simp only [SW])
 refine .refl (PFun.to (a3) rfl (POps.wp ?_))
 simp only [SW]
 repeat (refine PRun.wpn rfl ?_;simp only [SW,↓reduceIte,reduceCtorEq])
 refine .refl (PFun.to (v1) rfl (POps.wp ?_))
 simp only [SW]
 repeat (refine PRun.wpn rfl ?_;simp only [SW,reduceCtorEq])
 refine PRun.gh (Gh.mask mkPuD10 ?_)
 simp only [mkPuD10,↓reduceIte,Bool.false_eq_true,maskP]
 refine PRun.loopG (fun m t π=>∃ i:Nat,t=(.junk::.lit (.string nm)::.junk::.ptr 0 0::.junk::.ptr 1 0::.ptr 2 0::.lit (.int .i64 0)::.junk::.junk::.junk::.lit (.int .i64 (cntV nm (vs.take i):Nat))::.sz (tlC vs) vs.length::.lit (.int .i64 (i:Nat))::.junk::.junk::.junk::.junk::.junk::.junk::.junk::.junk::.junk::.junk::.junk::.junk::.junk::.junk::.junk::.junk::.junk::.junk::.junk::.junk::.junk::.junk::.junk::.junk::.junk::.junk::.junk::.junk::.junk::.junk::.junk::.junk::.junk::.junk::.junk::.junk::.junk::.junk::.junk::.junk::.junk::.junk::.junk::.junk::.junk::.junk::.junk::.junk::.junk::.junk::.junk::.junk::.junk::.junk::.junk::.junk::.junk::.junk::.junk::.junk::.junk::.junk::.junk::.junk::.junk::.junk::[])∧i≤vs.length∧m=vs.length - i∧π=⟨3,[(2,.cells [.lit (.int .u8 0),.lit (.string ⟨#[]⟩),.lit (.slice none 0 0)] 27 3 true false []),(1,.cells [.lit (.int .u8 (bo:Nat)),.lit (.string bn),.sz (fL bk) bk.length] 27 3 true false []),(0,.cells [.lit (.int .u8 (o:Nat)),.lit (.string n),.sz (fL ks) ks.length] 27 3 true false [])]⟩) ?_ vs.length _ _ ⟨0,rfl,by omega,rfl,rfl⟩
 rintro m t π ⟨i,rfl,hi,rfl,rfl⟩
 by_cases hlt:(i:Int) < (vs.length:Nat)
 ·obtain ⟨x,hx⟩:∃ x,vs[i]? = some x:=⟨vs[i]'(by omega),List.getElem?_eq_getElem (by omega)⟩
  have hci:cntV nm (vs.take (i + 1))=cntV nm (vs.take i) + cntV nm [x]:=by rw [List.take_add_one,hx,cntV_app];rfl
  have hcl1:=cntV_le nm (vs.take i)
  rw [List.length_take] at hcl1
  obtain ⟨xp,xo,xn,xk⟩:=x
  have hdr:(tlC vs).drop (i * 4) = .lit (.string xp)::.lit (.int .u8 (xo:Nat))::.lit (.string xn)::.sz (fL xk) xk.length::tlC (vs.drop (i + 1)):=by
   obtain ⟨hi',hxe⟩:=List.getElem?_eq_some_iff.1 hx
   rw [tlC_drop,List.drop_eq_getElem_cons hi',hxe]
   rfl
  have w1:IntKind.i64.wrap (((i:Nat):Int) + 1)=((i + 1:Nat):Int):=by rw [wrap64 (by omega) (by omega)];omega
  have w2:IntKind.i64.wrap (((cntV nm (vs.take i):Nat):Int) + 1)=((cntV nm (vs.take i) + 1:Nat):Int):=by rw [wrap64 (by omega) (by omega)];omega
  by_cases h3:((xo:Nat):Int)=3
  ·by_cases h4:xn=nm
   ·have hc1:cntV nm (vs.take (i + 1))=cntV nm (vs.take i) + 1:=by rw [hci];simp only [cntV];rw [if_pos ⟨by omega,h4⟩]
    repeat (refine PRun.wpn rfl ?_;simp only [SW,↓reduceIte,ltB_t hlt,hlt,hdr,eqB_t h3,eqS_t h4,w1,w2])
    refine Gh.mask mkPuD10 ?_
    exact ⟨vs.length - (i + 1),by omega,i + 1,by rw [hc1];rfl,by omega,rfl,rfl⟩
   ·have hc1:cntV nm (vs.take (i + 1))=cntV nm (vs.take i):=by rw [hci];simp only [cntV];rw [if_neg (fun h=>h4 h.2)];omega
    repeat (refine PRun.wpn rfl ?_;simp only [SW,↓reduceIte,ltB_t hlt,hlt,hdr,eqB_t h3,eqS_f h4,w1])
    refine Gh.mask mkPuD10 ?_
    exact ⟨vs.length - (i + 1),by omega,i + 1,by rw [hc1];rfl,by omega,rfl,rfl⟩
  ·have hc1:cntV nm (vs.take (i + 1))=cntV nm (vs.take i):=by rw [hci];simp only [cntV];rw [if_neg (fun h=>h3 (by omega))];omega
   repeat (refine PRun.wpn rfl ?_;simp only [SW,↓reduceIte,ltB_t hlt,hlt,hdr,eqB_f h3,w1])
   refine Gh.mask mkPuD10 ?_
   exact ⟨vs.length - (i + 1),by omega,i + 1,by rw [hc1];rfl,by omega,rfl,rfl⟩
 ·have hil:i=vs.length:=by omega
  subst hil
  rw [List.take_length,hcnt]
  have hmul:((cn:Nat):Int) * (((sb:Nat):Int) - 1)≤2 ^ 56∧0≤((cn:Nat):Int) * (((sb:Nat):Int) - 1):=by
   have h1:((cn * (sb - 1):Nat):Int)=((cn:Nat):Int) * (((sb:Nat):Int) - 1):=by rw [Int.natCast_mul];congr 1;omega
   have h2:cn * (sb - 1)≤2 ^ 28 * 2 ^ 28:=Nat.mul_le_mul (by omega) (by omega)
   rw [← h1];omega
  have w3:IntKind.i64.wrap (((sb:Nat):Int) - 1)=((sb:Nat):Int) - 1:=wrap64 (by omega) (by omega)
  have w4:IntKind.i64.wrap (((cn:Nat):Int) * (((sb:Nat):Int) - 1))=((cn:Nat):Int) * (((sb:Nat):Int) - 1):=wrap64 (by omega) (by omega)
  have w5:IntKind.i64.wrap (((sf:Nat):Int) + ((cn:Nat):Int) * (((sb:Nat):Int) - 1))=((sf:Nat):Int) + ((cn:Nat):Int) * (((sb:Nat):Int) - 1):=wrap64 (by omega) (by omega)
  repeat (refine PRun.wpn rfl ?_;simp only [SW,↓reduceIte,ltB_f hlt])
  refine PDraw.stage (Nat.zero_le _) rfl ?_
  try dsimp only
  simp only [SW,↓reduceIte,reduceCtorEq,Nat.reduceAdd,Nat.reduceEqDiff]
  refine PDE.pure s1 rfl ?_
  refine PDraw.stage (Nat.zero_le _) rfl ?_
  try dsimp only
  simp only [SW]
  refine PDE.pure s2 rfl ?_
  refine PDraw.last (Nat.zero_le _) rfl ?_
  try dsimp only
  simp only [SW,w3,w4,w5]
  by_cases c1:(1000:Int) < ((sf:Nat):Int) + ((cn:Nat):Int) * (((sb:Nat):Int) - 1)
  ·rw [ltB_t c1,if_pos rfl] at hL
   cases hL
   repeat (refine PRun.wpn rfl ?_;simp only [SW,↓reduceIte,reduceCtorEq,Nat.reduceAdd,ltB_t c1])
   exact .refl ⟨_,rfl,.tup (.cons (.agg (.cons (.refl _) (.cons (.refl _) (.cons .nil_sz .nil)))) (.cons (.refl _) .nil))⟩
  rw [ltB_f c1,if_neg (by simp)] at hL
  repeat (refine PRun.wpn rfl ?_;simp only [SW,↓reduceIte,reduceCtorEq,Nat.reduceAdd,Nat.reduceEqDiff,ltB_f c1])
  refine Gh.frz 3 rfl rfl rfl ?_
  simp only [SW,↓reduceIte,reduceCtorEq,Nat.reduceEqDiff]
  refine Gh.frz 4 rfl rfl rfl ?_
  simp only [SW,↓reduceIte,reduceCtorEq,Nat.reduceEqDiff]
  have p2:PFun C 97 [.agg [.lit (.int .u8 (o:Nat)),.lit (.string n),.sz (fL ks) ks.length],.sl [.lit (.string nm)] 1,.sl [.lit (.int .u8 (bo:Nat)),.lit (.string bn),.sz (fL bk) bk.length] 1] _:=p1.wkA (.cons (.refl _) (.cons .sl_sz (.cons .sl_sz .nil)))
  refine .refl (PFun.to (p2) rfl (POps.wp ?_))
  simp only [SW,↓reduceIte,Nat.reduceAdd]
  repeat (refine PRun.wpn rfl ?_;simp only [SW,↓reduceIte])
  refine .refl (PFun.to (d1) rfl (POps.wp ?_))
  simp only [SW]
  by_cases c2:(100:Int) < ((dr:Nat):Int)
  ·rw [ltB_t c2,if_pos rfl] at hL
   cases hL
   repeat (refine PRun.wpn rfl ?_;simp only [SW,↓reduceIte,reduceCtorEq,Nat.reduceAdd,Nat.reduceEqDiff,ltB_t c2])
   exact .refl ⟨_,rfl,.tup (.cons (.agg (.cons (.refl _) (.cons (.refl _) (.cons .nil_sz .nil)))) (.cons (.refl _) .nil))⟩
  ·rw [ltB_f c2,if_neg (by simp)] at hL
   cases hL
   repeat (refine PRun.wpn rfl ?_;simp only [SW,↓reduceIte,reduceCtorEq,Nat.reduceAdd,Nat.reduceEqDiff,ltB_f c2])
   exact .refl ⟨_,rfl,.refl _⟩
end
end Go.Proofs.YtnpoloachkcadaaGreatDoor.Ai
namespace Go.Proofs.YtnpoloachkcadaaGreatDoor.Ai
set_option linter.unusedSimpArgs false
open Go
set_option linter.unusedVariables false
set_option linter.unusedSectionVars false
set_option maxRecDepth 10000
set_option maxHeartbeats 4000000
mutual
theorem gs_put {tk:Nat→Bool} (nm:ByteArray) (b:Fm):∀ f:Fm,f.formed tk→f.gs nm b.size=(f.repl (putG nm b)).size
 | .mk o n ks,h=>by
  by_cases h3:o=3
  ·subst h3
   have:=formed_kids0 h
   subst this
   by_cases h4:n=nm
   ·subst h4
    simp only [Fm.gs,Fm.repl,putG,Fm.name,and_self,if_true]
   ·simp only [Fm.gs,Fm.repl,putG,Fm.name,if_true,h4,and_false,if_false,Fm.size,gss,sizes]
  ·have hh:=h
   simp only [Fm.formed] at hh
   simp only [Fm.gs,Fm.repl,h3,false_and,if_false,Fm.size,gss_put nm b ks hh.2.2.2.2.2.2]
theorem gss_put {tk:Nat→Bool} (nm:ByteArray) (b:Fm):∀ ks:List Fm,formeds tk ks→gss nm b.size ks=sizes (repls (putG nm b) ks)
 | [],_=>by simp [gss,repls,sizes]
 | k::ks,h=>by
  simp only [formeds] at h
  simp only [gss,repls,sizes,gs_put nm b k h.1,gss_put nm b ks h.2]
end
theorem putE_size (f:Fm) (nm:ByteArray) (b:Fm):(putE f nm b).1.size≤1000:=by
 unfold putE
 split
 ·rename_i h
  split
  ·simp [Fm.size,sizes]
  ·rename_i h2
   have h3:¬ (1000:Int) < (f.gs nm b.size:Nat):=fun e=>h2 (.inl (ltB_t e))
   have:=gs_put nm b f (yes_iff.1 h.1)
   show (f.repl (putG nm b)).size≤1000
   omega
 ·simp [Fm.size,sizes]
theorem look_eq {H H':List (Nat × PObj)} {i:Nat} (h:H=H'):look H' i=look H i:=by rw [h]
theorem look_self' {i:Nat} {o:PObj} {H:List (Nat × PObj)}:look ((i,o)::H) i=some o:=by simp only [look,if_true]
theorem mC_three (t:Mt):∃ a b c,mC t=[a,b,c]∧mtP t = .agg [a,b,c]∧plainP a=true∧plainP b=true∧plainP c=true:=by
 have h1:=mC_len t
 have h2:=plain_mC t
 have h3:mtP t = .agg (mC t):=rfl
 rw [h3]
 generalize mC t=m at *
 match m,h1 with
 | [a,b,c],_=>
  simp only [allPlain,Bool.and_true,Bool.and_eq_true] at h2
  exact ⟨a,b,c,rfl,rfl,h2⟩
theorem BookI.empty {H:List (Nat × PObj)} {nx bk j:Nat} {ex:Bool} (hb:bk < nx) (h:look H bk=some (.cells [.lit (.slice none 0 0),.lit (.slice none 0 0),.lit (.slice none 0 0),.lit (.slice none 0 0),.lit (.slice none 0 0),.lit (.slice none 0 0),.lit (.slice none 0 0),.lit (.slice none 0 0),.lit (.slice none 0 0),.lit (.slice none 0 0),.lit (.slice none 0 0),.lit (.slice none 0 0),.lit (.slice none 0 0)] 51 13 ex false [])):BookI H nx bk j []:=
 ⟨⟨hb,ex,h⟩,fun h=>absurd rfl h,fun i p h=>by simp at h,⟨fun i i' p p' h=>by simp at h,fun i p h=>by simp at h⟩⟩
theorem BookI.keep2 {H H':List (Nat × PObj)} {nx nx' bk j:Nat} {ps:List (Nat × Nat)} (h:BookI H nx bk j ps) (hn:nx≤nx') (hk:∀ id o,id < nx→(id=bk∨(ps ≠ []∧id=j)∨∃ q∈ps,q.2 ≠ 0∧q.1=id)→look H id=some o→look H' id=some o):BookI H' nx' bk j ps:=
 ⟨⟨Nat.lt_of_lt_of_le h.hbk.1 hn,h.hbk.2.imp fun ex e=>hk _ _ h.hbk.1 (.inl rfl) e⟩,fun h0=>by
  obtain ⟨h1,h2,al,h3⟩:=h.arr h0
  exact ⟨h1,Nat.lt_of_lt_of_le h2 hn,al,hk _ _ h2 (.inr (.inl ⟨h0,rfl⟩)) h3⟩,fun i p hp h0=>by
  obtain ⟨h1,h2,h2',cs,ex,h3,h4⟩:=h.lst i p hp h0
  exact ⟨h1,Nat.lt_of_lt_of_le h2 hn,h2',cs,ex,h3,hk _ _ h2 (.inr (.inr ⟨p,List.mem_iff_getElem?.2 ⟨i,hp⟩,h0,rfl⟩)) h4⟩,h.dis⟩
theorem GL.snoc2 {lo:Nat} {H H1 H':List (Nat × PObj)} {nx nx1 nx' lid lid':Nat} {ts:List Mt} {t:Mt} {f:Fm} {H0:List (Nat × PObj)} (h:GL lo H nx lid ts) (hlo:lo≤nx) (ht:NewT false f nx H0 t nx1 H1) (hl:nx1≤lid') (hl':lid' < nx')
  (hc:look H' lid'=some (.cells (mL (ts++[t])) 27 3 false false [])) (hk1:∀ i∈idsL ts,∀ o,look H i=some o→look H' i=some o) (hk2:∀ i∈t.ids,∀ o,look H1 i=some o→look H' i=some o):GL lo H' nx' lid' (ts++[t]):=by
 have hn:=ht.nn
 have hold:∀ i∈idsL ts,i < nx:=h.trs.lt
 refine ⟨fun _=>⟨by omega,hl',hc⟩,InHL_app.2 ⟨h.trs.keep (by omega) hk1,⟨ht.inn.keep (by omega) hk2,trivial⟩⟩,rmIL_app.2 ⟨h.rm,ht.rm,trivial⟩,?_,fun i hi=>?_⟩
 ·rw [idsL_app]
  refine List.nodup_append.2 ⟨h.nd,by simpa [idsL] using ht.nd,fun a ha c hc e=>?_⟩
  subst e
  simp only [idsL,List.append_nil] at hc
  have:=hold a ha;have:=ht.lo a hc;omega
 ·rw [idsL_app,List.mem_append] at hi
  rcases hi with hi | hi
  ·have:=hold i hi
   exact ⟨(h.lo i hi).1,by omega⟩
  ·simp only [idsL,List.append_nil] at hi
   have:=ht.lo i hi;have:=ht.inn.lt i hi
   exact ⟨by omega,by omega⟩
theorem nm_three {H:List (Nat × PObj)} {nx nx':Nat} {t:Mt} {a b c:PV} (h:InH H nx t) (hn:nx≤nx') (e:mC t=[a,b,c]):nmP nx' a=true∧nmP nx' b=true∧nmP nx' c=true:=by
 have:=nm_mC (h.keep (H':=H) hn fun _ _ _ h=>h)
 rw [e] at this
 simpa only [nmL,Bool.and_true,Bool.and_eq_true] using this
theorem sizes_all {w:Fm}:∀ {ts:List Mt},(∀ t∈ts,t.fm=w)→sizes (fms ts)=ts.length * w.size
 | [],_=>by simp [fms,sizes]
 | t::ts,h=>by
  have h1:=sizes_all (ts:=ts) fun x hx=>h x (List.mem_cons_of_mem _ hx)
  simp only [fms,sizes,List.length_cons,h t (by simp),h1,Nat.add_mul,Nat.one_mul];omega
structure Rnd (lo bk:Nat) (H0 H:List (Nat × PObj)) (nx lid j:Nat) (ts:List Mt):Prop where
 le:lo≤nx
 bl:bk + 1=lo
 gl:GL lo H nx lid ts
 bi:BookI H nx bk j (nodesL ts)
 old:∀ id o,id < lo→id ≠ bk→look H0 id=some o→look H id=some o
theorem Rnd.off {lo bk nx lid j:Nat} {H0 H:List (Nat × PObj)} {ts:List Mt} (h:Rnd lo bk H0 H nx lid j ts) (hts:ts ≠ []):lid ≠ bk∧(nodesL ts ≠ []→lid ≠ j)∧∀ q∈nodesL ts,q.2 ≠ 0→q.1 ≠ lid:=by
 obtain ⟨h1,h2,h3⟩:=h.gl.lst hts
 exact ⟨(h.bi.off h3).1,(h.bi.off h3).2,fun q hq h0=>(h.gl.lo _ (nodesL_ids hq h0)).2⟩
theorem Rnd.bookB {lo bk nx nx1 lid j:Nat} {H0 H H1 Hb:List (Nat × PObj)} {ts:List Mt} {g:Mt} {f:Fm} (h:Rnd lo bk H0 H nx lid j ts) (hg:NewT false f nx H g nx1 H1)
  (hb:∀ id,id < nx1→(ts ≠ []→id ≠ lid)→look Hb id=look H1 id):BookI Hb (nx1 + 1 + 1 + 1) bk j (nodesL ts)∧InH Hb (nx1 + 1 + 1 + 1) g∧Off bk (nodesL ts) g.ids:=by
 have hn:=hg.nn
 refine ⟨h.bi.keep2 (by omega) fun id o h1 h2 h3=>?_,hg.inn.keep (by omega) fun id hi o h3=>?_,fun i hi=>?_,fun q hq h0 hi=>?_⟩
 ·rw [hb id (by omega) (fun hts=>?_),hg.old id h1];exact h3
  obtain ⟨o1,o2,o3⟩:=h.off hts
  rcases h2 with rfl | ⟨h2,rfl⟩ | ⟨q,hq,h0,rfl⟩
  ·exact fun e=>o1 e.symm
  ·exact fun e=>o2 h2 e.symm
  ·exact o3 q hq h0
 ·rw [hb id (hg.inn.lt id hi) (fun hts=>?_)];exact h3
  have:=hg.lo id hi;have:=(h.gl.lst hts).2.1;omega
 ·have:=hg.lo i hi;have:=h.le;have:=h.bl;omega
 ·have:=h.gl.trs.lt _ (nodesL_ids hq h0);have:=hg.lo _ hi;omega
theorem Rnd.next {lo bk nx nx1 nx' lid j j':Nat} {H0 H H1 Hb H':List (Nat × PObj)} {ts:List Mt} {g:Mt} {f:Fm} (h:Rnd lo bk H0 H nx lid j ts) (hg:NewT false f nx H g nx1 H1)
  (hb:∀ id,id < nx1→(ts ≠ []→id ≠ lid)→look Hb id=look H1 id) (hl:look Hb (nx1 + 1 + 1)=some (.cells (mL (ts++[g])) 27 3 false false []))
  (hn':nx1 + 1 + 1 + 1≤nx') (hB:BookI H' nx' bk j' (nodesL ts++g.nodes)) (hk:∀ id o,id < nx1 + 1 + 1 + 1→id ≠ bk→(nodesL ts ≠ []→id ≠ j)→look Hb id=some o→look H' id=some o):Rnd lo bk H0 H' nx' (nx1 + 1 + 1) j' (ts++[g]):=by
 have hn:=hg.nn
 have hlo:=h.le
 have hbl:=h.bl
 refine ⟨by omega,hbl,h.gl.snoc2 hlo hg (by omega) (by omega) (hk _ _ (by omega) (by omega) (fun h0=>by have:=(h.bi.arr h0).2.1;omega) hl) (fun i hi o ho=>?_) (fun i hi o ho=>?_),by rw [nodesL_app];simp only [nodesL,List.append_nil];exact hB,fun id o h1 h2 h3=>?_⟩
 ·have hlt:=h.gl.trs.lt i hi
  obtain ⟨rm,ks,ex,hob⟩:=h.gl.trs.obj i hi
  have hof:=h.bi.off hob
  refine hk i o (by omega) hof.1 hof.2 ?_
  rw [hb i (by omega) (fun _=>(h.gl.lo i hi).2),hg.old i hlt];exact ho
 ·have hlt:=hg.inn.lt i hi
  have hge:=hg.lo i hi
  refine hk i o (by omega) (by omega) (fun h0=>by have:=(h.bi.arr h0).2.1;omega) ?_
  rw [hb i hlt (fun hts=>by have:=(h.gl.lst hts).2.1;omega)];exact ho
 ·refine hk id o (by omega) h2 (fun h0=>by have:=(h.bi.arr h0).1;omega) ?_
  rw [hb id (by omega) (fun hts=>by have:=(h.gl.lst hts).1;omega),hg.old id (by omega)];exact h.old id o h1 h2 h3
section
variable {C:Ctx} (hm:C.P.follows .mixedOrders=true) (hC:TabOK C.P C.ng C.ts Tryz.tab)
include hm hC
theorem puts_top (hG0:C.G 0=some kidsC) (hw:PFun C 14 [] (.lit (.bool true))) (f:Fm) (nm:ByteArray) (b:Fm) (of:f.ok) (ob:b.ok) (pf:f.opsOK) (pb:b.opsOK) (hn:nm.size < 2 ^ 50):PTop C Tryz.tab 8 [fP f,.lit (.string nm),fP b] (.lit (.bool true)):=by
 have hmu:=much_ok hm hC [f,b] ⟨of,ob,trivial⟩ (by simp)
 by_cases hmm:1048576 < muchN 0 [f,b]
 ·rw [yes_t hmm] at hmu
  clear hmm
  obtain ⟨o1,n1,k1⟩:=f
  obtain ⟨o2,n2,k2⟩:=b
  simp only [SW,fC,fL,Nat.reduceAdd] at hmu
  refine PTop.body (show Tryz.tab.get 8=some Tryz.c8 from rfl) ?_
  simp only [SW,Tryz.c8,startP,Nat.reduceAdd,Nat.reduceSub,List.replicate,fP,fC]
  repeat (refine PRun.wpn rfl ?_;simp only [SW,Nat.reduceAdd])
  refine .refl (PFun.to (hw) rfl (POps.wp ?_))
  simp only [SW]
  repeat (refine PRun.wpn rfl ?_;simp only [SW,↓reduceIte,reduceCtorEq,Nat.reduceAdd])
  refine Gh.frz 2 rfl rfl rfl ?_
  simp only [SW,↓reduceIte,reduceCtorEq,Nat.reduceEqDiff]
  refine .refl (PFun.to (hmu) rfl (POps.wp ?_))
  simp only [SW]
  repeat (refine PRun.wpn rfl ?_;simp only [SW,↓reduceIte,reduceCtorEq])
  exact .refl ⟨_,rfl,.refl _⟩
 obtain ⟨s1,s2⟩:=much2 (Nat.le_of_not_lt hmm)
 rw [yes_f hmm] at hmu
 by_cases hnl:(1048576:Int) < ((nm.size:Nat):Int)
 ·clear hmm
  obtain ⟨o1,n1,k1⟩:=f
  obtain ⟨o2,n2,k2⟩:=b
  simp only [SW,fC,fL,Nat.reduceAdd] at hmu
  refine PTop.body (show Tryz.tab.get 8=some Tryz.c8 from rfl) ?_
  simp only [SW,Tryz.c8,startP,Nat.reduceAdd,Nat.reduceSub,List.replicate,fP,fC]
  repeat (refine PRun.wpn rfl ?_;simp only [SW,Nat.reduceAdd])
  refine .refl (PFun.to (hw) rfl (POps.wp ?_))
  simp only [SW]
  repeat (refine PRun.wpn rfl ?_;simp only [SW,↓reduceIte,reduceCtorEq,Nat.reduceAdd])
  refine Gh.frz 2 rfl rfl rfl ?_
  simp only [SW,↓reduceIte,reduceCtorEq,Nat.reduceEqDiff]
  refine .refl (PFun.to (hmu) rfl (POps.wp ?_))
  simp only [SW]
  repeat (refine PRun.wpn rfl ?_;simp only [SW,↓reduceIte,reduceCtorEq,ltB_t hnl])
  exact .refl ⟨_,rfl,.refl _⟩
 have hwant:=rPut_ok hm hC f b nm of ob (by omega) (by omega) (by omega)
 rw [rputE_eq] at hwant
 have hput:=treePut_m hm hC hG0 f b nm of ob pf pb (by omega) (by omega) (by omega)
 have l1:=lent_m hm hC f.size f (Nat.le_refl _) (by omega)
 have l2:=lent_m hm hC b.size b (Nat.le_refl _) (by omega)
 have w1:=whole_ok hm hC f.size f (Nat.le_refl _) (by omega)
 have w2:=whole_ok hm hC b.size b (Nat.le_refl _) (by omega)
 have hps:(putE f nm b).1.size≤1000:=putE_size f nm b
 have hsm:=same_ok hm hC _ (putE f nm b).1 (Nat.le_refl _) (by omega)
 generalize (putE f nm b).2=we at *
 generalize (putE f nm b).1=wf at *
 have hmu2:=hmu
 simp only [fL,List.append_nil] at hmu2
 clear hmm
 have hfc:=fC_len f
 have hbc:=fC_len b
 have hff:fP f = .agg (fC f):=rfl
 have hbb:fP b = .agg (fC b):=rfl
 obtain ⟨o1,n1,k1⟩:=f
 obtain ⟨o2,n2,k2⟩:=b
 simp only [SW,fC,fL,Nat.reduceAdd] at hmu
 obtain ⟨wo,wn,wk⟩:=wf
 simp only [fP,fC] at hwant l1 l2
 refine PTop.body (show Tryz.tab.get 8=some Tryz.c8 from rfl) ?_
 simp only [SW,Tryz.c8,startP,Nat.reduceAdd,Nat.reduceSub,List.replicate,fP,fC]
 repeat (refine PRun.wpn rfl ?_;simp only [SW,Nat.reduceAdd])
 refine .refl (PFun.to (hw) rfl (POps.wp ?_))
 simp only [SW]
 repeat (refine PRun.wpn rfl ?_;simp only [SW,↓reduceIte,reduceCtorEq,Nat.reduceAdd])
 refine Gh.frz 2 rfl rfl rfl ?_
 simp only [SW,↓reduceIte,reduceCtorEq,Nat.reduceEqDiff]
 refine .refl (PFun.to (hmu) rfl (POps.wp ?_))
 simp only [SW]
 repeat (refine PRun.wpn rfl ?_;simp only [SW,↓reduceIte,reduceCtorEq,ltB_f hnl])
 refine .refl (PFun.to (hwant) rfl (POps.wp ?_))
 simp only [SW,↓reduceIte,Nat.reduceAdd]
 repeat (refine PRun.wpn rfl ?_;simp only [SW,↓reduceIte,reduceCtorEq])
 refine .refl (PMk.tree l1 rfl (LendsL.pure rfl) fun ta nx1 H1 hta=>POps.wp ?_)
 obtain ⟨a0,a1,a2,hma,hmA,pa0,pa1,pa2⟩:=mC_three ta
 simp only [plainP,isCell] at pa0 pa1 pa2
 rw [hmA]
 have hnn1:=hta.nn
 have oa3:=hta.old 3 (by show 3 < 4;omega)
 have oa1:=hta.old 1 (by show 1 < 4;omega)
 have oa0:=hta.old 0 (by show 0 < 4;omega)
 have loa:=hta.lo
 simp only [look,Nat.reduceEqDiff,↓reduceIte] at oa3 oa1 oa0
 dsimp only at hnn1 loa
 have d1:¬ (1:Nat)=nx1:=by omega
 simp only [wo_n,wo_st,onN_s,ble0,pv_t,ov_nil,ov_cons,ov_int,ov_str,ov_nilS,put_some,pevN,pevE,getP,setP,spliceP,overP,plainP,isCell,look,PW.push,List.length_cons,List.length_nil,Option.map_some,Bool.and_true,↓reduceIte,ltL,lt,Nat.reduceAdd,Nat.zero_add,allPlain,PW.wr,setO,killO,Bool.false_or,List.length_cons,List.length_nil]
 simp only [pa0,pa1,pa2,wo_nil,onE_s,put_none,Option.map_some,Bool.and_true,↓reduceIte,Bool.false_eq_true,Bool.not_true]
 repeat (refine PRun.wpn rfl ?_;simp only [SW,↓reduceIte,oa1,d1])
 refine .refl (PMk.tree l2 rfl (LendsL.pure rfl) fun tb nx2 H2 htb=>POps.wp ?_)
 obtain ⟨b0,b1,b2,hmb,hmB,pb0,pb1,pb2⟩:=mC_three tb
 simp only [plainP,isCell] at pb0 pb1 pb2
 rw [hmB]
 have hnn2:=htb.nn
 dsimp only at hnn2
 have ob3:=(htb.old 3 (by show 3 < nx1 + 1;omega)).trans ((look_ne (by omega)).trans oa3)
 have ob1:=(htb.old 1 (by show 1 < nx1 + 1;omega)).trans ((look_ne (by omega)).trans oa1)
 have ob0:=(htb.old 0 (by show 0 < nx1 + 1;omega)).trans ((look_ne (by omega)).trans oa0)
 have oba:=htb.old nx1 (by show nx1 < nx1 + 1;omega)
 simp only [look,if_true] at oba
 have hia:InH H2 nx2 ta:=hta.inn.keep (by omega) fun j hj y hy=>by
  have:=hta.inn.lt j hj
  rw [htb.old j (by show j < nx1 + 1;omega)]
  exact (look_ne (by omega)).trans hy
 have lob:=htb.lo
 dsimp only at lob
 simp only [wo_n,wo_st,onN_s,ble0,pv_t,ov_nil,ov_cons,ov_int,ov_str,ov_nilS,put_some,pevN,pevE,getP,setP,spliceP,overP,plainP,isCell,look,PW.push,List.length_cons,List.length_nil,Option.map_some,Bool.and_true,↓reduceIte,ltL,lt,Nat.reduceAdd,Nat.zero_add,allPlain,PW.wr,setO,killO,Bool.false_or,List.length_cons,List.length_nil]
 simp only [pb0,pb1,pb2,wo_nil,onE_s,put_none,Option.map_some,Bool.and_true,↓reduceIte,Bool.false_eq_true,Bool.not_true]
 repeat (refine PRun.wpn rfl ?_;simp only [SW,↓reduceIte,reduceCtorEq])
 generalize hH0:((nx2 + 1,PObj.cells [.lit (.slice none 0 0),.lit (.slice none 0 0),.lit (.slice none 0 0),.lit (.slice none 0 0),.lit (.slice none 0 0),.lit (.slice none 0 0),.lit (.slice none 0 0),.lit (.slice none 0 0),.lit (.slice none 0 0),.lit (.slice none 0 0),.lit (.slice none 0 0),.lit (.slice none 0 0),.lit (.slice none 0 0)] 51 13 true false [])::(nx2,PObj.cells [b0,b1,b2] 27 3 true false [])::H2)=H0
 have qk3:=(look_eq hH0).trans ((look_ne (by omega)).trans ((look_ne (by omega)).trans ob3))
 have qk1:=(look_eq hH0).trans ((look_ne (by omega)).trans ((look_ne (by omega)).trans ob1))
 have qk0:=(look_eq hH0).trans ((look_ne (by omega)).trans ((look_ne (by omega)).trans ob0))
 have qka:=(look_eq hH0).trans ((look_ne (by omega)).trans ((look_ne (by omega)).trans oba))
 have qkb:look H0 nx2=some (.cells [b0,b1,b2] 27 3 true false []):=by rw [← hH0,look_ne (by omega)];simp only [look,if_true]
 have qkk:=(look_eq hH0).trans look_self'
 have hia0:InH H0 (nx2 + 1 + 1) ta:=hia.keep (by omega) fun j hj y hy=>by
  have:=hia.lt j hj
  rw [← hH0,look_ne (by omega),look_ne (by omega)];exact hy
 have hib0:InH H0 (nx2 + 1 + 1) tb:=htb.inn.keep (by omega) fun j hj y hy=>by
  have:=htb.inn.lt j hj
  rw [← hH0,look_ne (by omega),look_ne (by omega)];exact hy
 refine PRun.gh (Gh.mask mkPuD11 ?_)
 simp only [mkPuD11,↓reduceIte,Bool.false_eq_true,maskP]
 refine PRun.loopG (fun m t π=>∃ (i nx lid j:Nat) (H:List (Nat × PObj)) (ts:List Mt),t=(.junk::.lit (.string nm)::.junk::.ptr 0 0::.junk::.ptr 1 0::.junk::.lit (.bool true)::.junk::.ptr 3 0::.lit (.int .i64 we)::.ptr nx1 0::.ptr nx2 0::.ptr (nx2 + 1) 0::slt false lid i::.lit (.int .i64 (i:Nat))::.junk::.junk::.junk::.junk::.junk::.junk::.junk::.junk::.junk::.junk::.junk::.junk::.junk::.junk::.junk::.junk::.junk::.junk::.junk::.junk::.junk::.junk::.junk::.junk::.junk::.junk::.junk::.junk::.junk::.junk::.junk::.junk::.junk::.junk::.junk::.junk::.junk::.junk::.junk::.junk::.junk::.junk::.junk::.junk::.junk::.junk::.junk::.junk::.junk::.junk::.junk::.junk::.junk::.junk::.junk::.junk::.junk::.junk::.junk::.junk::.junk::.junk::.junk::.junk::.junk::.junk::.junk::.junk::.junk::.junk::.junk::.junk::.junk::.junk::.junk::.junk::.junk::.junk::.junk::.junk::.junk::.junk::.junk::.junk::.junk::.junk::.junk::[])∧i≤2∧m=2 - i∧π=⟨nx,H⟩∧ts.length=i∧(∀ t∈ts,t.fm = .mk wo wn wk)∧Rnd (nx2 + 1 + 1) (nx2 + 1) H0 H nx lid j ts) ?_ 2 _ _ ⟨0,nx2 + 1 + 1,0,0,H0,[],rfl,by omega,rfl,rfl,rfl,fun t h=>by simp at h,⟨by omega,rfl,.nil _ _ _ _,.empty (by omega) qkk,fun _ _ _ _ h=>h⟩⟩
 rintro m t π ⟨i,nx,lid,j,H,ts,rfl,hi,rfl,rfl,htl,hfm,hR⟩
 have hle:=hR.le
 have r3:=hR.old 3 _ (by omega) (by omega) qk3
 have r1:=hR.old 1 _ (by omega) (by omega) qk1
 have r0:=hR.old 0 _ (by omega) (by omega) qk0
 have ra:=hR.old nx1 _ (by omega) (by omega) qka
 have rb:=hR.old nx2 _ (by omega) (by omega) qkb
 have hina:InH H nx ta:=hia0.keep hle fun j hj y hy=>by
  have h1:=hia.lt j hj
  exact hR.old j y (by omega) (by omega) hy
 have hinb:InH H nx tb:=hib0.keep hle fun j hj y hy=>by
  have h1:=htb.inn.lt j hj
  exact hR.old j y (by omega) (by omega) hy
 by_cases hlt:(i:Int) < 2
 ·have w1:IntKind.i64.wrap (((i:Nat):Int) + 1)=((i + 1:Nat):Int):=by rw [wrap64 (by omega) (by omega)];omega
  have hlends:LendsL ⟨nx,H⟩ [.agg [a0,a1,a2],.lit (.string nm),.agg [b0,b1,b2]] [fP (.mk o1 n1 k1),.lit (.string nm),fP (.mk o2 n2 k2)]:=by
   rw [← hmA,← hmB,← hta.fm,← htb.fm]
   exact .cons (lends_mtP hina) (.cons (.pure rfl) (.cons (lends_mtP hinb) .nil))
  by_cases hi0:i=0
  ·rw [hi0,slt0]
   have hts0:ts=[]:=List.length_eq_zero_iff.1 (by omega)
   rw [hi0] at hlt w1
   repeat (refine PRun.wpn rfl ?_;simp only [SW,↓reduceIte,ra,rb])
   refine .refl (PMk.treeE (π:=⟨nx,H⟩) hput rfl hlends fun g nx3 H3 hg=>POps.wp ?_)
   obtain ⟨g0,g1,g2,hmg,hmG,pg0,pg1,pg2⟩:=mC_three g
   simp only [plainP,isCell] at pg0 pg1 pg2
   rw [hmG]
   simp only [wo_p,wo_n,wo_st,onO_s,onN_s,ble0,pv_t,ov_nil,ov_cons,ov_int,ov_str,ov_nilS,put_some,pevP,pevN,pevE,getP,setP,spliceP,overP,plainP,isCell,look,PW.push,nthP,List.length_cons,List.length_nil,Option.map_some,Bool.and_true,↓reduceIte,ltL,lt,Nat.reduceAdd,Nat.zero_add,allPlain,PW.wr,setO,killO,Bool.false_or,List.length_cons,List.length_nil]
   simp only [pg0,pg1,pg2,wo_nil,wo_p,onO_s,onE_s,pv_t,put_some,put_none,pevP,getP,setP,Option.map_some,Bool.and_true,↓reduceIte,Bool.false_eq_true,Bool.not_true]
   have hnn:=hg.nn
   dsimp only at hnn
   have e1:¬ nx3=nx3 + 1 + 1:=by omega
   have e2:¬ nx3=nx3 + 1:=by omega
   repeat (refine PRun.wpn rfl ?_;simp only [wp,wo_nil,wo_p,wo_r,wo_n,wo_append,onO_s,onN_s,ble0,pv_t,ov_nil,ov_cons,ov_int,ov_str,ov_nilS,put_some,bi_neq,pevP,pevR,pevN,pevE,getP,setP,lenP,srcP,appendP,fillP,spliceP,overP,plainP,isCell,look,PW.cs?,PW.push,cut0,cutS,List.length_cons,List.length_nil,List.drop_zero,Option.map_some,Option.bind_some,Nat.mul_one,Bool.and_true,↓reduceIte,ltL,lt,Nat.reduceAdd,Nat.reduceMul,Nat.reduceLeDiff,Nat.reduceLT,Bool.false_eq_true,Nat.zero_add,allPlain,List.length_cons,List.length_nil,gt_iff_lt,neB_f (show we=we from rfl)])
   simp only [pg0,pg1,pg2,wo_nil,wo_p,onO_s,onE_s,pv_t,put_some,pevP,getP,setP,Bool.and_true,↓reduceIte,Bool.false_eq_true,Bool.or_self,Bool.not_true,bne_self_eq_false]
   repeat (refine PRun.wpn rfl ?_;simp only [wp,wo_p,wo_r,wo_call,onO_s,pv_t,put_some,pevP,pevR,getP,setP,evsP,look,PW.cs?,cut0,cutS,List.drop_zero,Option.map_some,Option.bind_some,Nat.zero_le,true_and,↓reduceIte,e1,e2])
   have hcall:∀ Hb,(∀ id,id < nx3→(ts ≠ []→id ≠ lid)→look Hb id=look H3 id)→PToB C (nx3 + 1 + 1 + 1) 37 [.ptr (nx2 + 1) 0,.agg [g0,g1,g2]] ⟨nx3 + 1 + 1 + 1,Hb⟩ (BkPost (nx3 + 1 + 1 + 1) (nx2 + 1) j (nodesL ts) g.nodes Hb):=fun Hb hb=>by
    obtain ⟨B1,B2,B3⟩:=hR.bookB hg hb
    have:=book_m hm hC (nx2 + 1) g.fm.size g (Nat.le_refl _) (by rw [hg.fm];omega) hg.rm _ Hb j _ B1 (by rw [nodesL_size,sizes_all hfm,htl,hg.fm];have:i * (Fm.mk wo wn wk).size≤2 * 1000:=Nat.mul_le_mul (by omega) hps;omega) B2 hg.nd B3
    rwa [hmG] at this
   obtain ⟨ng0,ng1,ng2⟩:=nm_three hg.inn (nx':=nx3 + 1 + 1 + 1) (by omega) hmg
   obtain ⟨na0,na1,na2⟩:=nm_three hina (nx':=nx3 + 1 + 1 + 1) (by show nx≤_;omega) hma
   obtain ⟨nb0,nb1,nb2⟩:=nm_three hinb (nx':=nx3 + 1 + 1 + 1) (by show nx≤_;omega) hmb
   have z0:Nat.blt 0 (nx3 + 1 + 1 + 1)=true:=blt_t (by omega)
   have z1:Nat.blt 1 (nx3 + 1 + 1 + 1)=true:=blt_t (by omega)
   have z3:Nat.blt 3 (nx3 + 1 + 1 + 1)=true:=blt_t (by omega)
   have za:Nat.blt nx1 (nx3 + 1 + 1 + 1)=true:=blt_t (by omega)
   have zb:Nat.blt nx2 (nx3 + 1 + 1 + 1)=true:=blt_t (by omega)
   have zk:Nat.blt (nx2 + 1) (nx3 + 1 + 1 + 1)=true:=blt_t (by omega)
   have zg:Nat.blt nx3 (nx3 + 1 + 1 + 1)=true:=blt_t (by omega)
   have zh:Nat.blt (nx3 + 1) (nx3 + 1 + 1 + 1)=true:=blt_t (by omega)
   have zl:Nat.blt (nx3 + 1 + 1) (nx3 + 1 + 1 + 1)=true:=blt_t (by omega)
   have hb:∀ id,id < nx3→(ts ≠ []→id ≠ lid)→look ((nx3 + 1 + 1,PObj.cells [g0,g1,g2] 27 3 false false [])::(nx3 + 1,PObj.cells [g0,g1,g2] 27 3 true false [])::(nx3,PObj.cells [g0,g1,g2] 27 3 true false [])::H3) id=look H3 id:=fun id h1 _=>by rw [look_ne (by omega),look_ne (by omega),look_ne (by omega)]
   refine .refl (PToE.mono (PToB.toE (hcall _ hb) (by simp only [nmL,nm_ptr,nm_agg,nm_tup,nm_junk,nm_loc,nm_lit,ng0,ng1,ng2,na0,na1,na2,nb0,nb1,nb2,z0,z1,z3,za,zb,zk,zg,zh,zl,Bool.and_self]) (by omega)) ?_)
   rintro r ⟨nx4,H4⟩ ⟨rfl,g4,j4,g5,g6,g7⟩
   dsimp only at g4 g5 g6 g7
   have hR':=hR.next hg hb (by rw [mL_app];simp only [mL,hmg,List.append_nil,hts0,List.nil_append];exact look_self') g4 g6 g7
   refine POps.wp ?_
   simp only [wo_nil,setP,tupP]
   repeat (refine PRun.wpn rfl ?_;simp only [SW,(show IntKind.i64.wrap (0 + 1)=1 from rfl)])
   refine Gh.mask mkPuD11 ?_
   refine ⟨1,by omega,1,nx4,nx3 + 1 + 1,j4,H4,ts++[g],rfl,by omega,rfl,rfl,by rw [List.length_append,htl,hi0];rfl,fun t ht=>?_,hR'⟩
   rcases List.mem_append.1 ht with ht | ht
   ·exact hfm t ht
   ·rw [List.mem_singleton.1 ht];exact hg.fm
  ·rw [sltN hi0]
   have hi1:i=1:=by omega
   have hts0:ts ≠ []:=fun e=>by rw [e] at htl;simp at htl;omega
   obtain ⟨l1',l2',l3⟩:=hR.gl.lst hts0
   have hq3:(mL ts).length=i * 3:=by rw [mL_len,htl]
   have q4:=cut_all hq3
   have q1:¬ i + 1≤i:=by omega
   have q2:¬ 140737488355328 < (2 * (i + 1) + 768) * 48:=by omega
   repeat (refine PRun.wpn rfl ?_;simp only [SW,↓reduceIte,ltB_t hlt,ra,rb])
   refine .refl (PMk.treeE (π:=⟨nx,H⟩) hput rfl hlends fun g nx3 H3 hg=>POps.wp ?_)
   obtain ⟨g0,g1,g2,hmg,hmG,pg0,pg1,pg2⟩:=mC_three g
   simp only [plainP,isCell] at pg0 pg1 pg2
   rw [hmG]
   simp only [wo_p,wo_n,wo_st,onO_s,onN_s,ble0,pv_t,ov_nil,ov_cons,ov_int,ov_str,ov_nilS,put_some,pevP,pevN,pevE,getP,setP,spliceP,overP,plainP,isCell,look,PW.push,nthP,List.length_cons,List.length_nil,Option.map_some,Bool.and_true,↓reduceIte,ltL,lt,Nat.reduceAdd,Nat.zero_add,allPlain,PW.wr,setO,killO,Bool.false_or,List.length_cons,List.length_nil]
   simp only [pg0,pg1,pg2,wo_nil,wo_p,onO_s,onE_s,pv_t,put_some,put_none,pevP,getP,setP,Option.map_some,Bool.and_true,↓reduceIte,Bool.false_eq_true,Bool.not_true]
   have hnn:=hg.nn
   dsimp only at hnn
   have e1:¬ nx3=nx3 + 1 + 1:=by omega
   have e2:¬ nx3=nx3 + 1:=by omega
   have l4:=(hg.old lid (by show lid < nx;omega)).trans l3
   have e3:¬ lid=nx3:=by omega
   have e4:¬ lid=nx3 + 1:=by omega
   repeat (refine PRun.wpn rfl ?_;simp only [wp,wo_nil,wo_p,wo_r,wo_n,wo_append,onO_s,onN_s,ble0,pv_t,ov_nil,ov_cons,ov_int,ov_str,ov_nilS,put_some,bi_neq,pevP,pevR,pevN,pevE,getP,setP,lenP,srcP,appendP,fillP,spliceP,overP,plainP,isCell,look,PW.cs?,PW.push,cut0,cutS,List.length_cons,List.length_nil,List.drop_zero,Option.map_some,Option.bind_some,Bool.and_true,↓reduceIte,ltL,lt,Nat.reduceAdd,Nat.reduceMul,Bool.false_eq_true,Nat.zero_add,allPlain,setO,Bool.false_or,List.length_cons,List.length_nil,gt_iff_lt,neB_f (show we=we from rfl),e3,e4,l4,q1,q2,hq3,q4])
   simp only [pg0,pg1,pg2,wo_nil,wo_p,onO_s,onE_s,pv_t,put_some,pevP,getP,setP,Bool.and_true,↓reduceIte,Bool.false_eq_true,Bool.or_self,Bool.not_true,bne_self_eq_false]
   repeat (refine PRun.wpn rfl ?_;simp only [wp,wo_p,wo_r,wo_call,onO_s,pv_t,put_some,pevP,pevR,getP,setP,evsP,look,PW.cs?,cut0,cutS,List.drop_zero,Option.map_some,Option.bind_some,Nat.zero_le,true_and,↓reduceIte,e1,e2])
   have hcall:∀ Hb,(∀ id,id < nx3→(ts ≠ []→id ≠ lid)→look Hb id=look H3 id)→PToB C (nx3 + 1 + 1 + 1) 37 [.ptr (nx2 + 1) 0,.agg [g0,g1,g2]] ⟨nx3 + 1 + 1 + 1,Hb⟩ (BkPost (nx3 + 1 + 1 + 1) (nx2 + 1) j (nodesL ts) g.nodes Hb):=fun Hb hb=>by
    obtain ⟨B1,B2,B3⟩:=hR.bookB hg hb
    have:=book_m hm hC (nx2 + 1) g.fm.size g (Nat.le_refl _) (by rw [hg.fm];omega) hg.rm _ Hb j _ B1 (by rw [nodesL_size,sizes_all hfm,htl,hg.fm];have:i * (Fm.mk wo wn wk).size≤2 * 1000:=Nat.mul_le_mul (by omega) hps;omega) B2 hg.nd B3
    rwa [hmG] at this
   obtain ⟨ng0,ng1,ng2⟩:=nm_three hg.inn (nx':=nx3 + 1 + 1 + 1) (by omega) hmg
   obtain ⟨na0,na1,na2⟩:=nm_three hina (nx':=nx3 + 1 + 1 + 1) (by show nx≤_;omega) hma
   obtain ⟨nb0,nb1,nb2⟩:=nm_three hinb (nx':=nx3 + 1 + 1 + 1) (by show nx≤_;omega) hmb
   have z0:Nat.blt 0 (nx3 + 1 + 1 + 1)=true:=blt_t (by omega)
   have z1:Nat.blt 1 (nx3 + 1 + 1 + 1)=true:=blt_t (by omega)
   have z3:Nat.blt 3 (nx3 + 1 + 1 + 1)=true:=blt_t (by omega)
   have za:Nat.blt nx1 (nx3 + 1 + 1 + 1)=true:=blt_t (by omega)
   have zb:Nat.blt nx2 (nx3 + 1 + 1 + 1)=true:=blt_t (by omega)
   have zk:Nat.blt (nx2 + 1) (nx3 + 1 + 1 + 1)=true:=blt_t (by omega)
   have zg:Nat.blt nx3 (nx3 + 1 + 1 + 1)=true:=blt_t (by omega)
   have zh:Nat.blt (nx3 + 1) (nx3 + 1 + 1 + 1)=true:=blt_t (by omega)
   have zl:Nat.blt (nx3 + 1 + 1) (nx3 + 1 + 1 + 1)=true:=blt_t (by omega)
   have zo:Nat.blt lid (nx3 + 1 + 1 + 1)=true:=blt_t (by omega)
   have hb:∀ id,id < nx3→(ts ≠ []→id ≠ lid)→look ((nx3 + 1 + 1,PObj.cells (mL ts++[g0,g1,g2]) 27 3 false false [])::dropO lid ((nx3 + 1,PObj.cells [g0,g1,g2] 27 3 true false [])::(nx3,PObj.cells [g0,g1,g2] 27 3 true false [])::setO H3 lid (PObj.cells (mL ts) 27 3 false true []))) id=look H3 id:=fun id h1 h2=>by rw [look_ne (by omega),dropO_ne (h2 hts0),look_ne (by omega),look_ne (by omega),look_setO,if_neg (h2 hts0)]
   refine Gh.retire (by omega) (.refl (PToE.mono (PToB.toE (hcall _ hb) (by simp only [nmL,nm_ptr,nm_agg,nm_tup,nm_junk,nm_loc,nm_lit,ng0,ng1,ng2,na0,na1,na2,nb0,nb1,nb2,z0,z1,z3,za,zb,zk,zg,zh,zl,zo,Bool.and_self]) (by omega)) ?_))
   rintro r ⟨nx4,H4⟩ ⟨rfl,g4,j4,g5,g6,g7⟩
   dsimp only at g4 g5 g6 g7
   have hR':=hR.next hg hb (by rw [mL_app];simp only [mL,hmg,List.append_nil];exact look_self') g4 g6 g7
   refine POps.wp ?_
   simp only [wo_nil,setP,tupP]
   repeat (refine PRun.wpn rfl ?_;simp only [SW,w1])
   refine Gh.mask mkPuD11 ?_
   refine ⟨2 - (i + 1),by omega,i + 1,nx4,nx3 + 1 + 1,j4,H4,ts++[g],by rw [sltN (by omega)];rfl,by omega,rfl,rfl,by rw [List.length_append,htl];rfl,fun t ht=>?_,hR'⟩
   rcases List.mem_append.1 ht with ht | ht
   ·exact hfm t ht
   ·rw [List.mem_singleton.1 ht];exact hg.fm
 ·have hi2:i=2:=by omega
  have hts0:ts ≠ []:=fun e=>by rw [e] at htl;simp at htl;omega
  obtain ⟨l1',l2',l3⟩:=hR.gl.lst hts0
  have hne2:i ≠ 0:=by omega
  rw [sltN hne2,hi2]
  obtain ⟨t0,ht0⟩:∃ t0,ts[0]? = some t0:=⟨ts[0]'(by omega),List.getElem?_eq_getElem (by omega)⟩
  obtain ⟨t1,ht1⟩:∃ t1,ts[1]? = some t1:=⟨ts[1]'(by omega),List.getElem?_eq_getElem (by omega)⟩
  have hf0:=hfm t0 (List.mem_of_getElem? ht0)
  have hf1:=hfm t1 (List.mem_of_getElem? ht1)
  have hbi:=hR.bi
  have hgl:=hR.gl
  have hle1:=hta.lo
  have hle2:=htb.lo
  dsimp only at hle1 hle2
  have hla:LendsL ⟨nx,H⟩ [.agg [a0,a1,a2],.agg [.lit (.int .u8 (o1:Nat)),.lit (.string n1),.sz (fL k1) k1.length]] [lP (.mk o1 n1 k1),fP (.mk o1 n1 k1)]:=by
   have h1:=lends_mtPl (π:=⟨nx,H⟩) hta.rm hina
   rw [hmA,hta.fm] at h1
   exact .cons h1 (.cons (.pure rfl) .nil)
  have hlb:LendsL ⟨nx,H⟩ [.agg [b0,b1,b2],.agg [.lit (.int .u8 (o2:Nat)),.lit (.string n2),.sz (fL k2) k2.length]] [lP (.mk o2 n2 k2),fP (.mk o2 n2 k2)]:=by
   have h1:=lends_mtPl (π:=⟨nx,H⟩) htb.rm hinb
   rw [hmB,htb.fm] at h1
   exact .cons h1 (.cons (.pure rfl) .nil)
  repeat (refine PRun.wpn rfl ?_;simp only [SW,↓reduceIte,Nat.reduceSub,ltB_f (show ¬ (2:Int) < 2 by omega),ra,r0])
  refine .refl (PFun.lendA w1 (by simp only [lP,lC,fP,fC,pureL,pureP,Bool.and_self]) hla (POps.wp ?_))
  simp only [SW,rb,r1]
  refine .refl (PFun.lendA w2 (by simp only [lP,lC,fP,fC,pureL,pureP,Bool.and_self]) hlb (POps.wp ?_))
  simp only [SW]
  repeat (refine PRun.wpn rfl ?_;simp only [SW,ra])
  obtain ⟨na0,na1,na2⟩:=nm_three hina (nx':=nx) (Nat.le_refl _) hma
  obtain ⟨nb0,nb1,nb2⟩:=nm_three hinb (nx':=nx) (Nat.le_refl _) hmb
  have z0:Nat.blt 0 nx=true:=blt_t (by omega)
  have z1:Nat.blt 1 nx=true:=blt_t (by omega)
  have z3:Nat.blt 3 nx=true:=blt_t (by omega)
  have za:Nat.blt nx1 nx=true:=blt_t (by omega)
  have zb:Nat.blt nx2 nx=true:=blt_t (by omega)
  have zk:Nat.blt (nx2 + 1) nx=true:=blt_t (by omega)
  have zl:Nat.blt lid nx=true:=blt_t (by omega)
  have hsa:=spoil_m hm hC ta.fm.size ta (Nat.le_refl _) (by rw [hta.fm];omega) hta.rm nx H hina hta.nd
  rw [hmA] at hsa
  refine .refl (PToE.mono (PToB.toE hsa (by simp only [nmL,nm_ptr,nm_agg,nm_junk,nm_loc,nm_lit,nm_sz,na0,na1,na2,nb0,nb1,nb2,z0,z1,z3,za,zb,zk,zl,Bool.and_self]) (Nat.zero_le _)) ?_)
  rintro r ⟨nx5,H5⟩ ⟨rfl,g1,g2,g3⟩
  dsimp only at g1 g2 g3
  have hta_lt:=hta.inn.lt
  have htb_lt:=htb.inn.lt
  have rb5:=(g2 nx2 (by omega) (fun h=>by have:=hta_lt _ h;omega)).trans rb
  have r35:=(g2 3 (by omega) (fun h=>by have:=hle1 _ h;omega)).trans r3
  have hinb5:InH H5 nx5 tb:=hinb.keep g1 fun j hj y hy=>by
   have h1:=hle2 j hj
   have h2:=htb_lt j hj
   rw [g2 j (by omega) (fun h=>by have:=hta_lt _ h;omega)];exact hy
  have hgl5:=hgl.keep g1 (H':=H5) fun j y h1 h2 h3=>by
   rw [g2 j h2 (fun h=>by have:=hta_lt _ h;omega)];exact h3
  have hbi5:=hbi.keep2 g1 (H':=H5) fun j y h1 h2 h3=>by
   rw [g2 j h1 (fun h=>by
    have:=hta_lt _ h
    rcases h2 with rfl | ⟨h2,rfl⟩ | ⟨q,hq,h0,rfl⟩
    ·omega
    ·have:=(hbi.arr h2).1;omega
    ·have:=(hgl.lo _ (nodesL_ids hq h0)).1;omega)];exact h3
  refine POps.wp ?_
  simp only [wo_nil,setP,tupP]
  repeat (refine PRun.wpn rfl ?_;simp only [SW,rb5])
  have hsb:=spoil_m hm hC tb.fm.size tb (Nat.le_refl _) (by rw [htb.fm];omega) htb.rm nx5 H5 hinb5 htb.nd
  rw [hmB] at hsb
  obtain ⟨na0,na1,na2⟩:=nm_three hina (nx':=nx5) g1 hma
  obtain ⟨nb0,nb1,nb2⟩:=nm_three hinb5 (nx':=nx5) (Nat.le_refl _) hmb
  have z0:Nat.blt 0 nx5=true:=blt_t (by omega)
  have z1:Nat.blt 1 nx5=true:=blt_t (by omega)
  have z3:Nat.blt 3 nx5=true:=blt_t (by omega)
  have za:Nat.blt nx1 nx5=true:=blt_t (by omega)
  have zb:Nat.blt nx2 nx5=true:=blt_t (by omega)
  have zk:Nat.blt (nx2 + 1) nx5=true:=blt_t (by omega)
  have zl:Nat.blt lid nx5=true:=blt_t (by omega)
  refine .refl (PToE.mono (PToB.toE hsb (by simp only [nmL,nm_ptr,nm_agg,nm_tup,nm_junk,nm_loc,nm_lit,nm_sz,na0,na1,na2,nb0,nb1,nb2,z0,z1,z3,za,zb,zk,zl,Bool.and_self]) (Nat.zero_le _)) ?_)
  rintro r ⟨nx6,H6⟩ ⟨rfl,e1,e2,e3⟩
  dsimp only at e1 e2 e3
  have htb_lt5:=hinb5.lt
  have r36:=(e2 3 (by omega) (fun h=>by have:=hle2 _ h;omega)).trans r35
  have hgl6:=hgl5.keep e1 (H':=H6) fun j y h1 h2 h3=>by
   rw [e2 j h2 (fun h=>by have:=htb_lt _ h;omega)];exact h3
  have hbi6:=hbi5.keep2 e1 (H':=H6) fun j y h1 h2 h3=>by
   rw [e2 j h1 (fun h=>by
    have:=htb_lt _ h
    rcases h2 with rfl | ⟨h2,rfl⟩ | ⟨q,hq,h0,rfl⟩
    ·omega
    ·have:=(hbi.arr h2).1;omega
    ·have:=(hgl.lo _ (nodesL_ids hq h0)).1;omega)];exact h3
  obtain ⟨_,l26,l36⟩:=hgl6.lst hts0
  have hin0:=inL_get hgl6.trs ht0
  have hin1:=inL_get hgl6.trs ht1
  obtain ⟨x0,x1,x2,hmx,hmX,_,_,_⟩:=mC_three t0
  obtain ⟨y0,y1,y2,hmy,hmY,_,_,_⟩:=mC_three t1
  have hc0:cutP 3 (mL ts)=some [x0,x1,x2]:=by
   have:=mL_cut (ext:=[]) ht0
   rwa [List.append_nil,Nat.zero_mul,List.drop_zero,hmx] at this
  have hc1:cutP 3 ((mL ts).drop 3)=some [y0,y1,y2]:=by
   have:=mL_cut (ext:=[]) ht1
   rwa [List.append_nil,Nat.one_mul,hmy] at this
  have hl0:LendsL ⟨nx6,H6⟩ [.agg [x0,x1,x2],.agg [.lit (.int .u8 (wo:Nat)),.lit (.string wn),.sz (fL wk) wk.length]] [fP (.mk wo wn wk),fP (.mk wo wn wk)]:=by
   have h1:=lends_mtP (π:=⟨nx6,H6⟩) hin0
   rw [hmX,hf0] at h1
   exact .cons h1 (.cons (.pure rfl) .nil)
  have hl1:LendsL ⟨nx6,H6⟩ [.agg [y0,y1,y2],.agg [.lit (.int .u8 (wo:Nat)),.lit (.string wn),.sz (fL wk) wk.length]] [fP (.mk wo wn wk),fP (.mk wo wn wk)]:=by
   have h1:=lends_mtP (π:=⟨nx6,H6⟩) hin1
   rw [hmY,hf1] at h1
   exact .cons h1 (.cons (.pure rfl) .nil)
  have q3:=ltN_t (show 3 < nx6 by omega)
  have ql:=ltN_t l26
  refine POps.wp ?_
  simp only [wo_nil,setP,tupP]
  repeat (refine PRun.wpn rfl ?_;simp only [wp])
  refine PDraw.stage (Nat.zero_le _) rfl ?_
  have i02:(0:Int) < 2:=by decide
  have i12:(1:Int) < 2:=by decide
  have i01:(0:Int)≤1:=by decide
  try dsimp only
  simp only [SW,↓reduceIte,Nat.reduceAdd,Nat.reduceMul,l36,r36,hc0,q3,ql,i02]
  refine PDE.lent hsm (by simp only [fP,fC,pureL,pureP,Bool.and_self]) (Gh.lends hl0) ?_
  refine PDraw.last (Nat.zero_le _) rfl ?_
  try dsimp only
  simp only [SW]
  repeat (refine PRun.wpn rfl ?_;simp only [wp])
  refine PDraw.stage (Nat.zero_le _) rfl ?_
  try dsimp only
  simp only [SW,↓reduceIte,Nat.reduceAdd,Nat.reduceMul,l36,r36,hc1,q3,ql,i12,i01]
  refine PDE.lent hsm (by simp only [fP,fC,pureL,pureP,Bool.and_self]) (Gh.lends hl1) ?_
  refine PDraw.last (Nat.zero_le _) rfl ?_
  try dsimp only
  simp only [SW]
  repeat (refine PRun.wpn rfl ?_;simp only [SW])
  have hps2:nodesL ts ≠ []:=fun e=>by
   have:=nodesL_size ts
   rw [e,sizes_all hfm,htl,hi2] at this
   have hw0:=(Fm.mk wo wn wk).size_pos
   simp only [List.length_nil] at this
   omega
  have hown:=book_own_g hm hC (nx2 + 1) nx6 j (nodesL ts) H6 hbi6 hps2 (by
   rw [nodesL_size,sizes_all hfm,htl]
   have:i * (Fm.mk wo wn wk).size≤2 * 1000:=Nat.mul_le_mul (by omega) hps
   omega)
  obtain ⟨na0,na1,na2⟩:=nm_three hina (nx':=nx6) (by show nx≤_;omega) hma
  obtain ⟨nb0,nb1,nb2⟩:=nm_three hinb (nx':=nx6) (by show nx≤_;omega) hmb
  obtain ⟨nx0',nx1',nx2'⟩:=nm_three hin0 (nx':=nx6) (Nat.le_refl _) hmx
  obtain ⟨ny0',ny1',ny2'⟩:=nm_three hin1 (nx':=nx6) (Nat.le_refl _) hmy
  have z0:Nat.blt 0 nx6=true:=blt_t (by omega)
  have z1:Nat.blt 1 nx6=true:=blt_t (by omega)
  have z3:Nat.blt 3 nx6=true:=blt_t (by omega)
  have za:Nat.blt nx1 nx6=true:=blt_t (by omega)
  have zb:Nat.blt nx2 nx6=true:=blt_t (by omega)
  have zk:Nat.blt (nx2 + 1) nx6=true:=blt_t (by omega)
  have zl:Nat.blt lid nx6=true:=blt_t (by omega)
  refine .refl (PToE.mono (PToB.toE hown (by simp only [nmL,nm_ptr,nm_agg,nm_tup,nm_junk,nm_loc,nm_lit,nm_sz,na0,na1,na2,nb0,nb1,nb2,nx0',nx1',nx2',ny0',ny1',ny2',z0,z1,z3,za,zb,zk,zl,Bool.and_self]) (Nat.zero_le _)) ?_)
  rintro r π' rfl
  refine POps.wp ?_
  simp only [SW]
  repeat (refine PRun.wpn rfl ?_;simp only [wp,or_true,true_and,reduceCtorEq])
  exact .refl ⟨_,rfl,.refl _⟩
end
end Go.Proofs.YtnpoloachkcadaaGreatDoor.Ai
