/- A PART OF THE PROOF: a step of the proof that the law's code does what its contracts say, by an interpreter of the program's functions that is proved to be sound. -/
import Derived.Test.YtnpoloachkcadaaGreatDoorPv4
import Derived.Test.YtnpoloachkcadaaGreatDoorPuA
import Derived.Test.YtnpoloachkcadaaGreatDoorPuB
import Derived.Test.YtnpoloachkcadaaGreatDoorPuC
import Derived.Lib.ItoaLen
namespace Go.Proofs.YtnpoloachkcadaaGreatDoor.Ai
set_option linter.unusedSimpArgs false
open Go
set_option linter.unusedVariables false
set_option linter.unusedSectionVars false
set_option maxRecDepth 10000
set_option maxHeartbeats 1000000
def mkPuD1:List Bool:=(true::false::false::true::false::false::false::false::false::false::false::false::false::false::false::false::false::false::false::false::false::false::false::false::false::false::false::false::false::false::false::false::false::false::false::false::false::false::false::false::[])
def mkPuD2:List Bool:=(false::true::true::false::false::true::true::true::false::false::false::false::false::false::false::false::false::false::false::false::false::false::false::false::false::false::false::false::false::false::false::false::false::false::false::false::false::false::false::false::false::false::false::false::false::false::false::false::false::false::false::false::false::false::false::false::false::false::false::false::false::false::false::false::false::false::false::false::false::false::false::false::false::false::false::false::false::false::false::false::false::false::false::false::[])
def mkPuD3:List Bool:=(false::true::true::false::false::true::false::false::false::true::false::false::false::false::false::false::false::false::false::false::false::false::false::false::false::false::false::false::false::false::false::false::false::false::false::false::false::false::false::false::false::false::false::false::false::false::false::false::false::false::false::false::false::false::false::false::false::false::false::false::false::false::false::false::false::false::false::false::false::false::false::false::false::false::false::false::false::false::false::false::false::false::false::false::[])
def mkPuD4:List Bool:=(false::true::true::true::true::false::false::false::false::false::false::false::false::false::false::false::false::false::false::false::false::false::false::false::false::false::false::false::false::[])
def mkPuD5:List Bool:=(false::true::true::true::false::false::true::false::true::true::false::false::false::false::false::false::false::false::false::false::false::false::false::false::false::false::false::false::false::false::false::false::false::false::false::false::false::false::false::false::false::false::false::false::false::false::false::false::false::false::false::false::[])
theorem eqB_nat (o j:Nat):eqB ((o:Nat):Int) ((j:Nat):Int)=(o == j):=by
 by_cases h:o=j
 ·rw [eqB_t (by omega)];simp [h]
 ·rw [eqB_f (by omega)];simp [h]
def rk (o:Nat):Int:=if o < 22 then kt.getD o 0 else -1
section
variable {C:Ctx} (hm:C.P.follows .mixedOrders=true) (hC:TabOK C.P C.ng C.ts Tryz.tab)
include hm hC
theorem rkids_ok (o:Nat):PFun C 126 [.lit (.int .u8 (o:Nat))] (.lit (.int .i64 (rk o))):=by
 have e1:eqB (o:Nat) 1=(o == 1):=eqB_nat o 1
 have e2:eqB (o:Nat) 2=(o == 2):=eqB_nat o 2
 have e3:eqB (o:Nat) 3=(o == 3):=eqB_nat o 3
 have e4:eqB (o:Nat) 4=(o == 4):=eqB_nat o 4
 have e5:eqB (o:Nat) 5=(o == 5):=eqB_nat o 5
 have e6:eqB (o:Nat) 6=(o == 6):=eqB_nat o 6
 have e7:eqB (o:Nat) 7=(o == 7):=eqB_nat o 7
 have e8:eqB (o:Nat) 8=(o == 8):=eqB_nat o 8
 have e9:eqB (o:Nat) 9=(o == 9):=eqB_nat o 9
 have e10:eqB (o:Nat) 10=(o == 10):=eqB_nat o 10
 have e11:eqB (o:Nat) 11=(o == 11):=eqB_nat o 11
 have e12:eqB (o:Nat) 12=(o == 12):=eqB_nat o 12
 have e13:eqB (o:Nat) 13=(o == 13):=eqB_nat o 13
 have e14:eqB (o:Nat) 14=(o == 14):=eqB_nat o 14
 have e15:eqB (o:Nat) 15=(o == 15):=eqB_nat o 15
 have e16:eqB (o:Nat) 16=(o == 16):=eqB_nat o 16
 have e17:eqB (o:Nat) 17=(o == 17):=eqB_nat o 17
 have e18:eqB (o:Nat) 18=(o == 18):=eqB_nat o 18
 have e19:eqB (o:Nat) 19=(o == 19):=eqB_nat o 19
 have e20:eqB (o:Nat) 20=(o == 20):=eqB_nat o 20
 have e21:eqB (o:Nat) 21=(o == 21):=eqB_nat o 21
 generalize hv:((o:Nat):Int)=v at *
 refine PFun.body hm hC (show Tryz.tab.get 126=some Tryz.c126 from rfl) rfl ?_
 simp only [SW,Tryz.c126,startP,Nat.reduceAdd,Nat.reduceSub,List.replicate]
 by_cases h:o < 22
 ·obtain ⟨j,hj⟩:∃ j:Fin 22,j.1=o:=⟨⟨o,h⟩,rfl⟩
  have hr:rk o=kt.getD o 0:=if_pos h
  rw [hr]
  clear hr hv
  rcases o with _ | _ | _ | _ | _ | _ | _ | _ | _ | _ | _ | _ | _ | _ | _ | _ | _ | _ | _ | _ | _ | _ | o
  all_goals first | (exfalso;omega) | skip
  all_goals simp only [Nat.reduceAdd,Nat.reduceBEq,Nat.zero_add] at e1 e2 e3 e4 e5 e6 e7 e8 e9 e10 e11 e12 e13 e14 e15 e16 e17 e18 e19 e20 e21
  all_goals
   repeat (refine PRun.wpn rfl ?_;simp only [SW,↓reduceIte,reduceCtorEq,Nat.reduceAdd,e1,e2,e3,e4,e5,e6,e7,e8,e9,e10,e11,e12,e13,e14,e15,e16,e17,e18,e19,e20,e21])
   exact .refl ⟨_,rfl,.refl _⟩
 ·have hr:rk o = -1:=if_neg h
  rw [hr]
  have f:∀ j:Nat,j < 22→(o == j)=false:=fun j hj=>by simp;omega
  rw [f _ (by decide)] at e1 e2 e3 e4 e5 e6 e7 e8 e9 e10 e11 e12 e13 e14 e15 e16 e17 e18 e19 e20 e21
  repeat (refine PRun.wpn rfl ?_;simp only [SW,↓reduceIte,reduceCtorEq,e1,e2,e3,e4,e5,e6,e7,e8,e9,e10,e11,e12,e13,e14,e15,e16,e17,e18,e19,e20,e21])
  exact .refl ⟨_,rfl,.refl _⟩
end
end Go.Proofs.YtnpoloachkcadaaGreatDoor.Ai
namespace Go.Proofs.YtnpoloachkcadaaGreatDoor.Ai
set_option linter.unusedSimpArgs false
open Go
set_option linter.unusedVariables false
set_option linter.unusedSectionVars false
set_option maxRecDepth 10000
set_option maxHeartbeats 1000000
section
variable {C:Ctx} (hm:C.P.follows .mixedOrders=true) (hC:TabOK C.P C.ng C.ts Tryz.tab)
include hm hC
theorem rname_ok (s:ByteArray) (hs:s.size < 2 ^ 60):PFun C 96 [.lit (.string s)] (.lit (.bool (yesB (nameOK s)))):=by
 refine PFun.body hm hC (show Tryz.tab.get 96=some Tryz.c96 from rfl) rfl ?_
 simp only [SW,Tryz.c96,startP,Nat.reduceAdd,Nat.reduceSub,List.replicate]
 by_cases h0:((s.size:Nat):Int) < 1
 ·repeat (refine PRun.wpn rfl ?_;simp only [SW,↓reduceIte,reduceCtorEq,ltB_t h0])
  rw [yes_f (fun h=>by have:=h.1;omega)]
  exact .refl ⟨_,rfl,.refl _⟩
 by_cases h1:(32:Int) < (s.size:Nat)
 ·repeat (refine PRun.wpn rfl ?_;simp only [SW,↓reduceIte,reduceCtorEq,ltB_f h0,ltB_t h1])
  rw [yes_f (fun h=>by have:=h.2.1;omega)]
  exact .refl ⟨_,rfl,.refl _⟩
 repeat (refine PRun.wpn rfl ?_;simp only [SW,↓reduceIte,reduceCtorEq,ltB_f h0,ltB_f h1])
 refine PRun.gh (Gh.mask mkPuD1 ?_)
 simp only [mkPuD1,↓reduceIte,Bool.false_eq_true,maskP]
 refine PRun.loopG (fun m t π=>∃ i:Nat,t=(.lit (.string s)::.junk::.junk::.lit (.int .i64 (i:Nat))::.junk::.junk::.junk::.junk::.junk::.junk::.junk::.junk::.junk::.junk::.junk::.junk::.junk::.junk::.junk::.junk::.junk::.junk::.junk::.junk::.junk::.junk::.junk::.junk::.junk::.junk::.junk::.junk::.junk::.junk::.junk::.junk::.junk::.junk::.junk::.junk::[])∧i≤s.size∧m=s.size - i∧(∀ (j:Nat) (h:j < s.size),j < i→charOK s[j])∧π=⟨0,[]⟩) ?_ s.size _ _ ⟨0,rfl,by omega,rfl,fun j h hj=>by omega,rfl⟩
 rintro m t π ⟨i,rfl,hi,rfl,hall,rfl⟩
 by_cases hlt:(i:Int) < (s.size:Nat)
 ·have hil:i < s.size:=by omega
  have hc:=idx_some hil
  have bad:¬ charOK s[i]→yesB (nameOK s)=false:=fun hb=>yes_f fun h=>hb (h.2.2 i hil)
  have w1:IntKind.i64.wrap (((i:Nat):Int) + 1)=((i + 1:Nat):Int):=by rw [wrap64 (by omega) (by omega)];omega
  generalize hcc:s[i]=c at hc bad
  by_cases c1:((c.toNat:Nat):Int) < 32
  ·repeat (refine PRun.wpn rfl ?_;simp only [SW,↓reduceIte,reduceCtorEq,ltB_t hlt,hc,ltB_t c1])
   rw [bad (fun h=>by have:=h.1;omega)]
   exact .refl ⟨_,rfl,.refl _⟩
  by_cases c2:126 < ((c.toNat:Nat):Int)
  ·repeat (refine PRun.wpn rfl ?_;simp only [SW,↓reduceIte,reduceCtorEq,ltB_t hlt,hc,ltB_f c1,ltB_t c2])
   rw [bad (fun h=>by have:=h.2.1;omega)]
   exact .refl ⟨_,rfl,.refl _⟩
  by_cases c3:((c.toNat:Nat):Int)=34
  ·repeat (refine PRun.wpn rfl ?_;simp only [SW,↓reduceIte,reduceCtorEq,ltB_t hlt,hc,ltB_f c1,ltB_f c2,eqB_t c3])
   rw [bad (fun h=>by have:=h.2.2.1;omega)]
   exact .refl ⟨_,rfl,.refl _⟩
  by_cases c4:((c.toNat:Nat):Int)=92
  ·repeat (refine PRun.wpn rfl ?_;simp only [SW,↓reduceIte,reduceCtorEq,ltB_t hlt,hc,ltB_f c1,ltB_f c2,eqB_f c3,eqB_t c4])
   rw [bad (fun h=>by have:=h.2.2.2;omega)]
   exact .refl ⟨_,rfl,.refl _⟩
  repeat (refine PRun.wpn rfl ?_;simp only [SW,↓reduceIte,ltB_t hlt,hc,ltB_f c1,ltB_f c2,eqB_f c3,eqB_f c4,w1])
  refine Gh.mask mkPuD1 ?_
  refine ⟨s.size - (i + 1),by omega,i + 1,rfl,by omega,rfl,fun j h hj=>?_,rfl⟩
  by_cases hji:j=i
  ·subst hji;rw [hcc];exact ⟨by omega,by omega,by omega,by omega⟩
  ·exact hall j h (by omega)
 ·repeat (refine PRun.wpn rfl ?_;simp only [SW,↓reduceIte,reduceCtorEq,ltB_f hlt])
  rw [yes_t ⟨by omega,by omega,fun j h=>hall j h (by omega)⟩]
  exact .refl ⟨_,rfl,.refl _⟩
end
end Go.Proofs.YtnpoloachkcadaaGreatDoor.Ai
namespace Go.Proofs.YtnpoloachkcadaaGreatDoor.Ai
set_option linter.unusedSimpArgs false
open Go
set_option linter.unusedVariables false
set_option linter.unusedSectionVars false
set_option maxRecDepth 10000
set_option maxHeartbeats 4000000
noncomputable def tkW (w:Int) (o:Nat):Bool:=!(eqB w 1 && (leB 9 (o:Nat) && leB (o:Nat) 15)) && !(eqB w 2 && leB 16 (o:Nat))
theorem ret_ways:∀ b1 b2 b3 b4 b6 b7 bf b10 b11:Bool,(b1 || b2 || (b3 && !b4) || (!b3 && b6) || (b7 && bf) || (b10 && b11))=true→
  b1=true∨(b1=false∧b2=true)∨(b1=false∧b2=false∧b3=true∧b4=false)∨(b1=false∧b2=false∧b3=false∧b6=true)∨
  (b1=false∧b2=false∧b3=true∧b4=true∧b7=true∧bf=true)∨(b1=false∧b2=false∧b3=false∧b6=false∧b7=true∧bf=true)∨
  (b1=false∧b2=false∧b3=true∧b4=true∧b7=true∧bf=false∧b10=true∧b11=true)∨(b1=false∧b2=false∧b3=true∧b4=true∧b7=false∧b10=true∧b11=true)∨
  (b1=false∧b2=false∧b3=false∧b6=false∧b7=true∧bf=false∧b10=true∧b11=true)∨(b1=false∧b2=false∧b3=false∧b6=false∧b7=false∧b10=true∧b11=true):=by
 intro b1 b2 b3 b4 b6 b7 bf b10 b11
 cases b1 <;> cases b2 <;> cases b3 <;> cases b4 <;> cases b6 <;> cases b7 <;> cases bf <;> cases b10 <;> cases b11 <;> decide
theorem on_ways:∀ b1 b2 b3 b4 b6 b7 bf b10 b11:Bool,(b1 || b2 || (b3 && !b4) || (!b3 && b6) || (b7 && bf) || (b10 && b11))=false→
  b1=false∧b2=false∧((b3=true∧b4=true)∨(b3=false∧b6=false))∧((b7=true∧bf=false)∨b7=false)∧((b10=true∧b11=false)∨b10=false):=by
 intro b1 b2 b3 b4 b6 b7 bf b10 b11
 cases b1 <;> cases b2 <;> cases b3 <;> cases b4 <;> cases b6 <;> cases b7 <;> cases bf <;> cases b10 <;> cases b11 <;> decide
theorem neB_not (a b:Int):neB a b = !eqB a b:=by
 by_cases h:a=b
 ·rw [neB_f (by omega),eqB_t h];rfl
 ·rw [neB_t h,eqB_f h];rfl
theorem hall_t (w:Int) (o:Nat) (nm:ByteArray) (ks:List Fm):yesB ((Fm.mk o nm ks).formed (tkW w))=(!(ltB (rk o) 0 || neB ((ks.length:Nat):Int) (rk o) || (eqB (o:Nat) 3 && !yesB (nameOK nm)) || (!eqB (o:Nat) 3 && neS nm ⟨#[]⟩) || (eqB w 1 && (leB 9 (o:Nat) && leB (o:Nat) 15)) || (eqB w 2 && leB 16 (o:Nat))) && yesB (formeds (tkW w) ks)):=by
 by_cases hf:formeds (tkW w) ks
 ·rw [yes_t hf,Bool.and_true]
  by_cases h22:o < 22
  ·have hr:rk o=kt.getD o 0:=if_pos h22
   rw [hr]
   by_cases h1:kt.getD o 0 < 0
   ·rw [ltB_t h1,yes_f (by simp only [Fm.formed];rintro ⟨_,h,_⟩;omega)];rfl
   ·rw [ltB_f h1]
    by_cases h2:((ks.length:Nat):Int)=kt.getD o 0
    ·rw [neB_f h2]
     have key:(Fm.mk o nm ks).formed (tkW w)↔tkW w o=true∧(o=3→nameOK nm)∧(o ≠ 3→nm=⟨#[]⟩):=by
      simp only [Fm.formed]
      exact ⟨fun h=>⟨h.2.2.2.1,h.2.2.2.2.1,h.2.2.2.2.2.1⟩,fun h=>⟨h22,by omega,h2,h.1,h.2.1,h.2.2,hf⟩⟩
     by_cases h3:o=3
     ·have e3:eqB (o:Nat) 3=true:=eqB_t (by omega)
      rw [e3]
      by_cases h4:nameOK nm
      ·rw [yes_t h4]
       cases ht:tkW w o
       ·rw [yes_f (by rw [key];rintro ⟨h,_⟩;rw [ht] at h;cases h)]
        unfold tkW at ht
        revert ht
        cases eqB w 1 <;> cases leB 9 (o:Nat) <;> cases leB (o:Nat) 15 <;> cases eqB w 2 <;> cases leB 16 (o:Nat) <;> simp
       ·rw [yes_t (key.2 ⟨ht,fun _=>h4,fun h=>absurd h3 h⟩)]
        unfold tkW at ht
        revert ht
        cases eqB w 1 <;> cases leB 9 (o:Nat) <;> cases leB (o:Nat) 15 <;> cases eqB w 2 <;> cases leB 16 (o:Nat) <;> simp
      ·rw [yes_f h4,yes_f (by rw [key];rintro ⟨_,h,_⟩;exact h4 (h h3))];rfl
     ·have e3:eqB (o:Nat) 3=false:=eqB_f (by omega)
      rw [e3]
      by_cases h4:nm=⟨#[]⟩
      ·rw [neS_f h4]
       cases ht:tkW w o
       ·rw [yes_f (by rw [key];rintro ⟨h,_⟩;rw [ht] at h;cases h)]
        unfold tkW at ht
        revert ht
        cases eqB w 1 <;> cases leB 9 (o:Nat) <;> cases leB (o:Nat) 15 <;> cases eqB w 2 <;> cases leB 16 (o:Nat) <;> simp
       ·rw [yes_t (key.2 ⟨ht,fun h=>absurd h h3,fun _=>h4⟩)]
        unfold tkW at ht
        revert ht
        cases eqB w 1 <;> cases leB 9 (o:Nat) <;> cases leB (o:Nat) 15 <;> cases eqB w 2 <;> cases leB 16 (o:Nat) <;> simp
      ·rw [neS_t h4,yes_f (by rw [key];rintro ⟨_,_,h⟩;exact h4 (h h3))];rfl
    ·rw [neB_t h2,yes_f (by simp only [Fm.formed];rintro ⟨_,_,h,_⟩;exact h2 h)];rfl
  ·have hr:rk o = -1:=if_neg h22
   rw [hr,ltB_t (show (-1:Int) < 0 by omega),yes_f (by simp only [Fm.formed];rintro ⟨h,_⟩;exact h22 h)];rfl
 ·rw [yes_f hf,Bool.and_false,yes_f (by simp only [Fm.formed];rintro ⟨_,_,_,_,_,_,h⟩;exact hf h)]
section
variable {C:Ctx} (hm:C.P.follows .mixedOrders=true) (hC:TabOK C.P C.ng C.ts Tryz.tab)
include hm hC
theorem rformed_ok (w:Int):∀ (n:Nat) (f:Fm),f.size≤n→f.ok→n < 2 ^ 60→PFun C 108 [fP f,.lit (.int .i64 w)] (.lit (.bool (yesB (f.formed (tkW w))))):=by
 intro n
 induction n with
 | zero=>intro f h;have:=f.size_pos;omega
 | succ n ih=>
  intro f hf hok hn
  obtain ⟨o,nm,ks⟩:=f
  simp only [Fm.size] at hf
  simp only [Fm.ok] at hok
  have hlen:=len_sizes ks
  have hks:=hok.2.2
  have k1:=rkids_ok hm hC o
  have k2:=rname_ok hm hC nm (by omega)
  have hall:=hall_t w o nm ks
  have hrk:ltB (rk o) 0=false→neB ((ks.length:Nat):Int) (rk o)=false→rk o=(ks.length:Nat):=by
   intro h1 h2
   by_cases h:((ks.length:Nat):Int)=rk o
   ·exact h.symm
   ·rw [neB_t h] at h2;cases h2
  rw [hall]
  clear hall
  generalize hr:rk o=r at *
  generalize hb1:ltB r 0=b1 at *
  generalize hb2:neB ((ks.length:Nat):Int) r=b2 at *
  generalize hb3:eqB ((o:Nat):Int) 3=b3 at *
  generalize hb4:yesB (nameOK nm)=b4 at *
  have hb5:=neB_not ((o:Nat):Int) 3
  rw [hb3] at hb5
  generalize hb6:neS nm ⟨#[]⟩=b6 at *
  generalize hb7:eqB w 1=b7 at *
  generalize hb8:leB 9 ((o:Nat):Int)=b8 at *
  generalize hb9:leB ((o:Nat):Int) 15=b9 at *
  generalize hb10:eqB w 2=b10 at *
  generalize hb11:leB 16 ((o:Nat):Int)=b11 at *
  refine PFun.body hm hC (show Tryz.tab.get 108=some Tryz.c108 from rfl) rfl ?_
  simp only [Tryz.c108,startP,List.length_cons,List.length_nil,Nat.reduceAdd,Nat.reduceSub,List.replicate,List.cons_append,List.nil_append,fP,fC]
  repeat (refine PRun.wpn rfl ?_;simp only [wp,wo_nil,wo_p,wo_r,wo_n,wo_call,onO_s,onN_s,ble_self,pv_t,pv_bool,put_some,pevP,pevR,pevN,getP,setP,evsP,boxP,look,PW.cs?,PW.push,PW.none,nthP,Option.map_some,Option.bind_some,Nat.zero_le,true_and,↓reduceIte,Nat.add_zero,Nat.zero_add,resPs,resP,tupP])
  refine .refl (PFun.to (k1) rfl (POps.wp ?_))
  simp only [wo_nil,wo_p,onO_s,pv_t,put_some,pevP,getP,setP]
  repeat (refine PRun.wpn rfl ?_;simp only [wp,wo_p,wo_r,wo_call,onO_s,pv_t,put_some,pevP,pevR,getP,setP,evsP,look,PW.cs?,nthP,Option.bind_some,Nat.zero_le,true_and,↓reduceIte,Nat.zero_add])
  refine .refl (PFun.to (k2) rfl (POps.wp ?_))
  simp only [wo_nil,wo_p,onO_s,pv_t,put_some,pevP,getP,setP]
  refine PRun.seqc (fun t π=>t=(.junk::.lit (.int .i64 w)::.ptr 0 0::.junk::.junk::.lit (.int .i64 r)::.lit (.bool b4)::.lit (.bool (b8 && b9))::.junk::.junk::.junk::.junk::.junk::.junk::.junk::.junk::.junk::.junk::.junk::.junk::.junk::.junk::.junk::.junk::.junk::.junk::.junk::.junk::.junk::.junk::.junk::.junk::.junk::.junk::.junk::.junk::.junk::.junk::.junk::.junk::.junk::.junk::.junk::.junk::.junk::.junk::.junk::.junk::.junk::.junk::.junk::.junk::.junk::.junk::.junk::.junk::.junk::.junk::.junk::.junk::.junk::.junk::.junk::.junk::.junk::.junk::.junk::.junk::.junk::.junk::.junk::.junk::.junk::.junk::.junk::.junk::.junk::.junk::.junk::.junk::.junk::.junk::.junk::.junk::[])∧π=⟨1,[(0,.cells [.lit (.int .u8 (o:Nat)),.lit (.string nm),.sz (fL ks) ks.length] 27 3 true false [])]⟩) ?_ ?_
  ·cases b8
   ·repeat (refine PRun.wpn rfl ?_;simp only [wp,wo_nil,wo_p,wo_r,wo_g,onO_s,onG_f,wanted_g,wantB_b,b_ft,pv_t,pv_int,pv_bool,put_some,bi_geq,pevP,pevR,getP,setP,look,PW.cs?,nthP,Option.map_some,Option.bind_some,Bool.false_and,↓reduceIte,Nat.add_zero,hb8])
    refine Gh.mask mkPuD2 ?_
    exact ⟨rfl,rfl⟩
   ·repeat (refine PRun.wpn rfl ?_;simp only [wp,wo_nil,wo_p,wo_r,wo_g,beq_self_eq_true,onO_s,onG_t,wanted_g,wantB_b,pv_t,pv_int,put_some,bi_leq,bi_geq,pevP,pevR,getP,setP,look,PW.cs?,nthP,Option.map_some,Option.bind_some,Bool.true_and,↓reduceIte,Nat.add_zero,hb8,hb9])
    refine Gh.mask mkPuD2 ?_
    exact ⟨rfl,rfl⟩
  rintro t π ⟨rfl,rfl⟩
  generalize (b8 && b9)=bf at *
  refine PRun.wpn rfl ?_
  simp only [wp,wo_nil,wo_p,wo_r,onO_s,pv_t,pv_int,put_some,bi_geq,pevP,pevR,getP,setP,look,PW.cs?,nthP,Option.map_some,Option.bind_some,↓reduceIte,Nat.add_zero,hb11]
  by_cases hP:(b1 || b2 || (b3 && !b4) || (!b3 && b6) || (b7 && bf) || (b10 && b11))=true
  ·rw [hP]
   rcases ret_ways b1 b2 b3 b4 b6 b7 bf b10 b11 hP with rfl | ⟨rfl,rfl⟩ | ⟨rfl,rfl,rfl,rfl⟩ | ⟨rfl,rfl,rfl,rfl⟩ | ⟨rfl,rfl,rfl,rfl,rfl,rfl⟩ | ⟨rfl,rfl,rfl,rfl,rfl,rfl⟩ | ⟨rfl,rfl,rfl,rfl,rfl,rfl,rfl,rfl⟩ | ⟨rfl,rfl,rfl,rfl,rfl,rfl,rfl⟩ | ⟨rfl,rfl,rfl,rfl,rfl,rfl,rfl,rfl⟩ | ⟨rfl,rfl,rfl,rfl,rfl,rfl,rfl⟩
   all_goals
    repeat (refine PRun.wpn rfl ?_;simp only [wp,wo_nil,wo_p,wo_r,wo_g,beq_self_eq_true,onO_s,onG_t,onG_f,wanted_g,wantB_b,wantB_u,b_tf,b_ft,pv_t,pv_int,pv_bool,pv_str,put_some,bi_eql,bi_neq,bi_neqS,bi_lss,pevP,pevR,getP,setP,look,PW.cs?,nthP,Option.map_some,Option.bind_some,or_true,true_and,Bool.false_and,↓reduceIte,reduceCtorEq,Nat.add_zero,Nat.zero_add,Bool.not_true,Bool.not_false,hb1,hb2,hb3,hb5,hb6,hb7,hb10])
    exact .refl ⟨_,rfl,.refl _⟩
  ·have hP':=Bool.eq_false_iff.2 hP
   rw [hP']
   obtain ⟨rfl,rfl,hw1,hw2,hw3⟩:=on_ways b1 b2 b3 b4 b6 b7 bf b10 b11 hP'
   have hrl:=hrk rfl rfl
   refine PRun.seqc (fun t π=>t=(.junk::.lit (.int .i64 w)::.ptr 0 0::.junk::.junk::.lit (.int .i64 r)::.junk::.junk::.junk::.junk::.junk::.junk::.junk::.junk::.junk::.junk::.junk::.junk::.junk::.junk::.junk::.junk::.junk::.junk::.junk::.junk::.junk::.junk::.junk::.junk::.junk::.junk::.junk::.junk::.junk::.junk::.junk::.junk::.junk::.junk::.junk::.junk::.junk::.junk::.junk::.junk::.junk::.junk::.junk::.junk::.junk::.junk::.junk::.junk::.junk::.junk::.junk::.junk::.junk::.junk::.junk::.junk::.junk::.junk::.junk::.junk::.junk::.junk::.junk::.junk::.junk::.junk::.junk::.junk::.junk::.junk::.junk::.junk::.junk::.junk::.junk::.junk::.junk::.junk::[])∧π=⟨1,[(0,.cells [.lit (.int .u8 (o:Nat)),.lit (.string nm),.sz (fL ks) ks.length] 27 3 true false [])]⟩) ?_ ?_
   ·rcases hw1 with ⟨rfl,rfl⟩ | ⟨rfl,rfl⟩ <;> rcases hw2 with ⟨rfl,rfl⟩ | rfl <;> rcases hw3 with ⟨rfl,rfl⟩ | rfl
    all_goals
     repeat (refine PRun.wpn rfl ?_;simp only [wp,wo_nil,wo_p,wo_r,wo_g,beq_self_eq_true,onO_s,onG_t,onG_f,wanted_g,wantB_b,b_ft,pv_t,pv_int,pv_bool,pv_str,put_some,bi_eql,bi_neq,bi_neqS,bi_lss,pevP,pevR,getP,setP,look,PW.cs?,nthP,Option.map_some,Option.bind_some,↓reduceIte,Bool.false_eq_true,Nat.add_zero,Nat.zero_add,Bool.not_true,Bool.not_false,hb1,hb2,hb3,hb5,hb6,hb7,hb10])
     refine Gh.mask (false::true::true::false::false::true::false::false::false::false::false::false::false::false::false::false::false::false::false::false::false::false::false::false::false::false::false::false::false::false::false::false::false::false::false::false::false::false::false::false::false::false::false::false::false::false::false::false::false::false::false::false::false::false::false::false::false::false::false::false::false::false::false::false::false::false::false::false::false::false::false::false::false::false::false::false::false::false::false::false::false::false::false::false::[]) ?_
     exact ⟨rfl,rfl⟩
   rintro t π ⟨rfl,rfl⟩
   subst hrl
   repeat (refine PRun.wpn rfl ?_;simp only [wp,wo_nil,wo_p,onO_s,pv_int,put_some,pevP,setP,Bool.true_and,reduceCtorEq,Bool.not_false])
   refine PRun.gh (Gh.mask mkPuD3 ?_)
   simp only [mkPuD3,↓reduceIte,Bool.false_eq_true,maskP]
   refine PRun.loopG (fun m t π=>∃ i:Nat,t=(.junk::.lit (.int .i64 w)::.ptr 0 0::.junk::.junk::.lit (.int .i64 (ks.length:Nat))::.junk::.junk::.junk::.lit (.int .i64 (i:Nat))::.junk::.junk::.junk::.junk::.junk::.junk::.junk::.junk::.junk::.junk::.junk::.junk::.junk::.junk::.junk::.junk::.junk::.junk::.junk::.junk::.junk::.junk::.junk::.junk::.junk::.junk::.junk::.junk::.junk::.junk::.junk::.junk::.junk::.junk::.junk::.junk::.junk::.junk::.junk::.junk::.junk::.junk::.junk::.junk::.junk::.junk::.junk::.junk::.junk::.junk::.junk::.junk::.junk::.junk::.junk::.junk::.junk::.junk::.junk::.junk::.junk::.junk::.junk::.junk::.junk::.junk::.junk::.junk::.junk::.junk::.junk::.junk::.junk::.junk::[])∧i≤ks.length∧m=ks.length - i∧(∀ (j:Nat) (k:Fm),j < i→ks[j]? = some k→k.formed (tkW w))∧π=⟨1,[(0,.cells [.lit (.int .u8 (o:Nat)),.lit (.string nm),.sz (fL ks) ks.length] 27 3 true false [])]⟩) ?_ ks.length _ _ ⟨0,rfl,by omega,rfl,fun j k hj=>by omega,rfl⟩
   rintro m t π ⟨i,rfl,hi,rfl,hal,rfl⟩
   by_cases hlt:(i:Int) < (ks.length:Nat)
   ·obtain ⟨k,hk⟩:∃ k,ks[i]? = some k:=⟨ks[i]'(by omega),List.getElem?_eq_getElem (by omega)⟩
    have h1:=size_kid hk
    have hcut:=fL_cut hk
    have hrec:=ih k (by omega) (oks_get hks hk) (by omega)
    have w1:IntKind.i64.wrap (((i:Nat):Int) + 1)=((i + 1:Nat):Int):=by rw [wrap64 (by omega) (by omega)];omega
    by_cases hkf:k.formed (tkW w)
    ·rw [yes_t hkf] at hrec
     have hal2:∀ (j:Nat) (k:Fm),j < i + 1→ks[j]? = some k→k.formed (tkW w):=by
      intro j k2 hj hk2
      by_cases hji:j=i
      ·subst hji;rw [hk] at hk2;cases hk2;exact hkf
      ·exact hal j k2 (by omega) hk2
     clear hkf
     obtain ⟨o',nm',ks'⟩:=k
     simp only [fP,fC] at hrec hcut
     repeat (refine PRun.wpn rfl ?_;simp only [wp,wo_nil,wo_p,wo_r,wo_call,onO_s,pv_t,put_some,bi_lss,pevP,pevR,getP,setP,evsP,look,PW.cs?,nthP,Option.map_some,Option.bind_some,Nat.zero_le,Int.natCast_nonneg,Int.toNat_natCast,and_self,true_and,↓reduceIte,Nat.zero_add,ltB_t hlt,hlt,hcut])
     refine .refl (PFun.to (hrec) rfl (POps.wp ?_))
     simp only [wo_nil,wo_p,onO_s,pv_t,put_some,pevP,getP,setP]
     repeat (refine PRun.wpn rfl ?_;simp only [wp,wo_nil,wo_p,onO_s,pv_t,pv_int,put_some,bi_add,pevP,getP,setP,Option.map_some,↓reduceIte,Bool.false_eq_true,Bool.not_true,w1])
     refine Gh.mask mkPuD3 ?_
     exact ⟨ks.length - (i + 1),by omega,i + 1,rfl,by omega,rfl,hal2,rfl⟩
    ·rw [yes_f hkf] at hrec
     rw [yes_f (p:=formeds (tkW w) ks) (fun h=>hkf (formeds_iff.1 h i k hk))]
     clear hkf
     obtain ⟨o',nm',ks'⟩:=k
     simp only [fP,fC] at hrec hcut
     repeat (refine PRun.wpn rfl ?_;simp only [wp,wo_nil,wo_p,wo_r,wo_call,onO_s,pv_t,put_some,bi_lss,pevP,pevR,getP,setP,evsP,look,PW.cs?,nthP,Option.map_some,Option.bind_some,Nat.zero_le,Int.natCast_nonneg,Int.toNat_natCast,and_self,true_and,↓reduceIte,Nat.zero_add,ltB_t hlt,hlt,hcut])
     refine .refl (PFun.to (hrec) rfl (POps.wp ?_))
     simp only [wo_nil,wo_p,onO_s,pv_t,put_some,pevP,getP,setP]
     repeat (refine PRun.wpn rfl ?_;simp only [wp,wo_nil,wo_p,onO_s,pv_t,pv_bool,put_some,pevP,getP,setP,or_true,true_and,↓reduceIte,reduceCtorEq,Bool.not_false])
     exact .refl ⟨_,rfl,.refl _⟩
   ·have hil:i=ks.length:=by omega
    rw [yes_t (p:=formeds (tkW w) ks) (formeds_iff.2 fun j k hk=>hal j k (by have:=(List.getElem?_eq_some_iff.1 hk).1;omega) hk)]
    repeat (refine PRun.wpn rfl ?_;simp only [wp,wo_nil,wo_p,onO_s,pv_t,pv_bool,put_some,bi_lss,pevP,getP,setP,Option.map_some,or_true,true_and,↓reduceIte,reduceCtorEq,Bool.false_eq_true,ltB_f hlt])
    exact .refl ⟨_,rfl,.refl _⟩
end
end Go.Proofs.YtnpoloachkcadaaGreatDoor.Ai
namespace Go.Proofs.YtnpoloachkcadaaGreatDoor.Ai
set_option linter.unusedSimpArgs false
open Go
set_option linter.unusedVariables false
set_option linter.unusedSectionVars false
set_option maxRecDepth 10000
open Classical in
noncomputable def posN (s:ByteArray):List ByteArray→Nat
 | []=>0
 | x::l=>if s=x then 1 else if posN s l=0 then 0 else posN s l + 1
def mP:Nat→List ByteArray→List (PV × PV × Nat)
 | _,[]=>[]
 | i,s::ns=>(.lit (.string s),.lit (.int .i64 ((i + 1:Nat):Int)),i)::mP (i + 1) ns
theorem mP_app:∀ (a b:List ByteArray) (i:Nat),mP i (a++b)=mP i a++mP (i + a.length) b
 | [],b,i=>by simp [mP]
 | s::a,b,i=>by simp only [SW,mP,mP_app a b];congr 3;omega
theorem frzE_mP (k:Nat) (cs:List PV):∀ (ns:List ByteArray) (i:Nat),frzE k cs (mP i ns)=mP i ns
 | [],i=>rfl
 | s::ns,i=>by simp only [mP,frzE,frzP,frzE_mP k cs ns]
theorem posN_le (s:ByteArray):∀ ns:List ByteArray,posN s ns≤ns.length
 | []=>by simp [posN]
 | x::ns=>by
  have:=posN_le s ns
  unfold posN
  split
  ·simp
  ·split <;> simp <;> omega
theorem posN_zero {s:ByteArray}:∀ {ns:List ByteArray},posN s ns=0↔s∉ns
 | []=>by simp [posN]
 | x::ns=>by
  have:=@posN_zero s ns
  unfold posN
  split
  ·rename_i h;simp [h]
  ·rename_i h
   split
   ·rename_i h0;simp [h,this.1 h0]
   ·rename_i h0;rw [this] at h0;simp [h];simpa using h0
theorem posN_get {s:ByteArray}:∀ {ns:List ByteArray},s∈ns→ns[posN s ns - 1]? = some s∧0 < posN s ns
 | [],h=>by simp at h
 | x::ns,h=>by
  unfold posN
  split
  ·rename_i e;simp [e]
  ·rename_i e
   have h1:s∈ns:=by simpa [e] using h
   obtain ⟨g1,g2⟩:=posN_get h1
   rw [if_neg (by omega)]
   refine ⟨?_,by omega⟩
   rw [Nat.add_sub_cancel,show posN s ns=(posN s ns - 1) + 1 by omega,List.getElem?_cons_succ]
   exact g1
theorem findP_mP (s:ByteArray):∀ (ns:List ByteArray) (i b:Nat),(posN s ns ≠ 0→∃ k,findP .str (.lit (.string s)) (mP b ns) i=some (some (k,.lit (.int .i64 ((b + posN s ns:Nat):Int)))))∧(posN s ns=0→findP .str (.lit (.string s)) (mP b ns) i=some none)
 | [],i,b=>⟨fun h=>by simp [posN] at h,fun _=>rfl⟩
 | x::ns,i,b=>by
  obtain ⟨ih1,ih2⟩:=findP_mP s ns (i + 1) (b + 1)
  have e:eqP .str (.lit (.string s)) (.lit (.string x))=some (s == x):=by simp only [eqP,eqv]
  by_cases hx:s=x
  ·have e2:(s == x)=true:=(ba_eq _ _).2 hx
   refine ⟨fun _=>⟨i,?_⟩,fun h=>by unfold posN at h;rw [if_pos hx] at h;cases h⟩
   simp only [mP,findP,e,e2]
   unfold posN
   rw [if_pos hx]
  ·have e2:(s == x)=false:=by cases hh:(s == x) with | false=>rfl | true=>exact absurd ((ba_eq _ _).1 hh) hx
   have ep:posN s (x::ns)=if posN s ns=0 then 0 else posN s ns + 1:=by rw [posN,if_neg hx]
   rw [ep]
   constructor
   ·intro h
    split at h
    ·exact absurd rfl h
    ·rename_i h0
     obtain ⟨k,hk⟩:=ih1 h0
     refine ⟨k,?_⟩
     rw [if_neg h0]
     simp only [mP,findP,e,e2]
     rw [hk,show b + 1 + posN s ns=b + (posN s ns + 1) by omega]
   ·intro h
    split at h
    ·rename_i h0
     simp only [mP,findP,e,e2]
     exact ih2 h0
    ·cases h
theorem findM_mP (s:ByteArray):∀ (ns:List ByteArray) (i b:Nat),s∉ns→findM (.string s) (mP b ns) i=some none
 | [],i,b,_=>rfl
 | x::ns,i,b,h=>by
  simp only [List.mem_cons,not_or] at h
  have ih:=findM_mP s ns (i + 1) (b + 1) h.2
  simp only [mP,findM,eqK]
  rw [show (s == x)=false from by cases hh:(s == x) with | false=>rfl | true=>exact absurd ((ba_eq _ _).1 hh) h.1]
  exact ih
theorem sL_drop (ns:List ByteArray) (i:Nat):(sL ns).drop i=sL (ns.drop i):=by simp [sL,List.map_drop]
theorem sL_at {ns:List ByteArray} {i:Nat} {s:ByteArray} (h:ns[i]? = some s):(sL ns).drop i = .lit (.string s)::sL (ns.drop (i + 1)):=by
 obtain ⟨h1,h2⟩:=List.getElem?_eq_some_iff.1 h
 rw [sL_drop,List.drop_eq_getElem_cons h1,h2]
 rfl
noncomputable def renG (from_ to_:List ByteArray):Fm→Fm
 | .mk o n ks=>.mk o (if posN n from_=0 then n else to_.getD (posN n from_ - 1) n) ks
def placeH (ns:List ByteArray):List (Nat × PObj):=[(1,.cells [.map 0] 88 1 true false []),(0,.map (mP 0 ns) ns.length)]
section
variable {C:Ctx} (hm:C.P.follows .mixedOrders=true) (hC:TabOK C.P C.ng C.ts Tryz.tab)
include hm hC
end
end Go.Proofs.YtnpoloachkcadaaGreatDoor.Ai
namespace Go.Proofs.YtnpoloachkcadaaGreatDoor.Ai
set_option linter.unusedSimpArgs false
open Go
set_option linter.unusedVariables false
set_option linter.unusedSectionVars false
set_option maxRecDepth 10000
set_option maxHeartbeats 2000000
noncomputable def plZ (s:ByteArray) (l:List ByteArray):Int:=(posN s l:Nat) - 1
theorem posN_app_no {s:ByteArray}:∀ {a:List ByteArray},s∉a→∀ b,posN s (a++b)=if posN s b=0 then 0 else a.length + posN s b
 | [],_,b=>by
  simp only [SW]
  split
  ·rename_i h;exact h
  ·rfl
 | x::a,h,b=>by
  have h1:¬ s=x:=fun e=>h (by rw [e];exact List.mem_cons_self)
  have h2:s∉a:=fun e=>h (List.mem_cons_of_mem _ e)
  simp only [SW,posN,if_neg h1,posN_app_no h2 b]
  by_cases h3:posN s b=0
  ·simp only [h3,if_true]
  ·rw [if_neg h3,if_neg h3,if_neg (by omega)];omega
noncomputable def plBy (fr:List ByteArray) (by_:List Fm) (n:ByteArray):Option Fm:=if posN n fr=0 then none else by_[posN n fr - 1]?
section
variable {C:Ctx} (hm:C.P.follows .mixedOrders=true) (hC:TabOK C.P C.ng C.ts Tryz.tab)
include hm hC
theorem place_ok (l:List ByteArray) (s:ByteArray) (hl:l.length < 2 ^ 60):PFun C 104 [.sz (sL l) l.length,.lit (.string s)] (.lit (.int .i64 (plZ s l))):=by
 refine PFun.body hm hC (show Tryz.tab.get 104=some Tryz.c104 from rfl) rfl ?_
 simp only [SW,Tryz.c104,startP,Nat.reduceAdd,Nat.reduceSub,List.replicate]
 repeat (refine PRun.wpn rfl ?_;simp only [SW,reduceCtorEq])
 refine PRun.gh (Gh.mask (true::true::false::false::false::true::false::false::false::false::false::false::false::false::false::false::false::false::false::[]) ?_)
 simp only [↓reduceIte,Bool.false_eq_true,maskP]
 refine PRun.loopG (fun m t π=>∃ i:Nat,t=(.sz (sL l) l.length::.lit (.string s)::.junk::.junk::.junk::.lit (.int .i64 (i:Nat))::.junk::.junk::.junk::.junk::.junk::.junk::.junk::.junk::.junk::.junk::.junk::.junk::.junk::[])∧i≤l.length∧m=l.length - i∧π=⟨0,[]⟩∧s∉l.take i) ?_ l.length _ _ ⟨0,rfl,by omega,rfl,rfl,by simp⟩
 rintro m t π ⟨i,rfl,hi,rfl,rfl,hno⟩
 by_cases hlt:(i:Int) < (l.length:Nat)
 ·obtain ⟨x,hx⟩:∃ x,l[i]? = some x:=⟨l[i]'(by omega),List.getElem?_eq_getElem (by omega)⟩
  have hcut:=sL_at hx
  have w1:IntKind.i64.wrap (((i:Nat):Int) + 1)=((i + 1:Nat):Int):=by rw [wrap64 (by omega) (by omega)];omega
  by_cases he:x=s
  ·have hp:plZ s l=((i:Nat):Int):=by
    have h2:l=l.take i++(x::l.drop (i + 1)):=by
     obtain ⟨hi',rfl⟩:=List.getElem?_eq_some_iff.1 hx
     rw [← List.drop_eq_getElem_cons hi',List.take_append_drop]
    unfold plZ
    rw [h2,posN_app_no hno]
    simp only [posN,if_pos he.symm,Nat.one_ne_zero,if_false,List.length_take]
    omega
   rw [hp]
   repeat (refine PRun.wpn rfl ?_;simp only [SW,↓reduceIte,reduceCtorEq,ltB_t hlt,hlt,hcut,eqS_t he])
   exact .refl ⟨_,rfl,.refl _⟩
  ·repeat (refine PRun.wpn rfl ?_;simp only [SW,↓reduceIte,ltB_t hlt,hlt,hcut,eqS_f he,w1])
   refine Gh.mask (true::true::false::false::false::true::false::false::false::false::false::false::false::false::false::false::false::false::false::[]) ?_
   refine ⟨l.length - (i + 1),by omega,i + 1,rfl,by omega,rfl,rfl,?_⟩
   rw [List.take_add_one,hx]
   simp only [Option.toList_some,List.mem_append,List.mem_singleton,not_or]
   exact ⟨hno,fun e=>he e.symm⟩
 ·have hil:i=l.length:=by omega
  rw [hil,List.take_length] at hno
  have hp:plZ s l = -1:=by unfold plZ;rw [posN_zero.2 hno];rfl
  rw [hp]
  repeat (refine PRun.wpn rfl ?_;simp only [SW,↓reduceIte,reduceCtorEq,ltB_f hlt])
  exact .refl ⟨_,rfl,.refl _⟩
theorem rcopy_ok:∀ (n:Nat) (f:Fm),f.size≤n→n < 2 ^ 38→PFun C 123 [fP f] (fP f):=by
 intro n
 induction n with
 | zero=>intro f h;have:=f.size_pos;omega
 | succ n ih=>
  intro f hf hn
  obtain ⟨o,nm,ks⟩:=f
  simp only [Fm.size] at hf
  have hlen:=len_sizes ks
  refine PFun.body hm hC (show Tryz.tab.get 123=some Tryz.c123 from rfl) rfl ?_
  simp only [SW,Tryz.c123,startP,Nat.reduceAdd,Nat.reduceSub,List.replicate,fP,fC]
  repeat (refine PRun.wpn rfl ?_;simp only [SW,↓reduceIte,reduceCtorEq,Nat.reduceAdd])
  refine PRun.gh (Gh.mask mkPuD4 ?_)
  simp only [mkPuD4,↓reduceIte,Bool.false_eq_true,maskP]
  refine PRun.loopG (fun m t π=>∃ i:Nat,t=(.junk::.ptr 0 0::.ptr 1 0::.ptr 2 0::.lit (.int .i64 (i:Nat))::.junk::.junk::.junk::.junk::.junk::.junk::.junk::.junk::.junk::.junk::.junk::.junk::.junk::.junk::.junk::.junk::.junk::.junk::.junk::.junk::.junk::.junk::.junk::.junk::[])∧i≤ks.length∧m=ks.length - i∧((i=0∧π=⟨3,[(2,.cells [.lit (.int .u8 (o:Nat)),.lit (.string nm),.lit (.slice none 0 0)] 27 3 true false []),(1,.cells [.lit (.int .u8 0),.lit (.string ⟨#[]⟩),.lit (.slice none 0 0)] 27 3 true false []),(0,.cells [.lit (.int .u8 (o:Nat)),.lit (.string nm),.sz (fL ks) ks.length] 27 3 true false [])]⟩)∨
   (0 < i∧π=⟨4,[(3,.cells (fL (ks.take i)) 27 3 false false []),(2,.cells [.lit (.int .u8 (o:Nat)),.lit (.string nm),.loc 3 0 i i] 27 3 true false []),(1,.cells [.lit (.int .u8 0),.lit (.string ⟨#[]⟩),.lit (.slice none 0 0)] 27 3 true false []),(0,.cells [.lit (.int .u8 (o:Nat)),.lit (.string nm),.sz (fL ks) ks.length] 27 3 true false [])]⟩))) ?_ ks.length _ _ ⟨0,rfl,by omega,rfl,.inl ⟨rfl,rfl⟩⟩
  rintro m t π ⟨i,rfl,hi,rfl,hπ⟩
  by_cases hlt:(i:Int) < (ks.length:Nat)
  ·obtain ⟨k,hk⟩:∃ k,ks[i]? = some k:=⟨ks[i]'(by omega),List.getElem?_eq_getElem (by omega)⟩
   have h1:=size_kid hk
   have hcut:=fL_cut hk
   have hrec:=ih k (by omega) (by omega)
   have etake:fL (ks.take (i + 1))=fL (ks.take i)++fC k:=by rw [List.take_add_one,hk,fL_app];simp [fL]
   have w1:IntKind.i64.wrap (((i:Nat):Int) + 1)=((i + 1:Nat):Int):=by rw [wrap64 (by omega) (by omega)];omega
   obtain ⟨o',nm',ks'⟩:=k
   simp only [fP,fC] at hrec hcut etake
   rcases hπ with ⟨rfl,rfl⟩ | ⟨hi0,rfl⟩
   ·simp only [nc0,Nat.zero_mul,List.drop_zero] at hlt hcut
    repeat (refine PRun.wpn rfl ?_;simp only [SW,↓reduceIte,reduceCtorEq,ltB_t hlt])
    refine PDraw.stage (Nat.zero_le _) rfl ?_
    try dsimp only
    simp only [SW,↓reduceIte,reduceCtorEq,Nat.reduceAdd,Nat.reduceMul,hlt,hcut]
    refine PDE.pure hrec rfl ?_
    refine PDraw.stage (Nat.zero_le _) rfl ?_
    try dsimp only
    simp only [SW,↓reduceIte,Nat.reduceAdd]
    refine PDE.ev (Nat.zero_le _) ?_
    simp only [SW,↓reduceIte,Nat.reduceAdd,Nat.reduceMul,Nat.reduceLeDiff,Nat.reduceLT]
    refine PDraw.stage (Nat.zero_le _) rfl ?_
    try dsimp only
    simp only [SW]
    refine PDE.ev (Nat.zero_le _) ?_
    simp only [SW,↓reduceIte,Nat.reduceEqDiff]
    refine PDraw.last (Nat.zero_le _) rfl ?_
    try dsimp only
    simp only [wx_nil]
    simp only [nc0] at w1
    repeat (refine PRun.wpn rfl ?_;simp only [SW,w1])
    refine Gh.mr mkPuD4 [(0,0),(1,1),(2,2),(4,3)] 4 rfl ?_
    refine ⟨ks.length - 1,by omega,1,rfl,by omega,rfl,.inr ⟨by omega,?_⟩⟩
    simp only [SW,etake,fL,↓reduceIte,reduceCtorEq,Nat.reduceEqDiff]
   ·have q1:¬ i + 1≤i:=by omega
    have q2:¬ 140737488355328 < (2 * (i + 1) + 768) * 48:=by omega
    have q3:(fL (ks.take i)).length=i * 3:=by rw [fL_len,List.length_take,Nat.min_eq_left hi]
    have q4:=cut_all q3
    have q5:i ≠ 0:=by omega
    repeat (refine PRun.wpn rfl ?_;simp only [SW,↓reduceIte,reduceCtorEq,ltB_t hlt])
    refine PDraw.stage (Nat.zero_le _) rfl ?_
    try dsimp only
    simp only [SW,↓reduceIte,reduceCtorEq,Nat.reduceAdd,Nat.reduceEqDiff,hlt,hcut]
    refine PDE.pure hrec rfl ?_
    refine PDraw.stage (Nat.zero_le _) rfl ?_
    try dsimp only
    simp only [SW,↓reduceIte,Nat.reduceAdd]
    refine PDE.ev (Nat.zero_le _) ?_
    simp only [SW,↓reduceIte,Nat.reduceAdd,Nat.reduceMul,Nat.reduceEqDiff,q1,q2,q3,q4,bne_self_eq_false]
    refine PDraw.stage (Nat.zero_le _) rfl ?_
    try dsimp only
    simp only [SW]
    refine PDE.ev (Nat.zero_le _) ?_
    simp only [SW,↓reduceIte,Nat.reduceEqDiff]
    refine PDraw.last (Nat.zero_le _) rfl ?_
    try dsimp only
    simp only [wx_nil]
    repeat (refine PRun.wpn rfl ?_;simp only [SW,w1])
    refine Gh.mr mkPuD4 [(0,0),(1,1),(2,2),(5,3)] 4 rfl ?_
    refine ⟨ks.length - (i + 1),by omega,i + 1,rfl,by omega,rfl,.inr ⟨by omega,?_⟩⟩
    simp only [SW,← etake,renL_fL,↓reduceIte,reduceCtorEq,Nat.reduceEqDiff]
  ·have hil:i=ks.length:=by omega
   subst hil
   rcases hπ with ⟨h0,rfl⟩ | ⟨hi0,rfl⟩
   ·have hk0:ks=[]:=List.length_eq_zero_iff.1 h0
    subst hk0
    repeat (refine PRun.wpn rfl ?_;simp only [SW,↓reduceIte,reduceCtorEq,Nat.reduceAdd,Nat.reduceEqDiff])
    refine .refl ⟨_,rfl,?_⟩
    exact .agg (.cons (.refl _) (.cons (.refl _) (.cons .nil_sz .nil)))
   ·rw [List.take_length]
    repeat (refine PRun.wpn rfl ?_;simp only [SW,↓reduceIte,reduceCtorEq,Nat.reduceAdd,Nat.reduceEqDiff,ltB_f hlt])
    refine Gh.frz 3 rfl (pureL_fL ks) rfl ?_
    simp only [SW,↓reduceIte,reduceCtorEq,Nat.reduceEqDiff]
    refine .refl ⟨_,rfl,?_⟩
    exact .agg (.cons (.refl _) (.cons (.refl _) (.cons .sl_sz .nil)))
end
end Go.Proofs.YtnpoloachkcadaaGreatDoor.Ai
namespace Go.Proofs.YtnpoloachkcadaaGreatDoor.Ai
set_option linter.unusedSimpArgs false
open Go
set_option linter.unusedVariables false
set_option linter.unusedSectionVars false
set_option maxRecDepth 10000
set_option maxHeartbeats 2000000
section
variable {C:Ctx} (hm:C.P.follows .mixedOrders=true) (hC:TabOK C.P C.ng C.ts Tryz.tab)
include hm hC
theorem rput_ok (fr:List ByteArray) (by_:List Fm) (hl:fr.length=by_.length) (hz:fr.length < 2 ^ 38) (hbz:∀ (i:Nat) (k:Fm),by_[i]? = some k→k.size < 2 ^ 38):∀ (n:Nat) (f:Fm),f.size≤n→n < 2 ^ 38→PFun C 97 [fP f,.sz (sL fr) fr.length,.sz (fL by_) by_.length] (fP (f.rput (plBy fr by_))):=by
 generalize hpl:plBy fr by_=pl
 intro n
 induction n with
 | zero=>intro f h;have:=f.size_pos;omega
 | succ n ih=>
  intro f hf hn
  obtain ⟨o,nm,ks⟩:=f
  simp only [Fm.size] at hf
  have hlen:=len_sizes ks
  have hpc:=place_ok hm hC fr nm (by omega)
  have hple:=posN_le nm fr
  by_cases h3:((o:Nat):Int)=3
  ·by_cases h0:posN nm fr=0
   ·have e:(Fm.mk o nm ks).rput pl = .mk o nm (rputs pl ks):=by
     have:pl nm=none:=by rw [← hpl];unfold plBy;rw [if_pos h0]
     simp only [Fm.rput,this]
     split <;> rfl
    rw [e]
    have hz0:plZ nm fr = -1:=by unfold plZ;rw [h0];rfl
    rw [hz0] at hpc
    refine PFun.body hm hC (show Tryz.tab.get 97=some Tryz.c97 from rfl) rfl ?_
    simp only [SW,Tryz.c97,startP,Nat.reduceAdd,Nat.reduceSub,List.replicate,fP,fC]
    repeat (refine PRun.wpn rfl ?_;simp only [SW,↓reduceIte,reduceCtorEq,Nat.reduceAdd])
    refine .refl (PFun.to (hpc) rfl (POps.wp ?_))
    simp only [SW]
    repeat (refine PRun.wpn rfl ?_;simp only [SW,↓reduceIte,reduceCtorEq,Nat.reduceAdd,eqB_t h3,leB_f (show ¬ (0:Int)≤-1 by omega)])
    refine PRun.gh (Gh.mask mkPuD5 ?_)
    simp only [mkPuD5,↓reduceIte,Bool.false_eq_true,maskP]
    refine PRun.loopG (fun m t π=>∃ i:Nat,t=(.junk::.sz (sL fr) fr.length::.sz (fL by_) by_.length::.ptr 0 0::.junk::.junk::.ptr 1 0::.junk::.ptr 2 0::.lit (.int .i64 (i:Nat))::.junk::.junk::.junk::.junk::.junk::.junk::.junk::.junk::.junk::.junk::.junk::.junk::.junk::.junk::.junk::.junk::.junk::.junk::.junk::.junk::.junk::.junk::.junk::.junk::.junk::.junk::.junk::.junk::.junk::.junk::.junk::.junk::.junk::.junk::.junk::.junk::.junk::.junk::.junk::.junk::.junk::.junk::[])∧i≤ks.length∧m=ks.length - i∧((i=0∧π=⟨3,[(2,.cells [.lit (.int .u8 (o:Nat)),.lit (.string nm),.lit (.slice none 0 0)] 27 3 true false []),(1,.cells [.lit (.int .u8 0),.lit (.string ⟨#[]⟩),.lit (.slice none 0 0)] 27 3 true false []),(0,.cells [.lit (.int .u8 (o:Nat)),.lit (.string nm),.sz (fL ks) ks.length] 27 3 true false [])]⟩)∨
     (0 < i∧π=⟨4,[(3,.cells (fL (rputs pl (ks.take i))) 27 3 false false []),(2,.cells [.lit (.int .u8 (o:Nat)),.lit (.string nm),.loc 3 0 i i] 27 3 true false []),(1,.cells [.lit (.int .u8 0),.lit (.string ⟨#[]⟩),.lit (.slice none 0 0)] 27 3 true false []),(0,.cells [.lit (.int .u8 (o:Nat)),.lit (.string nm),.sz (fL ks) ks.length] 27 3 true false [])]⟩))) ?_ ks.length _ _ ⟨0,rfl,by omega,rfl,.inl ⟨rfl,rfl⟩⟩
    rintro m t π ⟨i,rfl,hi,rfl,hπ⟩
    by_cases hlt:(i:Int) < (ks.length:Nat)
    ·obtain ⟨k,hk⟩:∃ k,ks[i]? = some k:=⟨ks[i]'(by omega),List.getElem?_eq_getElem (by omega)⟩
     have h1:=size_kid hk
     have hcut:=fL_cut hk
     have hrec:=ih k (by omega) (by omega)
     have etake:fL (rputs pl (ks.take (i + 1)))=fL (rputs pl (ks.take i))++fC (k.rput pl):=by rw [List.take_add_one,hk,rputs_app,fL_app];simp [fL,rputs]
     generalize k.rput pl=kr at hrec etake
     obtain ⟨ro,rn,rk⟩:=kr
     have w1:IntKind.i64.wrap (((i:Nat):Int) + 1)=((i + 1:Nat):Int):=by rw [wrap64 (by omega) (by omega)];omega
     obtain ⟨o',nm',ks'⟩:=k
     simp only [fP,fC] at hrec hcut etake
     rcases hπ with ⟨rfl,rfl⟩ | ⟨hi0,rfl⟩
     ·simp only [nc0,Nat.zero_mul,List.drop_zero] at hlt hcut
      repeat (refine PRun.wpn rfl ?_;simp only [SW,↓reduceIte,reduceCtorEq,ltB_t hlt])
      refine PDraw.stage (Nat.zero_le _) rfl ?_
      try dsimp only
      simp only [SW,↓reduceIte,reduceCtorEq,Nat.reduceAdd,Nat.reduceMul,hlt,hcut]
      refine PDE.pure hrec rfl ?_
      refine PDraw.stage (Nat.zero_le _) rfl ?_
      try dsimp only
      simp only [SW,↓reduceIte,Nat.reduceAdd]
      refine PDE.ev (Nat.zero_le _) ?_
      simp only [SW,↓reduceIte,Nat.reduceAdd,Nat.reduceMul,Nat.reduceLeDiff,Nat.reduceLT]
      refine PDraw.stage (Nat.zero_le _) rfl ?_
      try dsimp only
      simp only [SW]
      refine PDE.ev (Nat.zero_le _) ?_
      simp only [SW,↓reduceIte,Nat.reduceEqDiff]
      refine PDraw.last (Nat.zero_le _) rfl ?_
      try dsimp only
      simp only [wx_nil]
      simp only [nc0] at w1
      repeat (refine PRun.wpn rfl ?_;simp only [SW,w1])
      refine Gh.mr mkPuD5 [(0,0),(1,1),(2,2),(4,3)] 4 rfl ?_
      refine ⟨ks.length - 1,by omega,1,rfl,by omega,rfl,.inr ⟨by omega,?_⟩⟩
      simp only [SW,etake,rputs,fL,↓reduceIte,reduceCtorEq,Nat.reduceEqDiff]
     ·have q1:¬ i + 1≤i:=by omega
      have q2:¬ 140737488355328 < (2 * (i + 1) + 768) * 48:=by omega
      have q3:(fL (rputs pl (ks.take i))).length=i * 3:=by rw [fL_len,rputs_len,List.length_take,Nat.min_eq_left hi]
      have q4:=cut_all q3
      have q5:i ≠ 0:=by omega
      repeat (refine PRun.wpn rfl ?_;simp only [SW,↓reduceIte,reduceCtorEq,ltB_t hlt])
      refine PDraw.stage (Nat.zero_le _) rfl ?_
      try dsimp only
      simp only [SW,↓reduceIte,reduceCtorEq,Nat.reduceAdd,Nat.reduceEqDiff,hlt,hcut]
      refine PDE.pure hrec rfl ?_
      refine PDraw.stage (Nat.zero_le _) rfl ?_
      try dsimp only
      simp only [SW,↓reduceIte,Nat.reduceAdd]
      refine PDE.ev (Nat.zero_le _) ?_
      simp only [SW,↓reduceIte,Nat.reduceAdd,Nat.reduceMul,Nat.reduceEqDiff,q1,q2,q3,q4,bne_self_eq_false]
      refine PDraw.stage (Nat.zero_le _) rfl ?_
      try dsimp only
      simp only [SW]
      refine PDE.ev (Nat.zero_le _) ?_
      simp only [SW,↓reduceIte,Nat.reduceEqDiff]
      refine PDraw.last (Nat.zero_le _) rfl ?_
      try dsimp only
      simp only [wx_nil]
      repeat (refine PRun.wpn rfl ?_;simp only [SW,w1])
      refine Gh.mr mkPuD5 [(0,0),(1,1),(2,2),(5,3)] 4 rfl ?_
      refine ⟨ks.length - (i + 1),by omega,i + 1,rfl,by omega,rfl,.inr ⟨by omega,?_⟩⟩
      simp only [SW,← etake,renL_fL,↓reduceIte,reduceCtorEq,Nat.reduceEqDiff]
    ·have hil:i=ks.length:=by omega
     subst hil
     rcases hπ with ⟨h0,rfl⟩ | ⟨hi0,rfl⟩
     ·have hk0:ks=[]:=List.length_eq_zero_iff.1 h0
      subst hk0
      repeat (refine PRun.wpn rfl ?_;simp only [SW,↓reduceIte,reduceCtorEq,Nat.reduceAdd,Nat.reduceEqDiff])
      refine .refl ⟨_,rfl,?_⟩
      exact .agg (.cons (.refl _) (.cons (.refl _) (.cons .nil_sz .nil)))
     ·rw [List.take_length]
      repeat (refine PRun.wpn rfl ?_;simp only [SW,↓reduceIte,reduceCtorEq,Nat.reduceAdd,Nat.reduceEqDiff,ltB_f hlt])
      refine Gh.frz 3 rfl (pureL_fL (rputs pl ks)) rfl ?_
      simp only [SW,↓reduceIte,reduceCtorEq,Nat.reduceEqDiff]
      refine .refl ⟨_,rfl,?_⟩
      rw [← rputs_len pl ks]
      exact .agg (.cons (.refl _) (.cons (.refl _) (.cons .sl_sz .nil)))
   ·obtain ⟨b,hb⟩:∃ b,by_[posN nm fr - 1]? = some b:=⟨by_[posN nm fr - 1]'(by omega),List.getElem?_eq_getElem (by omega)⟩
    have e:(Fm.mk o nm ks).rput pl=b:=by
     have:pl nm=some b:=by rw [← hpl];unfold plBy;rw [if_neg h0];exact hb
     simp only [Fm.rput,this]
     rw [if_pos (by omega)]
    rw [e]
    have hz0:plZ nm fr=((posN nm fr - 1:Nat):Int):=by unfold plZ;omega
    rw [hz0] at hpc
    have hcp:=rcopy_ok hm hC b.size b (Nat.le_refl _) (hbz _ _ hb)
    have hcut:=fL_cut hb
    have hlt:((posN nm fr - 1:Nat):Int) < (by_.length:Nat):=by omega
    generalize posN nm fr - 1=q at *
    obtain ⟨bo,bn,bk⟩:=b
    simp only [fP,fC] at hcp hcut
    refine PFun.body hm hC (show Tryz.tab.get 97=some Tryz.c97 from rfl) rfl ?_
    simp only [SW,Tryz.c97,startP,Nat.reduceAdd,Nat.reduceSub,List.replicate,fP,fC]
    repeat (refine PRun.wpn rfl ?_;simp only [SW,↓reduceIte,reduceCtorEq,Nat.reduceAdd])
    refine .refl (PFun.to (hpc) rfl (POps.wp ?_))
    simp only [SW]
    repeat (refine PRun.wpn rfl ?_;simp only [SW,↓reduceIte,reduceCtorEq,eqB_t h3,leB_t (show (0:Int)≤((q:Nat):Int) by omega),hlt,hcut])
    refine .refl (PFun.to (hcp) rfl (POps.wp ?_))
    simp only [SW,↓reduceIte,Nat.reduceAdd]
    repeat (refine PRun.wpn rfl ?_;simp only [wp,or_true,true_and,reduceCtorEq])
    exact .refl ⟨_,rfl,.refl _⟩
  ·have e:(Fm.mk o nm ks).rput pl = .mk o nm (rputs pl ks):=by
    simp only [Fm.rput]
    rw [if_neg (by omega)]
   rw [e]
   generalize plZ nm fr=pz at hpc
   refine PFun.body hm hC (show Tryz.tab.get 97=some Tryz.c97 from rfl) rfl ?_
   simp only [SW,Tryz.c97,startP,Nat.reduceAdd,Nat.reduceSub,List.replicate,fP,fC]
   repeat (refine PRun.wpn rfl ?_;simp only [SW,↓reduceIte,reduceCtorEq,Nat.reduceAdd])
   refine .refl (PFun.to (hpc) rfl (POps.wp ?_))
   simp only [SW]
   repeat (refine PRun.wpn rfl ?_;simp only [SW,↓reduceIte,reduceCtorEq,Nat.reduceAdd,eqB_f h3])
   refine PRun.gh (Gh.mask mkPuD5 ?_)
   simp only [mkPuD5,↓reduceIte,Bool.false_eq_true,maskP]
   refine PRun.loopG (fun m t π=>∃ i:Nat,t=(.junk::.sz (sL fr) fr.length::.sz (fL by_) by_.length::.ptr 0 0::.junk::.junk::.ptr 1 0::.junk::.ptr 2 0::.lit (.int .i64 (i:Nat))::.junk::.junk::.junk::.junk::.junk::.junk::.junk::.junk::.junk::.junk::.junk::.junk::.junk::.junk::.junk::.junk::.junk::.junk::.junk::.junk::.junk::.junk::.junk::.junk::.junk::.junk::.junk::.junk::.junk::.junk::.junk::.junk::.junk::.junk::.junk::.junk::.junk::.junk::.junk::.junk::.junk::.junk::[])∧i≤ks.length∧m=ks.length - i∧((i=0∧π=⟨3,[(2,.cells [.lit (.int .u8 (o:Nat)),.lit (.string nm),.lit (.slice none 0 0)] 27 3 true false []),(1,.cells [.lit (.int .u8 0),.lit (.string ⟨#[]⟩),.lit (.slice none 0 0)] 27 3 true false []),(0,.cells [.lit (.int .u8 (o:Nat)),.lit (.string nm),.sz (fL ks) ks.length] 27 3 true false [])]⟩)∨
    (0 < i∧π=⟨4,[(3,.cells (fL (rputs pl (ks.take i))) 27 3 false false []),(2,.cells [.lit (.int .u8 (o:Nat)),.lit (.string nm),.loc 3 0 i i] 27 3 true false []),(1,.cells [.lit (.int .u8 0),.lit (.string ⟨#[]⟩),.lit (.slice none 0 0)] 27 3 true false []),(0,.cells [.lit (.int .u8 (o:Nat)),.lit (.string nm),.sz (fL ks) ks.length] 27 3 true false [])]⟩))) ?_ ks.length _ _ ⟨0,rfl,by omega,rfl,.inl ⟨rfl,rfl⟩⟩
   rintro m t π ⟨i,rfl,hi,rfl,hπ⟩
   by_cases hlt:(i:Int) < (ks.length:Nat)
   ·obtain ⟨k,hk⟩:∃ k,ks[i]? = some k:=⟨ks[i]'(by omega),List.getElem?_eq_getElem (by omega)⟩
    have h1:=size_kid hk
    have hcut:=fL_cut hk
    have hrec:=ih k (by omega) (by omega)
    have etake:fL (rputs pl (ks.take (i + 1)))=fL (rputs pl (ks.take i))++fC (k.rput pl):=by rw [List.take_add_one,hk,rputs_app,fL_app];simp [fL,rputs]
    generalize k.rput pl=kr at hrec etake
    obtain ⟨ro,rn,rk⟩:=kr
    have w1:IntKind.i64.wrap (((i:Nat):Int) + 1)=((i + 1:Nat):Int):=by rw [wrap64 (by omega) (by omega)];omega
    obtain ⟨o',nm',ks'⟩:=k
    simp only [fP,fC] at hrec hcut etake
    rcases hπ with ⟨rfl,rfl⟩ | ⟨hi0,rfl⟩
    ·simp only [nc0,Nat.zero_mul,List.drop_zero] at hlt hcut
     repeat (refine PRun.wpn rfl ?_;simp only [SW,↓reduceIte,reduceCtorEq,ltB_t hlt])
     refine PDraw.stage (Nat.zero_le _) rfl ?_
     try dsimp only
     simp only [SW,↓reduceIte,reduceCtorEq,Nat.reduceAdd,Nat.reduceMul,hlt,hcut]
     refine PDE.pure hrec rfl ?_
     refine PDraw.stage (Nat.zero_le _) rfl ?_
     try dsimp only
     simp only [SW,↓reduceIte,Nat.reduceAdd]
     refine PDE.ev (Nat.zero_le _) ?_
     simp only [SW,↓reduceIte,Nat.reduceAdd,Nat.reduceMul,Nat.reduceLeDiff,Nat.reduceLT]
     refine PDraw.stage (Nat.zero_le _) rfl ?_
     try dsimp only
     simp only [SW]
     refine PDE.ev (Nat.zero_le _) ?_
     simp only [SW,↓reduceIte,Nat.reduceEqDiff]
     refine PDraw.last (Nat.zero_le _) rfl ?_
     try dsimp only
     simp only [wx_nil]
     simp only [nc0] at w1
     repeat (refine PRun.wpn rfl ?_;simp only [SW,w1])
     refine Gh.mr mkPuD5 [(0,0),(1,1),(2,2),(4,3)] 4 rfl ?_
     refine ⟨ks.length - 1,by omega,1,rfl,by omega,rfl,.inr ⟨by omega,?_⟩⟩
     simp only [SW,etake,rputs,fL,↓reduceIte,reduceCtorEq,Nat.reduceEqDiff]
    ·have q1:¬ i + 1≤i:=by omega
     have q2:¬ 140737488355328 < (2 * (i + 1) + 768) * 48:=by omega
     have q3:(fL (rputs pl (ks.take i))).length=i * 3:=by rw [fL_len,rputs_len,List.length_take,Nat.min_eq_left hi]
     have q4:=cut_all q3
     have q5:i ≠ 0:=by omega
     repeat (refine PRun.wpn rfl ?_;simp only [SW,↓reduceIte,reduceCtorEq,ltB_t hlt])
     refine PDraw.stage (Nat.zero_le _) rfl ?_
     try dsimp only
     simp only [SW,↓reduceIte,reduceCtorEq,Nat.reduceAdd,Nat.reduceEqDiff,hlt,hcut]
     refine PDE.pure hrec rfl ?_
     refine PDraw.stage (Nat.zero_le _) rfl ?_
     try dsimp only
     simp only [SW,↓reduceIte,Nat.reduceAdd]
     refine PDE.ev (Nat.zero_le _) ?_
     simp only [SW,↓reduceIte,Nat.reduceAdd,Nat.reduceMul,Nat.reduceEqDiff,q1,q2,q3,q4,bne_self_eq_false]
     refine PDraw.stage (Nat.zero_le _) rfl ?_
     try dsimp only
     simp only [SW]
     refine PDE.ev (Nat.zero_le _) ?_
     simp only [SW,↓reduceIte,Nat.reduceEqDiff]
     refine PDraw.last (Nat.zero_le _) rfl ?_
     try dsimp only
     simp only [wx_nil]
     repeat (refine PRun.wpn rfl ?_;simp only [SW,w1])
     refine Gh.mr mkPuD5 [(0,0),(1,1),(2,2),(5,3)] 4 rfl ?_
     refine ⟨ks.length - (i + 1),by omega,i + 1,rfl,by omega,rfl,.inr ⟨by omega,?_⟩⟩
     simp only [SW,← etake,renL_fL,↓reduceIte,reduceCtorEq,Nat.reduceEqDiff]
   ·have hil:i=ks.length:=by omega
    subst hil
    rcases hπ with ⟨h0,rfl⟩ | ⟨hi0,rfl⟩
    ·have hk0:ks=[]:=List.length_eq_zero_iff.1 h0
     subst hk0
     repeat (refine PRun.wpn rfl ?_;simp only [SW,↓reduceIte,reduceCtorEq,Nat.reduceAdd,Nat.reduceEqDiff])
     refine .refl ⟨_,rfl,?_⟩
     exact .agg (.cons (.refl _) (.cons (.refl _) (.cons .nil_sz .nil)))
    ·rw [List.take_length]
     repeat (refine PRun.wpn rfl ?_;simp only [SW,↓reduceIte,reduceCtorEq,Nat.reduceAdd,Nat.reduceEqDiff,ltB_f hlt])
     refine Gh.frz 3 rfl (pureL_fL (rputs pl ks)) rfl ?_
     simp only [SW,↓reduceIte,reduceCtorEq,Nat.reduceEqDiff]
     refine .refl ⟨_,rfl,?_⟩
     rw [← rputs_len pl ks]
     exact .agg (.cons (.refl _) (.cons (.refl _) (.cons .sl_sz .nil)))
end
end Go.Proofs.YtnpoloachkcadaaGreatDoor.Ai
namespace Go.Proofs.YtnpoloachkcadaaGreatDoor.Ai
set_option linter.unusedSimpArgs false
open Go
set_option linter.unusedVariables false
set_option linter.unusedSectionVars false
set_option maxRecDepth 10000
set_option maxHeartbeats 2000000
def dgS (n:Nat):ByteArray:=⟨⟨Lib.decDigits n⟩⟩
def tenS:ByteArray:=⟨#[48,49,50,51,52,53,54,55,56,57]⟩
section
variable {C:Ctx} (hm:C.P.follows .mixedOrders=true) (hC:TabOK C.P C.ng C.ts Tryz.tab)
include hm hC
end
end Go.Proofs.YtnpoloachkcadaaGreatDoor.Ai
namespace Go.Proofs.YtnpoloachkcadaaGreatDoor.Ai
set_option linter.unusedSimpArgs false
open Go
set_option linter.unusedVariables false
set_option linter.unusedSectionVars false
set_option maxRecDepth 10000
set_option maxHeartbeats 4000000
def tlC:List (ByteArray × Fm)→List PV
 | []=>[]
 | (p,f)::l=>.lit (.string p)::(fC f++tlC l)
def TlAt (H:List (Nat × PObj)) (nx lid:Nat) (l:List (ByteArray × Fm)):Prop:=l ≠ []→lid < nx∧look H lid=some (.cells (tlC l) 69 4 false false [])
theorem nm_sz (b:Nat) (cs:List PV) (n:Nat):nmP b (.sz cs n)=true:=by simp only [nmP]
noncomputable def subS (pt:ByteArray) (i:Nat):ByteArray:=belowS dgS pt i
def TlPost (nx lid:Nat) (H:List (Nat × PObj)) (l l':List (ByteArray × Fm)) (r:PV) (π':PW):Prop:=
 nx≤π'.next∧∃ lid',r=slotP (lid',l'.length)∧nx≤lid'∧TlAt π'.heap π'.next lid' l'∧∀ id o,id < nx→(l ≠ []→id ≠ lid)→look H id=some o→look π'.heap id=some o
section
variable {C:Ctx} (hm:C.P.follows .mixedOrders=true) (hC:TabOK C.P C.ng C.ts Tryz.tab)
include hm hC
end
end Go.Proofs.YtnpoloachkcadaaGreatDoor.Ai
namespace Go.Proofs.YtnpoloachkcadaaGreatDoor.Ai
set_option linter.unusedSimpArgs false
open Go
set_option linter.unusedVariables false
set_option linter.unusedSectionVars false
set_option maxRecDepth 10000
set_option maxHeartbeats 4000000
def hitN (nm:ByteArray) (x:ByteArray × Fm):Prop:=x.2.op=3∧x.2.name=nm
open Classical in
noncomputable def cntV (nm:ByteArray):List (ByteArray × Fm)→Nat
 | []=>0
 | (_,.mk o n _)::l=>(if o=3∧n=nm then 1 else 0) + cntV nm l
theorem cntV_app (nm:ByteArray):∀ a b:List (ByteArray × Fm),cntV nm (a++b)=cntV nm a + cntV nm b
 | [],b=>by simp [cntV]
 | (_,.mk o n _)::a,b=>by simp only [List.cons_append,cntV,cntV_app nm a b];omega
mutual
theorem cnt_visits (nm:ByteArray) (itS:Nat→ByteArray):∀ (f:Fm) (p:ByteArray),cntV nm (f.visits itS p)=f.cnt nm
 | .mk o n ks,p=>by
  simp only [Fm.visits,cntV,Fm.cnt,cnts_visits nm itS ks]
theorem cnts_visits (nm:ByteArray) (itS:Nat→ByteArray):∀ (ks:List Fm) (p:ByteArray) (i:Nat),cntV nm (visitss itS p i ks)=cnts nm ks
 | [],p,i=>rfl
 | k::ks,p,i=>by simp only [visitss,cntV_app,cnts,cnt_visits nm itS k,cnts_visits nm itS ks]
end
mutual
theorem rput_size (nm:ByteArray) (b:Fm):∀ f:Fm,(f.rput (plP nm b)).size≤f.size * (b.size + 1)
 | .mk o n ks=>by
  have h:=rputs_size nm b ks
  have e:(1 + sizes ks) * (b.size + 1)=b.size + 1 + sizes ks * (b.size + 1):=by rw [Nat.add_mul,Nat.one_mul]
  simp only [Fm.rput,plP,Fm.size]
  rw [e]
  split
  ·by_cases hn:n=nm
   ·simp only [hn,if_true];omega
   ·simp only [hn,if_false,Fm.size];omega
  ·simp only [Fm.size];omega
theorem rputs_size (nm:ByteArray) (b:Fm):∀ ks:List Fm,sizes (rputs (plP nm b) ks)≤sizes ks * (b.size + 1)
 | []=>by simp [rputs,sizes]
 | k::ks=>by
  have h1:=rput_size nm b k
  have h2:=rputs_size nm b ks
  simp only [rputs,sizes,Nat.add_mul];omega
end
theorem tk0:tkW 0=fun _=>true:=by
 funext o
 unfold tkW
 rw [eqB_f (show ¬ (0:Int)=1 by omega),eqB_f (show ¬ (0:Int)=2 by omega)];rfl
section
variable {C:Ctx} (hm:C.P.follows .mixedOrders=true) (hC:TabOK C.P C.ng C.ts Tryz.tab)
include hm hC
theorem rFormed_ok (f:Fm) (hok:f.ok) (hn:f.size < 2 ^ 60):PFun C 95 [fP f] (.lit (.bool (yesB (f.formed fun _=>true)))):=by
 have hc:=rformed_ok hm hC 0 f.size f (Nat.le_refl _) hok hn
 rw [tk0] at hc
 obtain ⟨o,nm,ks⟩:=f
 simp only [fP,fC] at hc
 refine PFun.body hm hC (show Tryz.tab.get 95=some Tryz.c95 from rfl) rfl ?_
 simp only [SW,Tryz.c95,startP,Nat.reduceAdd,Nat.reduceSub,List.replicate,fP,fC]
 repeat (refine PRun.wpn rfl ?_;simp only [SW,↓reduceIte])
 refine .refl (PFun.to (hc) rfl (POps.wp ?_))
 simp only [SW]
 repeat (refine PRun.wpn rfl ?_;simp only [wp,or_true,true_and,reduceCtorEq])
 exact .refl ⟨_,rfl,.refl _⟩
end
end Go.Proofs.YtnpoloachkcadaaGreatDoor.Ai
namespace Go.Proofs.YtnpoloachkcadaaGreatDoor.Ai
set_option linter.unusedSimpArgs false
open Go
set_option linter.unusedVariables false
set_option linter.unusedSectionVars false
set_option maxRecDepth 10000
set_option maxHeartbeats 4000000
mutual
theorem gs_put {tk:Nat→Bool} (nm:ByteArray) (b:Fm):∀ f:Fm,f.formed tk→f.gs nm b.size=(f.repl (putG nm b)).size
 | .mk o n ks,h=>by
  by_cases h3:o=3
  ·subst h3
   have:=formed_kids0 h
   subst this
   by_cases h4:n=nm
   ·subst h4
    simp only [Fm.gs,Fm.repl,putG,Fm.name,and_self,if_true]
   ·simp only [Fm.gs,Fm.repl,putG,Fm.name,if_true,h4,and_false,if_false,Fm.size,gss,sizes]
  ·have hh:=h
   simp only [Fm.formed] at hh
   simp only [Fm.gs,Fm.repl,h3,false_and,if_false,Fm.size,gss_put nm b ks hh.2.2.2.2.2.2]
theorem gss_put {tk:Nat→Bool} (nm:ByteArray) (b:Fm):∀ ks:List Fm,formeds tk ks→gss nm b.size ks=sizes (repls (putG nm b) ks)
 | [],_=>by simp [gss,repls,sizes]
 | k::ks,h=>by
  simp only [formeds] at h
  simp only [gss,repls,sizes,gs_put nm b k h.1,gss_put nm b ks h.2]
end
theorem look_eq {H H':List (Nat × PObj)} {i:Nat} (h:H=H'):look H' i=look H i:=by rw [h]
theorem look_self' {i:Nat} {o:PObj} {H:List (Nat × PObj)}:look ((i,o)::H) i=some o:=by simp only [look,if_true]
theorem mC_three (t:Mt):∃ a b c,mC t=[a,b,c]∧mtP t = .agg [a,b,c]∧plainP a=true∧plainP b=true∧plainP c=true:=by
 have h1:=mC_len t
 have h2:=plain_mC t
 have h3:mtP t = .agg (mC t):=rfl
 rw [h3]
 generalize mC t=m at *
 match m,h1 with
 | [a,b,c],_=>
  simp only [allPlain,Bool.and_true,Bool.and_eq_true] at h2
  exact ⟨a,b,c,rfl,rfl,h2⟩
theorem BookI.empty {H:List (Nat × PObj)} {nx bk j:Nat} {ex:Bool} (hb:bk < nx) (h:look H bk=some (.cells [.lit (.slice none 0 0),.lit (.slice none 0 0),.lit (.slice none 0 0),.lit (.slice none 0 0),.lit (.slice none 0 0),.lit (.slice none 0 0),.lit (.slice none 0 0),.lit (.slice none 0 0),.lit (.slice none 0 0),.lit (.slice none 0 0),.lit (.slice none 0 0),.lit (.slice none 0 0),.lit (.slice none 0 0)] 51 13 ex false [])):BookI H nx bk j []:=
 ⟨⟨hb,ex,h⟩,fun h=>absurd rfl h,fun i p h=>by simp at h,⟨fun i i' p p' h=>by simp at h,fun i p h=>by simp at h⟩⟩
theorem BookI.keep2 {H H':List (Nat × PObj)} {nx nx' bk j:Nat} {ps:List (Nat × Nat)} (h:BookI H nx bk j ps) (hn:nx≤nx') (hk:∀ id o,id < nx→(id=bk∨(ps ≠ []∧id=j)∨∃ q∈ps,q.2 ≠ 0∧q.1=id)→look H id=some o→look H' id=some o):BookI H' nx' bk j ps:=
 ⟨⟨Nat.lt_of_lt_of_le h.hbk.1 hn,h.hbk.2.imp fun ex e=>hk _ _ h.hbk.1 (.inl rfl) e⟩,fun h0=>by
  obtain ⟨h1,h2,al,h3⟩:=h.arr h0
  exact ⟨h1,Nat.lt_of_lt_of_le h2 hn,al,hk _ _ h2 (.inr (.inl ⟨h0,rfl⟩)) h3⟩,fun i p hp h0=>by
  obtain ⟨h1,h2,h2',cs,ex,h3,h4⟩:=h.lst i p hp h0
  exact ⟨h1,Nat.lt_of_lt_of_le h2 hn,h2',cs,ex,h3,hk _ _ h2 (.inr (.inr ⟨p,List.mem_iff_getElem?.2 ⟨i,hp⟩,h0,rfl⟩)) h4⟩,h.dis⟩
theorem GL.snoc2 {lo:Nat} {H H1 H':List (Nat × PObj)} {nx nx1 nx' lid lid':Nat} {ts:List Mt} {t:Mt} {f:Fm} {H0:List (Nat × PObj)} (h:GL lo H nx lid ts) (hlo:lo≤nx) (ht:NewT false f nx H0 t nx1 H1) (hl:nx1≤lid') (hl':lid' < nx')
  (hc:look H' lid'=some (.cells (mL (ts++[t])) 27 3 false false [])) (hk1:∀ i∈idsL ts,∀ o,look H i=some o→look H' i=some o) (hk2:∀ i∈t.ids,∀ o,look H1 i=some o→look H' i=some o):GL lo H' nx' lid' (ts++[t]):=by
 have hn:=ht.nn
 have hold:∀ i∈idsL ts,i < nx:=h.trs.lt
 refine ⟨fun _=>⟨by omega,hl',hc⟩,InHL_app.2 ⟨h.trs.keep (by omega) hk1,⟨ht.inn.keep (by omega) hk2,trivial⟩⟩,rmIL_app.2 ⟨h.rm,ht.rm,trivial⟩,?_,fun i hi=>?_⟩
 ·rw [idsL_app]
  refine List.nodup_append.2 ⟨h.nd,by simpa [idsL] using ht.nd,fun a ha c hc e=>?_⟩
  subst e
  simp only [idsL,List.append_nil] at hc
  have:=hold a ha;have:=ht.lo a hc;omega
 ·rw [idsL_app,List.mem_append] at hi
  rcases hi with hi | hi
  ·have:=hold i hi
   exact ⟨(h.lo i hi).1,by omega⟩
  ·simp only [idsL,List.append_nil] at hi
   have:=ht.lo i hi;have:=ht.inn.lt i hi
   exact ⟨by omega,by omega⟩
theorem nm_three {H:List (Nat × PObj)} {nx nx':Nat} {t:Mt} {a b c:PV} (h:InH H nx t) (hn:nx≤nx') (e:mC t=[a,b,c]):nmP nx' a=true∧nmP nx' b=true∧nmP nx' c=true:=by
 have:=nm_mC (h.keep (H':=H) hn fun _ _ _ h=>h)
 rw [e] at this
 simpa only [nmL,Bool.and_true,Bool.and_eq_true] using this
theorem sizes_all {w:Fm}:∀ {ts:List Mt},(∀ t∈ts,t.fm=w)→sizes (fms ts)=ts.length * w.size
 | [],_=>by simp [fms,sizes]
 | t::ts,h=>by
  have h1:=sizes_all (ts:=ts) fun x hx=>h x (List.mem_cons_of_mem _ hx)
  simp only [fms,sizes,List.length_cons,h t (by simp),h1,Nat.add_mul,Nat.one_mul];omega
structure Rnd (lo bk:Nat) (H0 H:List (Nat × PObj)) (nx lid j:Nat) (ts:List Mt):Prop where
 le:lo≤nx
 bl:bk + 1=lo
 gl:GL lo H nx lid ts
 bi:BookI H nx bk j (nodesL ts)
 old:∀ id o,id < lo→id ≠ bk→look H0 id=some o→look H id=some o
theorem Rnd.off {lo bk nx lid j:Nat} {H0 H:List (Nat × PObj)} {ts:List Mt} (h:Rnd lo bk H0 H nx lid j ts) (hts:ts ≠ []):lid ≠ bk∧(nodesL ts ≠ []→lid ≠ j)∧∀ q∈nodesL ts,q.2 ≠ 0→q.1 ≠ lid:=by
 obtain ⟨h1,h2,h3⟩:=h.gl.lst hts
 exact ⟨(h.bi.off h3).1,(h.bi.off h3).2,fun q hq h0=>(h.gl.lo _ (nodesL_ids hq h0)).2⟩
theorem Rnd.bookB {lo bk nx nx1 lid j:Nat} {H0 H H1 Hb:List (Nat × PObj)} {ts:List Mt} {g:Mt} {f:Fm} (h:Rnd lo bk H0 H nx lid j ts) (hg:NewT false f nx H g nx1 H1)
  (hb:∀ id,id < nx1→(ts ≠ []→id ≠ lid)→look Hb id=look H1 id):BookI Hb (nx1 + 1 + 1 + 1) bk j (nodesL ts)∧InH Hb (nx1 + 1 + 1 + 1) g∧Off bk (nodesL ts) g.ids:=by
 have hn:=hg.nn
 refine ⟨h.bi.keep2 (by omega) fun id o h1 h2 h3=>?_,hg.inn.keep (by omega) fun id hi o h3=>?_,fun i hi=>?_,fun q hq h0 hi=>?_⟩
 ·rw [hb id (by omega) (fun hts=>?_),hg.old id h1];exact h3
  obtain ⟨o1,o2,o3⟩:=h.off hts
  rcases h2 with rfl | ⟨h2,rfl⟩ | ⟨q,hq,h0,rfl⟩
  ·exact fun e=>o1 e.symm
  ·exact fun e=>o2 h2 e.symm
  ·exact o3 q hq h0
 ·rw [hb id (hg.inn.lt id hi) (fun hts=>?_)];exact h3
  have:=hg.lo id hi;have:=(h.gl.lst hts).2.1;omega
 ·have:=hg.lo i hi;have:=h.le;have:=h.bl;omega
 ·have:=h.gl.trs.lt _ (nodesL_ids hq h0);have:=hg.lo _ hi;omega
theorem Rnd.next {lo bk nx nx1 nx' lid j j':Nat} {H0 H H1 Hb H':List (Nat × PObj)} {ts:List Mt} {g:Mt} {f:Fm} (h:Rnd lo bk H0 H nx lid j ts) (hg:NewT false f nx H g nx1 H1)
  (hb:∀ id,id < nx1→(ts ≠ []→id ≠ lid)→look Hb id=look H1 id) (hl:look Hb (nx1 + 1 + 1)=some (.cells (mL (ts++[g])) 27 3 false false []))
  (hn':nx1 + 1 + 1 + 1≤nx') (hB:BookI H' nx' bk j' (nodesL ts++g.nodes)) (hk:∀ id o,id < nx1 + 1 + 1 + 1→id ≠ bk→(nodesL ts ≠ []→id ≠ j)→look Hb id=some o→look H' id=some o):Rnd lo bk H0 H' nx' (nx1 + 1 + 1) j' (ts++[g]):=by
 have hn:=hg.nn
 have hlo:=h.le
 have hbl:=h.bl
 refine ⟨by omega,hbl,h.gl.snoc2 hlo hg (by omega) (by omega) (hk _ _ (by omega) (by omega) (fun h0=>by have:=(h.bi.arr h0).2.1;omega) hl) (fun i hi o ho=>?_) (fun i hi o ho=>?_),by rw [nodesL_app];simp only [nodesL,List.append_nil];exact hB,fun id o h1 h2 h3=>?_⟩
 ·have hlt:=h.gl.trs.lt i hi
  obtain ⟨rm,ks,ex,hob⟩:=h.gl.trs.obj i hi
  have hof:=h.bi.off hob
  refine hk i o (by omega) hof.1 hof.2 ?_
  rw [hb i (by omega) (fun _=>(h.gl.lo i hi).2),hg.old i hlt];exact ho
 ·have hlt:=hg.inn.lt i hi
  have hge:=hg.lo i hi
  refine hk i o (by omega) (by omega) (fun h0=>by have:=(h.bi.arr h0).2.1;omega) ?_
  rw [hb i hlt (fun hts=>by have:=(h.gl.lst hts).2.1;omega)];exact ho
 ·refine hk id o (by omega) h2 (fun h0=>by have:=(h.bi.arr h0).1;omega) ?_
  rw [hb id (by omega) (fun hts=>by have:=(h.gl.lst hts).1;omega),hg.old id (by omega)];exact h.old id o h1 h2 h3
section
variable {C:Ctx} (hm:C.P.follows .mixedOrders=true) (hC:TabOK C.P C.ng C.ts Tryz.tab)
include hm hC
end
end Go.Proofs.YtnpoloachkcadaaGreatDoor.Ai
