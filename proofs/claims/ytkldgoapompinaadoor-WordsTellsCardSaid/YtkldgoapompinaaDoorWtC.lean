/- A PART OF THE PROOF: a step of the proof that the law's code does what its contracts say, by an interpreter of the program's functions that is proved to be sound. -/
import Derived.Test.YtkldgoapompinaaDoorPv5
import Derived.Test.YtkldgoapompinaaDoorWtB
namespace Go.Proofs.YtkldgoapompinaaDoor.Ai
set_option linter.unusedSimpArgs false
open Go
set_option linter.unusedVariables false
set_option linter.unusedSectionVars false
set_option maxRecDepth 10000
set_option maxHeartbeats 4000000
def mkWtC1:List Bool:=(false::false::false::false::true::false::false::false::false::false::false::false::false::false::false::false::false::false::false::false::false::false::false::false::false::[])
def mkWtC2:List Bool:=(false::false::true::false::false::true::false::false::false::false::false::false::false::true::true::false::false::false::false::false::false::false::false::false::false::[])
def mkWtC3:List Bool:=(false::false::false::false::true::false::false::false::false::false::false::false::false::false::false::false::false::false::false::false::false::false::false::false::false::false::false::false::false::[])
def mkWtC4:List Bool:=(false::true::true::false::false::true::true::false::false::false::false::false::false::false::false::false::false::false::false::false::false::false::false::false::false::false::false::false::false::[])
def mkWtC5:List Bool:=(true::true::false::false::true::true::false::false::false::false::false::false::false::false::false::false::false::false::false::false::false::false::false::false::false::false::false::false::false::[])
def mkWtC6:List Bool:=(false::false::true::false::false::false::false::false::false::false::false::false::false::false::false::false::false::false::false::false::false::false::false::false::false::false::false::false::false::false::false::false::false::false::false::false::false::false::false::false::false::false::false::false::false::false::false::false::false::false::false::false::false::false::false::false::false::false::false::false::false::false::false::false::false::false::false::false::false::false::false::false::false::false::false::false::false::false::false::false::false::false::false::false::false::[])
def mkWtC7:List Bool:=(false::true::true::true::false::false::false::false::false::false::false::false::false::false::false::false::false::false::false::false::false::false::false::false::false::false::false::false::false::false::false::false::false::false::false::false::false::false::false::false::false::false::false::false::false::false::false::false::false::false::false::false::false::false::false::false::false::false::false::false::false::false::false::false::false::false::false::false::false::false::false::false::false::false::false::false::false::false::false::false::false::false::false::false::false::[])
def mkWtC8:List Bool:=(false::true::true::true::false::true::true::false::false::false::false::false::false::false::false::false::false::false::false::false::false::false::false::false::false::false::false::false::false::false::false::false::false::false::false::false::false::false::false::false::false::false::false::false::false::false::false::false::false::false::false::false::false::false::false::false::false::false::false::false::false::false::false::false::false::false::false::false::false::false::false::false::false::false::false::false::false::false::false::false::false::false::false::false::false::[])
def mkWtC9:List Bool:=(false::true::true::true::false::false::true::true::false::false::false::false::false::false::false::false::false::false::false::false::false::false::false::false::false::false::false::false::false::false::false::false::false::false::false::false::false::false::false::false::false::false::false::false::false::false::false::false::false::false::false::false::false::false::false::false::false::false::false::false::false::false::false::false::false::false::false::false::false::false::false::false::false::false::false::false::false::false::false::false::false::false::false::false::false::[])
def mkWtC10:List Bool:=(false::true::true::true::false::false::true::true::true::false::false::false::false::false::false::false::false::false::false::false::false::false::false::false::false::false::false::false::false::false::false::false::false::false::false::false::false::false::false::false::false::false::false::false::false::false::false::false::false::false::false::false::false::false::false::false::false::false::false::false::false::false::false::false::false::false::false::false::false::false::false::false::false::false::false::false::false::false::false::false::false::false::false::false::false::[])
def mkWtC11:List Bool:=(false::false::false::false::true::false::false::false::false::false::false::false::false::false::false::false::false::false::false::false::false::false::false::false::false::false::false::[])
def mkWtC12:List Bool:=(false::false::false::false::true::false::false::false::false::false::false::false::false::false::false::false::false::false::false::false::false::false::false::false::false::false::false::false::false::false::false::false::false::false::false::false::false::false::false::false::false::false::false::false::false::false::false::false::false::false::false::false::false::false::false::false::[])
def mkWtC13:List Bool:=(false::false::true::false::false::true::true::false::false::false::false::false::false::false::false::false::false::false::false::false::false::false::false::false::false::false::false::false::false::false::false::false::false::false::false::false::false::false::false::false::false::false::false::false::false::false::false::false::false::false::false::[])
def mkWtC14:List Bool:=(false::false::true::false::false::true::false::true::false::false::false::false::false::false::false::false::false::false::false::false::false::false::false::false::false::false::false::false::false::false::false::false::false::false::false::false::false::false::false::false::false::false::false::false::false::false::false::false::false::false::false::[])
def atV (stem loop:List Int) (i:Int):Int:=if i < 0∨loop.length=0 then 0 else if i.toNat < stem.length then stem.getD i.toNat 0 else loop.getD ((i.toNat - stem.length) % loop.length) 0
def wdP (stem loop:List Int):PV:=.agg [szU stem,szU loop]
def plV (stem loop:List Int):Nat:=if loop.length=0 then 0 else stem.length + loop.length
def behV (stem loop:List Int) (i:Int):Int:=if i < 0∨(plV stem loop:Int)≤i then -1 else if i + 1=(plV stem loop:Nat) then (stem.length:Nat) else i + 1
section
variable {C:Ctx} (hm:C.P.follows .mixedOrders=true) (hC:TabOK C.P C.ng C.ts Tryd.tab)
include hm hC
theorem at_32 (stem loop:List Int) (i:Int) (g0 : -9223372036854775808≤i) (g0':i < 9223372036854775808) (h1:stem.length < 2 ^ 40) (h2:loop.length < 2 ^ 40):PFun C 32 [wdP stem loop,.lit (.int .i64 i)] (.lit (.int .u16 (atV stem loop i))):=by
 by_cases hl:((loop.length:Nat):Int)=0
 ·have e:atV stem loop i=0:=by unfold atV;rw [if_pos (.inr (by omega))]
  rw [e]
  by_cases hi:i < 0
  ·refine PFun.body hm hC (show Tryd.tab.get 32=some Tryd.c32 from rfl) rfl ?_
   simp only [SW,Tryd.c32,startP,Nat.reduceAdd,Nat.reduceSub,List.replicate,wdP,szU]
   repeat (refine PRun.wpn rfl ?_;simp only [SW,↓reduceIte,reduceCtorEq,ltB_t hi])
   exact .refl ⟨_,rfl,.refl _⟩
  ·refine PFun.body hm hC (show Tryd.tab.get 32=some Tryd.c32 from rfl) rfl ?_
   simp only [SW,Tryd.c32,startP,Nat.reduceAdd,Nat.reduceSub,List.replicate,wdP,szU]
   repeat (refine PRun.wpn rfl ?_;simp only [SW,↓reduceIte,reduceCtorEq,eqB_t hl,ltB_f hi])
   exact .refl ⟨_,rfl,.refl _⟩
 by_cases hi:i < 0
 ·have e:atV stem loop i=0:=by unfold atV;rw [if_pos (.inl hi)]
  rw [e]
  refine PFun.body hm hC (show Tryd.tab.get 32=some Tryd.c32 from rfl) rfl ?_
  simp only [SW,Tryd.c32,startP,Nat.reduceAdd,Nat.reduceSub,List.replicate,wdP,szU]
  repeat (refine PRun.wpn rfl ?_;simp only [SW,↓reduceIte,reduceCtorEq,ltB_t hi])
  exact .refl ⟨_,rfl,.refl _⟩
 obtain ⟨n,rfl⟩:∃ n:Nat,i=n:=⟨i.toNat,by omega⟩
 by_cases hs:((n:Nat):Int) < (stem.length:Nat)
 ·have hs':n < stem.length:=by omega
  have e:atV stem loop (n:Nat)=stem[n]:=by
   unfold atV
   rw [if_neg (by omega),if_pos (by omega)]
   simp [List.getD,List.getElem?_eq_getElem hs']
  rw [e]
  refine PFun.body hm hC (show Tryd.tab.get 32=some Tryd.c32 from rfl) rfl ?_
  simp only [SW,Tryd.c32,startP,Nat.reduceAdd,Nat.reduceSub,List.replicate,wdP,szU]
  repeat (refine PRun.wpn rfl ?_;simp only [SW,↓reduceIte,reduceCtorEq,eqB_f hl,ltB_f hi,ltB_t hs,hs,L16_drop hs'])
  exact .refl ⟨_,rfl,.refl _⟩
 ·have hk:(n - stem.length) % loop.length < loop.length:=Nat.mod_lt _ (by omega)
  have e:atV stem loop (n:Nat)=loop[(n - stem.length) % loop.length]:=by
   unfold atV
   rw [if_neg (by omega),if_neg (by omega)]
   simp only [Int.toNat_natCast]
   simp [List.getD,List.getElem?_eq_getElem hk]
  rw [e]
  have e1:IntKind.i64.wrap ((n:Int) - (stem.length:Nat))=((n - stem.length:Nat):Int):=by rw [wrap64 (by omega) (by omega)];omega
  generalize hkk:(n - stem.length) % loop.length=k at hk ⊢
  have hk':((k:Nat):Int) < (loop.length:Nat):=by omega
  refine PFun.body hm hC (show Tryd.tab.get 32=some Tryd.c32 from rfl) rfl ?_
  simp only [SW,Tryd.c32,startP,Nat.reduceAdd,Nat.reduceSub,List.replicate,wdP,szU]
  repeat (refine PRun.wpn rfl ?_;simp only [SW,↓reduceIte,reduceCtorEq,eqB_f hl,ltB_f hi,ltB_f hs])
  refine PDraw.last (Nat.zero_le _) rfl ?_
  try dsimp only
  simp only [SW,↓reduceIte,Nat.reduceAdd,e1,bi_rem hl,tmod_nat,hkk,hk',L16_drop hk]
  repeat (refine PRun.wpn rfl ?_;simp only [wp,or_true,true_and,reduceCtorEq])
  exact .refl ⟨_,rfl,.refl _⟩
theorem at_33 (stem loop:List Int) (i:Int) (g0 : -9223372036854775808≤i) (g0':i < 9223372036854775808) (h1:stem.length < 2 ^ 40) (h2:loop.length < 2 ^ 40):PFun C 33 [wdP stem loop,.lit (.int .i64 i)] (.lit (.int .u16 (atV stem loop i))):=by
 by_cases hl:((loop.length:Nat):Int)=0
 ·have e:atV stem loop i=0:=by unfold atV;rw [if_pos (.inr (by omega))]
  rw [e]
  by_cases hi:i < 0
  ·refine PFun.body hm hC (show Tryd.tab.get 33=some Tryd.c33 from rfl) rfl ?_
   simp only [SW,Tryd.c33,startP,Nat.reduceAdd,Nat.reduceSub,List.replicate,wdP,szU]
   repeat (refine PRun.wpn rfl ?_;simp only [SW,↓reduceIte,reduceCtorEq,eqB_t hl])
   exact .refl ⟨_,rfl,.refl _⟩
  ·refine PFun.body hm hC (show Tryd.tab.get 33=some Tryd.c33 from rfl) rfl ?_
   simp only [SW,Tryd.c33,startP,Nat.reduceAdd,Nat.reduceSub,List.replicate,wdP,szU]
   repeat (refine PRun.wpn rfl ?_;simp only [SW,↓reduceIte,reduceCtorEq,eqB_t hl])
   exact .refl ⟨_,rfl,.refl _⟩
 by_cases hi:i < 0
 ·have e:atV stem loop i=0:=by unfold atV;rw [if_pos (.inl hi)]
  rw [e]
  refine PFun.body hm hC (show Tryd.tab.get 33=some Tryd.c33 from rfl) rfl ?_
  simp only [SW,Tryd.c33,startP,Nat.reduceAdd,Nat.reduceSub,List.replicate,wdP,szU]
  repeat (refine PRun.wpn rfl ?_;simp only [SW,↓reduceIte,reduceCtorEq,eqB_f hl,ltB_t hi])
  exact .refl ⟨_,rfl,.refl _⟩
 obtain ⟨n,rfl⟩:∃ n:Nat,i=n:=⟨i.toNat,by omega⟩
 by_cases hs:((n:Nat):Int) < (stem.length:Nat)
 ·have hs':n < stem.length:=by omega
  have e:atV stem loop (n:Nat)=stem[n]:=by
   unfold atV
   rw [if_neg (by omega),if_pos (by omega)]
   simp [List.getD,List.getElem?_eq_getElem hs']
  rw [e]
  refine PFun.body hm hC (show Tryd.tab.get 33=some Tryd.c33 from rfl) rfl ?_
  simp only [SW,Tryd.c33,startP,Nat.reduceAdd,Nat.reduceSub,List.replicate,wdP,szU]
  repeat (refine PRun.wpn rfl ?_;simp only [SW,↓reduceIte,reduceCtorEq,eqB_f hl,ltB_f hi,ltB_t hs,hs,L16_drop hs'])
  exact .refl ⟨_,rfl,.refl _⟩
 ·have hk:(n - stem.length) % loop.length < loop.length:=Nat.mod_lt _ (by omega)
  have e:atV stem loop (n:Nat)=loop[(n - stem.length) % loop.length]:=by
   unfold atV
   rw [if_neg (by omega),if_neg (by omega)]
   simp only [Int.toNat_natCast]
   simp [List.getD,List.getElem?_eq_getElem hk]
  rw [e]
  have e1:IntKind.i64.wrap ((n:Int) - (stem.length:Nat))=((n - stem.length:Nat):Int):=by rw [wrap64 (by omega) (by omega)];omega
  generalize hkk:(n - stem.length) % loop.length=k at hk ⊢
  have hk':((k:Nat):Int) < (loop.length:Nat):=by omega
  refine PFun.body hm hC (show Tryd.tab.get 33=some Tryd.c33 from rfl) rfl ?_
  simp only [SW,Tryd.c33,startP,Nat.reduceAdd,Nat.reduceSub,List.replicate,wdP,szU]
  repeat (refine PRun.wpn rfl ?_;simp only [SW,↓reduceIte,eqB_f hl,ltB_f hi,ltB_f hs])
  refine PDraw.last (Nat.zero_le _) rfl ?_
  try dsimp only
  simp only [SW,↓reduceIte,Nat.reduceAdd,e1,bi_rem hl,tmod_nat,hkk,hk',L16_drop hk]
  repeat (refine PRun.wpn rfl ?_;simp only [wp,or_true,true_and,reduceCtorEq])
  exact .refl ⟨_,rfl,.refl _⟩
theorem places_28 (stem loop:List Int) (h1:stem.length < 2 ^ 40) (h2:loop.length < 2 ^ 40):PFun C 28 [wdP stem loop] (.lit (.int .i64 (plV stem loop:Nat))):=by
 unfold plV
 by_cases hl:((loop.length:Nat):Int)=0
 ·rw [if_pos (by omega)]
  refine PFun.body hm hC (show Tryd.tab.get 28=some Tryd.c28 from rfl) rfl ?_
  simp only [SW,Tryd.c28,startP,Nat.reduceAdd,Nat.reduceSub,List.replicate,wdP,szU]
  repeat (refine PRun.wpn rfl ?_;simp only [SW,↓reduceIte,reduceCtorEq,eqB_t hl])
  exact .refl ⟨_,rfl,.refl _⟩
 ·rw [if_neg (by omega)]
  have e1:IntKind.i64.wrap (((stem.length:Nat):Int) + (loop.length:Nat))=((stem.length + loop.length:Nat):Int):=by rw [wrap64 (by omega) (by omega)];omega
  refine PFun.body hm hC (show Tryd.tab.get 28=some Tryd.c28 from rfl) rfl ?_
  simp only [SW,Tryd.c28,startP,Nat.reduceAdd,Nat.reduceSub,List.replicate,wdP,szU]
  repeat (refine PRun.wpn rfl ?_;simp only [SW,↓reduceIte,reduceCtorEq,eqB_f hl,e1])
  exact .refl ⟨_,rfl,.refl _⟩
theorem places_29 (stem loop:List Int) (h1:stem.length < 2 ^ 40) (h2:loop.length < 2 ^ 40):PFun C 29 [wdP stem loop] (.lit (.int .i64 (plV stem loop:Nat))):=by
 unfold plV
 by_cases hl:((loop.length:Nat):Int)=0
 ·rw [if_pos (by omega)]
  refine PFun.body hm hC (show Tryd.tab.get 29=some Tryd.c29 from rfl) rfl ?_
  simp only [SW,Tryd.c29,startP,Nat.reduceAdd,Nat.reduceSub,List.replicate,wdP,szU]
  repeat (refine PRun.wpn rfl ?_;simp only [SW,↓reduceIte,reduceCtorEq,eqB_t hl])
  exact .refl ⟨_,rfl,.refl _⟩
 ·rw [if_neg (by omega)]
  have e1:IntKind.i64.wrap (((stem.length:Nat):Int) + (loop.length:Nat))=((stem.length + loop.length:Nat):Int):=by rw [wrap64 (by omega) (by omega)];omega
  refine PFun.body hm hC (show Tryd.tab.get 29=some Tryd.c29 from rfl) rfl ?_
  simp only [SW,Tryd.c29,startP,Nat.reduceAdd,Nat.reduceSub,List.replicate,wdP,szU]
  repeat (refine PRun.wpn rfl ?_;simp only [SW,↓reduceIte,reduceCtorEq,eqB_f hl,e1])
  exact .refl ⟨_,rfl,.refl _⟩
theorem behind_30 (stem loop:List Int) (i:Int) (g0 : -9223372036854775808≤i) (g0':i < 9223372036854775808) (h1:stem.length < 2 ^ 40) (h2:loop.length < 2 ^ 40):PFun C 30 [wdP stem loop,.lit (.int .i64 i)] (.lit (.int .i64 (behV stem loop i))):=by
 have hp:=places_28 hm hC stem loop h1 h2
 have hpl:plV stem loop≤stem.length + loop.length:=by unfold plV;split <;> omega
 by_cases hi:i < 0
 ·have e:behV stem loop i = -1:=by unfold behV;rw [if_pos (.inl hi)]
  rw [e]
  simp only [wdP,szU] at hp
  refine PFun.body hm hC (show Tryd.tab.get 30=some Tryd.c30 from rfl) rfl ?_
  simp only [SW,Tryd.c30,startP,Nat.reduceAdd,Nat.reduceSub,List.replicate,wdP,szU]
  repeat (refine PRun.wpn rfl ?_;simp only [SW,↓reduceIte])
  refine .refl (PFun.to (hp) rfl (POps.wp ?_))
  simp only [SW]
  repeat (refine PRun.wpn rfl ?_;simp only [SW,↓reduceIte,reduceCtorEq,ltB_t hi])
  exact .refl ⟨_,rfl,.refl _⟩
 simp only [wdP,szU] at hp
 by_cases hj:((plV stem loop:Nat):Int)≤i
 ·have e:behV stem loop i = -1:=by unfold behV;rw [if_pos (.inr hj)]
  rw [e]
  generalize plV stem loop=N at *
  refine PFun.body hm hC (show Tryd.tab.get 30=some Tryd.c30 from rfl) rfl ?_
  simp only [SW,Tryd.c30,startP,Nat.reduceAdd,Nat.reduceSub,List.replicate,wdP,szU]
  repeat (refine PRun.wpn rfl ?_;simp only [SW,↓reduceIte])
  refine .refl (PFun.to (hp) rfl (POps.wp ?_))
  simp only [SW]
  repeat (refine PRun.wpn rfl ?_;simp only [SW,↓reduceIte,reduceCtorEq,ltB_f hi,leB_t hj])
  exact .refl ⟨_,rfl,.refl _⟩
 ·have hlt:i < (plV stem loop:Nat):=by omega
  by_cases hb:i=(plV stem loop:Nat) - 1
  ·have e:behV stem loop i=(stem.length:Nat):=by unfold behV;rw [if_neg (by omega),if_pos (by omega)]
   rw [e]
   generalize plV stem loop=N at *
   have w1:IntKind.i64.wrap (((N:Nat):Int) - 1)=(N:Nat) - 1:=wrap64 (by omega) (by omega)
   refine PFun.body hm hC (show Tryd.tab.get 30=some Tryd.c30 from rfl) rfl ?_
   simp only [SW,Tryd.c30,startP,Nat.reduceAdd,Nat.reduceSub,List.replicate,wdP,szU]
   repeat (refine PRun.wpn rfl ?_;simp only [SW,↓reduceIte])
   refine .refl (PFun.to (hp) rfl (POps.wp ?_))
   simp only [SW]
   repeat (refine PRun.wpn rfl ?_;simp only [SW,↓reduceIte,reduceCtorEq,ltB_f hi,leB_f hj,w1,eqB_t hb])
   exact .refl ⟨_,rfl,.refl _⟩
  ·have e:behV stem loop i=i + 1:=by unfold behV;rw [if_neg (by omega),if_neg (by omega)]
   rw [e]
   generalize plV stem loop=N at *
   have w1:IntKind.i64.wrap (((N:Nat):Int) - 1)=(N:Nat) - 1:=wrap64 (by omega) (by omega)
   have w2:IntKind.i64.wrap (i + 1)=i + 1:=wrap64 (by omega) (by omega)
   refine PFun.body hm hC (show Tryd.tab.get 30=some Tryd.c30 from rfl) rfl ?_
   simp only [SW,Tryd.c30,startP,Nat.reduceAdd,Nat.reduceSub,List.replicate,wdP,szU]
   repeat (refine PRun.wpn rfl ?_;simp only [SW,↓reduceIte])
   refine .refl (PFun.to (hp) rfl (POps.wp ?_))
   simp only [SW]
   repeat (refine PRun.wpn rfl ?_;simp only [SW,↓reduceIte,reduceCtorEq,ltB_f hi,leB_f hj,w1,eqB_f hb,w2])
   exact .refl ⟨_,rfl,.refl _⟩
theorem behind_31 (stem loop:List Int) (i:Int) (g0 : -9223372036854775808≤i) (g0':i < 9223372036854775808) (h1:stem.length < 2 ^ 40) (h2:loop.length < 2 ^ 40):PFun C 31 [wdP stem loop,.lit (.int .i64 i)] (.lit (.int .i64 (behV stem loop i))):=by
 have hp:=places_29 hm hC stem loop h1 h2
 have hpl:plV stem loop≤stem.length + loop.length:=by unfold plV;split <;> omega
 by_cases hi:i < 0
 ·have e:behV stem loop i = -1:=by unfold behV;rw [if_pos (.inl hi)]
  rw [e]
  simp only [wdP,szU] at hp
  refine PFun.body hm hC (show Tryd.tab.get 31=some Tryd.c31 from rfl) rfl ?_
  simp only [SW,Tryd.c31,startP,Nat.reduceAdd,Nat.reduceSub,List.replicate,wdP,szU]
  repeat (refine PRun.wpn rfl ?_;simp only [SW,↓reduceIte])
  refine .refl (PFun.to (hp) rfl (POps.wp ?_))
  simp only [SW]
  repeat (refine PRun.wpn rfl ?_;simp only [SW,↓reduceIte,reduceCtorEq,ltB_t hi])
  exact .refl ⟨_,rfl,.refl _⟩
 simp only [wdP,szU] at hp
 by_cases hj:((plV stem loop:Nat):Int)≤i
 ·have e:behV stem loop i = -1:=by unfold behV;rw [if_pos (.inr hj)]
  rw [e]
  generalize plV stem loop=N at *
  refine PFun.body hm hC (show Tryd.tab.get 31=some Tryd.c31 from rfl) rfl ?_
  simp only [SW,Tryd.c31,startP,Nat.reduceAdd,Nat.reduceSub,List.replicate,wdP,szU]
  repeat (refine PRun.wpn rfl ?_;simp only [SW,↓reduceIte])
  refine .refl (PFun.to (hp) rfl (POps.wp ?_))
  simp only [SW]
  repeat (refine PRun.wpn rfl ?_;simp only [SW,↓reduceIte,reduceCtorEq,ltB_f hi,leB_t hj])
  exact .refl ⟨_,rfl,.refl _⟩
 ·have hlt:i < (plV stem loop:Nat):=by omega
  have w2:IntKind.i64.wrap (i + 1)=i + 1:=wrap64 (by omega) (by omega)
  by_cases hb:i + 1 < (plV stem loop:Nat)
  ·have e:behV stem loop i=i + 1:=by unfold behV;rw [if_neg (by omega),if_neg (by omega)]
   rw [e]
   generalize plV stem loop=N at *
   refine PFun.body hm hC (show Tryd.tab.get 31=some Tryd.c31 from rfl) rfl ?_
   simp only [SW,Tryd.c31,startP,Nat.reduceAdd,Nat.reduceSub,List.replicate,wdP,szU]
   repeat (refine PRun.wpn rfl ?_;simp only [SW,↓reduceIte])
   refine .refl (PFun.to (hp) rfl (POps.wp ?_))
   simp only [SW]
   repeat (refine PRun.wpn rfl ?_;simp only [SW,↓reduceIte,reduceCtorEq,ltB_f hi,leB_f hj,ltB_t hb,w2])
   exact .refl ⟨_,rfl,.refl _⟩
  ·have e:behV stem loop i=(stem.length:Nat):=by unfold behV;rw [if_neg (by omega),if_pos (by omega)]
   rw [e]
   generalize plV stem loop=N at *
   refine PFun.body hm hC (show Tryd.tab.get 31=some Tryd.c31 from rfl) rfl ?_
   simp only [SW,Tryd.c31,startP,Nat.reduceAdd,Nat.reduceSub,List.replicate,wdP,szU]
   repeat (refine PRun.wpn rfl ?_;simp only [SW,↓reduceIte])
   refine .refl (PFun.to (hp) rfl (POps.wp ?_))
   simp only [SW]
   repeat (refine PRun.wpn rfl ?_;simp only [SW,↓reduceIte,reduceCtorEq,ltB_f hi,leB_f hj,ltB_f hb,w2])
   exact .refl ⟨_,rfl,.refl _⟩
end
end Go.Proofs.YtkldgoapompinaaDoor.Ai
namespace Go.Proofs.YtkldgoapompinaaDoor.Ai
set_option linter.unusedSimpArgs false
open Go
set_option linter.unusedVariables false
set_option linter.unusedSectionVars false
set_option maxRecDepth 10000
set_option maxHeartbeats 4000000
def pfxV (stem loop:List Int) (n:Int):List Int:=if loop.length=0 then [] else (List.range (min n.toNat 65536)).map fun i=>atV stem loop (i:Nat)
inductive LG:PV→PW→List Int→Prop
 | z:LG (.lit (.slice none 0 0)) ⟨0,[]⟩ []
 | s (l:List Int):LG (.loc 0 0 l.length l.length) ⟨1,[(0,.cells (L16 l) 54 1 false false [])]⟩ l
theorem L16_snoc (l:List Int) (x:Int):L16 l++[PV.lit (.int .u16 x)]=L16 (l++[x]):=by simp [L16]
theorem LG.free {r:PV} {π:PW} {a:List Int} (h:LG r π a):freePv r=true∧freeHv π.heap=true:=by
 cases h
 ·exact ⟨rfl,rfl⟩
 ·exact ⟨rfl,by simp only [freeHv,freeOb,free_L16,Bool.and_self]⟩
theorem LG.to {r:PV} {π1:PW} {a:List Int} (h:LG r π1 a) {nx:Nat} {H:List (Nat × PObj)} (h1:1≤nx) {A:PV→PW→Prop}
  (hA:∀ nx' H' p,nx≤nx'→(∀ id o,id < nx→look H id=some o→look H' id=some o)→QF H' nx nx' p a→A (slq p) ⟨nx',H'⟩):A (shP nx r) ((⟨nx,H⟩:PW).with π1):=by
 cases h with
 | z=>exact hA _ _ (0,0) (Nat.le_add_left _ _) (fun id o hi ho=>by rw [look_shH_old hi];exact ho) ⟨rfl,fun _=>rfl,fun h=>absurd rfl h⟩
 | s b=>
  have e:slq (0 + nx,a.length) = .loc (0 + nx) 0 a.length a.length:=slq_loc (by show 0 + nx ≠ 0;omega)
  have:=hA (1 + nx) (shH nx H [(0,.cells (L16 a) 54 1 false false [])]) (0 + nx,a.length) (Nat.le_add_left _ _) (fun id o hi ho=>by rw [look_shH_old hi];exact ho)
   ⟨rfl,fun h=>absurd h (by show 0 + nx ≠ 0;omega),fun _=>⟨by show nx≤0 + nx;omega,by show 0 + nx < 1 + nx;omega,false,fun _=>rfl,by
    rw [look_shH_new (i:=0) (o:=.cells (L16 a) 54 1 false false []) rfl];simp only [shO,shL_L16,shA]⟩⟩
  rw [e] at this
  exact this
section
variable {C:Ctx} (hm:C.P.follows .mixedOrders=true) (hC:TabOK C.P C.ng C.ts Tryd.tab)
include hm hC
theorem prefix_19sl (stem loop:List Int) (n:Int) (g0 : -9223372036854775808≤n) (g0':n < 9223372036854775808) (h1:stem.length < 2 ^ 37) (h2:loop.length < 2 ^ 37):∃ r π1,LG r π1 (pfxV stem loop n)∧PGen C 19 [.agg [.sl (L16 stem) stem.length,.sl (L16 loop) loop.length],.lit (.int .i64 n)] r π1:=by
 have a1:=fun i:Nat=>fun hi:i < 65536=>at_32 hm hC stem loop i (by omega) (by omega) (by omega) (by omega)
 by_cases h0:loop.length=0
 ·have e:pfxV stem loop n=[]:=by unfold pfxV;rw [if_pos h0]
  rw [e]
  refine ⟨_,_,.z,?_⟩
  refine PGen.body hm hC (show Tryd.tab.get 19=some Tryd.c19 from rfl) ?_
  simp only [SW,Tryd.c19,startP,Nat.reduceAdd,Nat.reduceSub,List.replicate]
  repeat (refine PRun.wpn rfl ?_;simp only [SW,↓reduceIte,reduceCtorEq,eqB_t (show ((loop.length:Nat):Int)=0 by omega)])
  exact Gh.mr mkWtC1 [] 0 rfl ⟨_,rfl,.refl _,rfl⟩
 have hpf:pfxV stem loop n=(List.range (min n.toNat 65536)).map fun i=>atV stem loop (i:Nat):=by unfold pfxV;rw [if_neg h0]
 rw [hpf]
 generalize (fun i:Nat=>atV stem loop (i:Nat))=at_,hat:(fun i:Nat=>atV stem loop (i:Nat))=at_ at *
 have a1:∀ i:Nat,i < 65536→PFun C 32 [.agg [.sl (L16 stem) stem.length,.sl (L16 loop) loop.length],.lit (.int .i64 i)] (.lit (.int .u16 (at_ i))):=fun i hi=>by
  have:=a1 i hi
  rw [← hat]
  exact this.wkA' (.cons (.agg (.cons .sl_sz (.cons .sl_sz .nil))) (.cons (.refl _) .nil))
 clear hat hpf
 obtain ⟨m,hm0⟩:∃ m,m=min n.toNat 65536:=⟨_,rfl⟩
 rw [← hm0]
 have hm3:m≤65536:=by omega
 have hm2:(if 65536 < (if n < 0 then 0 else n) then 65536 else (if n < 0 then 0 else n))=(m:Int):=by split <;> split <;> omega
 have hl:=eqB_f (show ¬ ((loop.length:Nat):Int)=0 by omega)
 suffices hgoal:PRun C 0 Tryd.c19.body (startP Tryd.c19 [.agg [.sl (L16 stem) stem.length,.sl (L16 loop) loop.length],.lit (.int .i64 n)]) .none fun x t π'=>(x = .normal∨x = .ret)∧Gh C 0 t π' fun t π'=>∃ rs,resPs t π' Tryd.c19.results=some rs∧((m=0∧Wk (tupP rs) (.lit (.slice none 0 0))∧π'=⟨0,[]⟩)∨(m ≠ 0∧Wk (tupP rs) (.loc 0 0 m m)∧π'=⟨1,[(0,.cells (L16 ((List.range m).map at_)) 54 1 false false [])]⟩)) by
  by_cases hz:m=0
  ·subst hz
   exact ⟨_,_,.z,PGen.body hm hC (show Tryd.tab.get 19=some Tryd.c19 from rfl) (hgoal.mono fun x t π' h=>⟨h.1,h.2.mono fun t π' ⟨rs,q1,q2⟩=>⟨rs,q1,by
    rcases q2 with ⟨_,q2⟩ | ⟨q,_⟩
    ·exact q2
    ·exact absurd rfl q⟩⟩)⟩
  ·refine ⟨_,_,.s _,PGen.body hm hC (show Tryd.tab.get 19=some Tryd.c19 from rfl) (hgoal.mono fun x t π' h=>⟨h.1,h.2.mono fun t π' ⟨rs,q1,q2⟩=>⟨rs,q1,?_⟩⟩)⟩
   rcases q2 with ⟨q,_⟩ | ⟨_,q2⟩
   ·exact absurd q hz
   ·have e:((List.range m).map at_).length=m:=by simp
    rw [e];exact q2
 simp only [SW,Tryd.c19,startP,Nat.reduceAdd,Nat.reduceSub,List.replicate]
 repeat (refine PRun.wpn rfl ?_;simp only [SW,↓reduceIte,reduceCtorEq,hl,hm2])
 refine PRun.gh (Gh.mask mkWtC2 ?_)
 simp only [mkWtC2,↓reduceIte,Bool.false_eq_true,maskP]
 refine PRun.loopG (fun k t π=>∃ p:List Int,p=(List.range p.length).map at_∧p.length≤m∧k=m - p.length∧((p=[]∧t=(.junk::.junk::.ptr 0 0::.junk::.junk::.lit (.slice none 0 0)::.junk::.junk::.junk::.junk::.junk::.junk::.junk::.lit (.int .i64 (m:Nat))::.lit (.int .i64 0)::.junk::.junk::.junk::.junk::.junk::.junk::.junk::.junk::.junk::.junk::[])∧π=⟨1,[(0,.cells [.sl (L16 stem) stem.length,.sl (L16 loop) loop.length] 25 2 true false [])]⟩)∨(p ≠ []∧t=(.junk::.junk::.ptr 0 0::.junk::.junk::.loc 1 0 p.length p.length::.junk::.junk::.junk::.junk::.junk::.junk::.junk::.lit (.int .i64 (m:Nat))::.lit (.int .i64 (p.length:Nat))::.junk::.junk::.junk::.junk::.junk::.junk::.junk::.junk::.junk::.junk::[])∧π=⟨2,[(1,.cells (L16 p) 54 1 false false []),(0,.cells [.sl (L16 stem) stem.length,.sl (L16 loop) loop.length] 25 2 true false [])]⟩))) ?_ m _ _ ⟨[],rfl,by simp,rfl,.inl ⟨rfl,rfl,rfl⟩⟩
 rintro k t π ⟨p,hp,hpm,rfl,⟨rfl,rfl,rfl⟩ | ⟨hp0,rfl,rfl⟩⟩
 ·by_cases hlt:0 < m
  ·have a2:=a1 0 (by omega)
   simp only [nc0] at a2
   have w1:IntKind.i64.wrap ((0:Int) + 1)=((1:Nat):Int):=rfl
   repeat (refine PRun.wpn rfl ?_;simp only [SW,↓reduceIte,ltB_t (show (0:Int) < ((m:Nat):Int) by omega)])
   refine .refl (PFun.to (a2) rfl (POps.wp ?_))
   simp only [SW,↓reduceIte,Nat.reduceAdd,Nat.reduceMul,Nat.reduceLeDiff,Nat.reduceLT]
   repeat (refine PRun.wpn rfl ?_;simp only [SW,w1])
   refine Gh.mr mkWtC2 [(0,0),(2,1)] 2 rfl ?_
   exact ⟨m - 1,by first | omega | (simp only [List.length_nil];omega),[at_ 0],rfl,by simp only [SW];omega,rfl,.inr ⟨by simp,rfl,rfl⟩⟩
  ·repeat (refine PRun.wpn rfl ?_;simp only [SW,↓reduceIte,reduceCtorEq,ltB_f (show ¬ (0:Int) < ((m:Nat):Int) by omega)])
   refine Gh.mr mkWtC1 [] 0 rfl ⟨_,rfl,.inl ⟨by omega,.refl _,rfl⟩⟩
 ·have hpl:p.length ≠ 0:=fun h=>hp0 (List.length_eq_zero_iff.1 h)
  by_cases hlt:p.length < m
  ·have a2:=a1 p.length (by omega)
   have w1:IntKind.i64.wrap (((p.length:Nat):Int) + 1)=((p.length + 1:Nat):Int):=by rw [wrap64 (by omega) (by omega)];omega
   have q1:¬ p.length + 1≤p.length:=by omega
   have q2:¬ 140737488355328 < (2 * (p.length + 1) + 768) * 2:=by omega
   have q3:=L16_cut p
   have q4:=L16_len p
   have hap:∀ (x:Int) (ρ:List (Nat × Nat)),renL ρ (L16 p++[PV.lit (.int .u16 x)])=L16 (p++[x]):=fun x ρ=>by rw [L16_snoc,renL_L16]
   repeat (refine PRun.wpn rfl ?_;simp only [SW,↓reduceIte,reduceCtorEq,ltB_t (show ((p.length:Nat):Int) < ((m:Nat):Int) by omega)])
   refine .refl (PFun.to (a2) rfl (POps.wp ?_))
   simp only [SW,↓reduceIte,Nat.reduceAdd,Nat.reduceEqDiff,q1,q2,q3,q4,bne_self_eq_false]
   repeat (refine PRun.wpn rfl ?_;simp only [SW,w1])
   refine Gh.mr mkWtC2 [(0,0),(3,1)] 2 rfl ?_
   refine ⟨m - (p.length + 1),by omega,p++[at_ p.length],?_,by rw [List.length_append];exact hlt,by rw [List.length_append];rfl,.inr ⟨by simp,?_,?_⟩⟩
   ·rw [List.length_append,List.length_cons,List.length_nil,List.range_succ,List.map_append,← hp];rfl
   ·rw [List.length_append];rfl
   ·simp only [SW,↓reduceIte,reduceCtorEq,Nat.reduceEqDiff,hap]
  ·obtain rfl:p.length=m:=by omega
   repeat (refine PRun.wpn rfl ?_;simp only [SW,↓reduceIte,reduceCtorEq,ltB_f (show ¬ ((p.length:Nat):Int) < ((p.length:Nat):Int) by omega)])
   refine Gh.mr mkWtC1 [(1,0)] 1 rfl ⟨_,rfl,.inr ⟨hpl,.refl _,?_⟩⟩
   rw [← hp]
   simp only [↓reduceIte,reduceCtorEq,renO,renH,renA,lkN,renL_L16]
theorem prefix_25sz (stem loop:List Int) (n:Int) (g0 : -9223372036854775808≤n) (g0':n < 9223372036854775808) (h1:stem.length < 2 ^ 37) (h2:loop.length < 2 ^ 37):∃ r π1,LG r π1 (pfxV stem loop n)∧PGen C 25 [.agg [.sz (L16 stem) stem.length,.sz (L16 loop) loop.length],.lit (.int .i64 n)] r π1:=by
 have a1:=fun i:Nat=>fun hi:i < 65536=>at_33 hm hC stem loop i (by omega) (by omega) (by omega) (by omega)
 by_cases h0:loop.length=0
 ·have e:pfxV stem loop n=[]:=by unfold pfxV;rw [if_pos h0]
  rw [e]
  refine ⟨_,_,.z,?_⟩
  refine PGen.body hm hC (show Tryd.tab.get 25=some Tryd.c25 from rfl) ?_
  simp only [SW,Tryd.c25,startP,Nat.reduceAdd,Nat.reduceSub,List.replicate]
  have hl:=ltB_f (show ¬ (0:Int) < ((loop.length:Nat):Int) by omega)
  repeat (refine PRun.wpn rfl ?_;simp only [SW,reduceCtorEq])
  refine PRun.loopG (fun m t π=>t=_∧π=_) ?_ 0 _ _ ⟨rfl,rfl⟩
  rintro m t π ⟨rfl,rfl⟩
  have z1:=ltB_t (show (0:Int) < 65536 by omega)
  by_cases hn0:(0:Int) < n
  ·repeat (refine PRun.wpn rfl ?_;simp only [SW,↓reduceIte,reduceCtorEq,ltB_t hn0,z1,hl])
   exact Gh.mr mkWtC3 [] 0 rfl ⟨_,rfl,.refl _,rfl⟩
  ·repeat (refine PRun.wpn rfl ?_;simp only [SW,↓reduceIte,reduceCtorEq,ltB_f hn0])
   exact Gh.mr mkWtC3 [] 0 rfl ⟨_,rfl,.refl _,rfl⟩
 have hpf:pfxV stem loop n=(List.range (min n.toNat 65536)).map fun i=>atV stem loop (i:Nat):=by unfold pfxV;rw [if_neg h0]
 rw [hpf]
 generalize (fun i:Nat=>atV stem loop (i:Nat))=at_,hat:(fun i:Nat=>atV stem loop (i:Nat))=at_ at *
 have a1:∀ i:Nat,i < 65536→PFun C 33 [.agg [.sz (L16 stem) stem.length,.sz (L16 loop) loop.length],.lit (.int .i64 i)] (.lit (.int .u16 (at_ i))):=fun i hi=>by
  have:=a1 i hi
  rw [← hat]
  exact this.wkA' (.cons (.refl _) (.cons (.refl _) .nil))
 clear hat hpf
 obtain ⟨m,hm0⟩:∃ m,m=min n.toNat 65536:=⟨_,rfl⟩
 rw [← hm0]
 have hm3:m≤65536:=by omega
 have hl:=ltB_t (show (0:Int) < ((loop.length:Nat):Int) by omega)
 suffices hgoal:PRun C 0 Tryd.c25.body (startP Tryd.c25 [.agg [.sz (L16 stem) stem.length,.sz (L16 loop) loop.length],.lit (.int .i64 n)]) .none fun x t π'=>(x = .normal∨x = .ret)∧Gh C 0 t π' fun t π'=>∃ rs,resPs t π' Tryd.c25.results=some rs∧((m=0∧Wk (tupP rs) (.lit (.slice none 0 0))∧π'=⟨0,[]⟩)∨(m ≠ 0∧Wk (tupP rs) (.loc 0 0 m m)∧π'=⟨1,[(0,.cells (L16 ((List.range m).map at_)) 54 1 false false [])]⟩)) by
  by_cases hz:m=0
  ·subst hz
   exact ⟨_,_,.z,PGen.body hm hC (show Tryd.tab.get 25=some Tryd.c25 from rfl) (hgoal.mono fun x t π' h=>⟨h.1,h.2.mono fun t π' ⟨rs,q1,q2⟩=>⟨rs,q1,by
    rcases q2 with ⟨_,q2⟩ | ⟨q,_⟩
    ·exact q2
    ·exact absurd rfl q⟩⟩)⟩
  ·refine ⟨_,_,.s _,PGen.body hm hC (show Tryd.tab.get 25=some Tryd.c25 from rfl) (hgoal.mono fun x t π' h=>⟨h.1,h.2.mono fun t π' ⟨rs,q1,q2⟩=>⟨rs,q1,?_⟩⟩)⟩
   rcases q2 with ⟨q,_⟩ | ⟨_,q2⟩
   ·exact absurd q hz
   ·have e:((List.range m).map at_).length=m:=by simp
    rw [e];exact q2
 simp only [SW,Tryd.c25,startP,Nat.reduceAdd,Nat.reduceSub,List.replicate]
 repeat (refine PRun.wpn rfl ?_;simp only [SW,reduceCtorEq])
 refine PRun.gh (Gh.mask mkWtC4 ?_)
 simp only [mkWtC4,↓reduceIte,Bool.false_eq_true,maskP]
 refine PRun.loopG (fun k t π=>∃ p:List Int,p=(List.range p.length).map at_∧p.length≤m∧k=m - p.length∧((p=[]∧t=(.junk::.lit (.int .i64 n)::.ptr 0 0::.junk::.junk::.lit (.slice none 0 0)::.lit (.int .i64 0)::.junk::.junk::.junk::.junk::.junk::.junk::.junk::.junk::.junk::.junk::.junk::.junk::.junk::.junk::.junk::.junk::.junk::.junk::.junk::.junk::.junk::.junk::[])∧π=⟨1,[(0,.cells [.sz (L16 stem) stem.length,.sz (L16 loop) loop.length] 25 2 true false [])]⟩)∨(p ≠ []∧t=(.junk::.lit (.int .i64 n)::.ptr 0 0::.junk::.junk::.loc 1 0 p.length p.length::.lit (.int .i64 (p.length:Nat))::.junk::.junk::.junk::.junk::.junk::.junk::.junk::.junk::.junk::.junk::.junk::.junk::.junk::.junk::.junk::.junk::.junk::.junk::.junk::.junk::.junk::.junk::[])∧π=⟨2,[(1,.cells (L16 p) 54 1 false false []),(0,.cells [.sz (L16 stem) stem.length,.sz (L16 loop) loop.length] 25 2 true false [])]⟩))) ?_ m _ _ ⟨[],rfl,by simp,rfl,.inl ⟨rfl,rfl,rfl⟩⟩
 rintro k t π ⟨p,hp,hpm,rfl,⟨rfl,rfl,rfl⟩ | ⟨hp0,rfl,rfl⟩⟩
 ·by_cases hlt:0 < m
  ·have a2:=a1 0 (by omega)
   simp only [nc0] at a2
   have w1:IntKind.i64.wrap ((0:Int) + 1)=((1:Nat):Int):=rfl
   repeat (refine PRun.wpn rfl ?_;simp only [SW,↓reduceIte,ltB_t (show (0:Int) < n by omega),ltB_t (show (0:Int) < 65536 by omega),hl])
   refine .refl (PFun.to (a2) rfl (POps.wp ?_))
   simp only [SW,↓reduceIte,Nat.reduceAdd,Nat.reduceMul,Nat.reduceLeDiff,Nat.reduceLT]
   repeat (refine PRun.wpn rfl ?_;simp only [SW,w1])
   refine Gh.mr mkWtC4 [(0,0),(2,1)] 2 rfl ?_
   exact ⟨m - 1,by first | omega | (simp only [List.length_nil];omega),[at_ 0],rfl,by simp only [SW];omega,rfl,.inr ⟨by simp,rfl,rfl⟩⟩
  ·repeat (refine PRun.wpn rfl ?_;simp only [SW,↓reduceIte,reduceCtorEq,ltB_f (show ¬ (0:Int) < n by omega)])
   refine Gh.mr mkWtC3 [] 0 rfl ⟨_,rfl,.inl ⟨by omega,.refl _,rfl⟩⟩
 ·have hpl:p.length ≠ 0:=fun h=>hp0 (List.length_eq_zero_iff.1 h)
  by_cases hlt:p.length < m
  ·have a2:=a1 p.length (by omega)
   have w1:IntKind.i64.wrap (((p.length:Nat):Int) + 1)=((p.length + 1:Nat):Int):=by rw [wrap64 (by omega) (by omega)];omega
   have q1:¬ p.length + 1≤p.length:=by omega
   have q2:¬ 140737488355328 < (2 * (p.length + 1) + 768) * 2:=by omega
   have q3:=L16_cut p
   have q4:=L16_len p
   have hap:∀ (x:Int) (ρ:List (Nat × Nat)),renL ρ (L16 p++[PV.lit (.int .u16 x)])=L16 (p++[x]):=fun x ρ=>by rw [L16_snoc,renL_L16]
   repeat (refine PRun.wpn rfl ?_;simp only [SW,↓reduceIte,reduceCtorEq,ltB_t (show ((p.length:Nat):Int) < n by omega),ltB_t (show ((p.length:Nat):Int) < 65536 by omega),hl])
   refine .refl (PFun.to (a2) rfl (POps.wp ?_))
   simp only [SW,↓reduceIte,Nat.reduceAdd,Nat.reduceEqDiff,q1,q2,q3,q4,bne_self_eq_false]
   repeat (refine PRun.wpn rfl ?_;simp only [SW,w1])
   refine Gh.mr mkWtC4 [(0,0),(3,1)] 2 rfl ?_
   refine ⟨m - (p.length + 1),by omega,p++[at_ p.length],?_,by rw [List.length_append];exact hlt,by rw [List.length_append];rfl,.inr ⟨by simp,?_,?_⟩⟩
   ·rw [List.length_append,List.length_cons,List.length_nil,List.range_succ,List.map_append,← hp];rfl
   ·rw [List.length_append];rfl
   ·simp only [SW,↓reduceIte,reduceCtorEq,Nat.reduceEqDiff,hap]
  ·obtain rfl:p.length=m:=by omega
   by_cases hn9:((p.length:Nat):Int) < n
   ·repeat (refine PRun.wpn rfl ?_;simp only [SW,↓reduceIte,reduceCtorEq,ltB_t hn9,ltB_f (show ¬ ((p.length:Nat):Int) < 65536 by omega)])
    refine Gh.mr mkWtC3 [(1,0)] 1 rfl ⟨_,rfl,.inr ⟨hpl,.refl _,?_⟩⟩
    rw [← hp]
    simp only [↓reduceIte,reduceCtorEq,renO,renH,renA,lkN,renL_L16]
   ·repeat (refine PRun.wpn rfl ?_;simp only [SW,↓reduceIte,reduceCtorEq,ltB_f hn9])
    refine Gh.mr mkWtC3 [(1,0)] 1 rfl ⟨_,rfl,.inr ⟨hpl,.refl _,?_⟩⟩
    rw [← hp]
    simp only [↓reduceIte,reduceCtorEq,renO,renH,renA,lkN,renL_L16]
end
end Go.Proofs.YtkldgoapompinaaDoor.Ai
namespace Go.Proofs.YtkldgoapompinaaDoor.Ai
set_option linter.unusedSimpArgs false
open Go
set_option linter.unusedVariables false
set_option linter.unusedSectionVars false
set_option maxRecDepth 10000
set_option maxHeartbeats 4000000
def Per (l:List Int) (q:Nat):Prop:=l.length % q=0∧l.drop q=l.take (l.length - q)
theorem Per.self (l:List Int):Per l l.length:=⟨Nat.mod_self _,by simp⟩
theorem perFrom_spec (l:List Int):∀ k n,n + k=l.length→Per l (perFrom l n k)∧∀ q,n≤q→q < perFrom l n k→¬ Per l q
 | 0,n,h=>by
  simp only [perFrom]
  exact ⟨Per.self l,fun q h1 h2=>by omega⟩
 | k + 1,n,h=>by
  simp only [perFrom]
  split
  ·rename_i hc
   exact ⟨hc,fun q h1 h2=>by omega⟩
  ·rename_i hc
   obtain ⟨h1,h2⟩:=perFrom_spec l k (n + 1) (by omega)
   refine ⟨h1,fun q h3 h4=>?_⟩
   by_cases hq:q=n
   ·subst hq;exact hc
   ·exact h2 q (by omega) h4
theorem per_spec (l:List Int) (hl:0 < l.length):Per l (per l)∧∀ q,0 < q→q < per l→¬ Per l q:=perFrom_spec l (l.length - 1) 1 (by omega)
theorem getD_drop (l:List Int) (q i:Nat):(l.drop q).getD i 0=l.getD (q + i) 0:=by simp [List.getD]
theorem getD_take (l:List Int) (n i:Nat) (h:i < n):(l.take n).getD i 0=l.getD i 0:=by simp [List.getD,h]
theorem getD_left (l m:List Int) (i:Nat) (h:i < l.length):(l++m).getD i 0=l.getD i 0:=by simp [List.getD,List.getElem?_append_left h]
theorem getD_right (l m:List Int) (i:Nat) (h:l.length≤i):(l++m).getD i 0=m.getD (i - l.length) 0:=by simp [List.getD,List.getElem?_append_right h]
theorem ext_getD {l m:List Int} (h1:l.length=m.length) (h2:∀ i,i < l.length→l.getD i 0=m.getD i 0):l=m:=by
 apply List.ext_getElem h1
 intro i ha hb
 have:=h2 i ha
 simpa [List.getD,List.getElem?_eq_getElem ha,List.getElem?_eq_getElem hb] using this
theorem per_of_all {l:List Int} {n:Nat} (hd:l.length % n=0) (h:∀ j,n≤j→j < l.length→l.getD j 0=l.getD (j - n) 0):Per l n:=by
 refine ⟨hd,ext_getD (by simp) fun i hi=>?_⟩
 simp at hi
 rw [getD_drop,getD_take _ _ _ (by omega),h (n + i) (by omega) (by omega)]
 congr 1;omega
theorem all_of_per {l:List Int} {n:Nat} (h:Per l n) (j:Nat) (h1:n≤j) (h2:j < l.length):l.getD j 0=l.getD (j - n) 0:=by
 have e1:=getD_drop l n (j - n)
 rw [show n + (j - n)=j by omega] at e1
 rw [← e1,h.2,getD_take _ _ _ (by omega)]
theorem getD_get {l:List Int} {i:Nat} (h:i < l.length):l.getD i 0=l[i]:=by simp [List.getD,List.getElem?_eq_getElem h]
open Classical in
noncomputable def perB (l:List Int) (n:Nat):Bool:=decide (Per l n)
theorem perB_t {l:List Int} {n:Nat} (h:Per l n):perB l n=true:=by simp [perB,h]
theorem perB_f {l:List Int} {n:Nat} (h:¬ Per l n):perB l n=false:=by simp [perB,h]
theorem L16_takeK (l:List Int) (k:Nat):(L16 l).take k=L16 (l.take k):=by simp [L16,List.map_take]
theorem rot_take (l:List Int) (p u k:Nat) (hp:p≤l.length) (hu:u < p) (hk:k < p):((l.take p).drop u++l.take u).getD k 0=l.getD ((u + k) % p) 0:=by
 by_cases hk2:k < p - u
 ·rw [getD_left _ _ _ (by simp;omega),getD_drop,getD_take _ _ _ (by omega),Nat.mod_eq_of_lt (by omega)]
 ·have e:((l.take p).drop u).length=p - u:=by simp;omega
  rw [getD_right _ _ _ (by omega),e,getD_take _ _ _ (by omega)]
  congr 1
  rw [Nat.mod_eq_sub_mod (by omega),Nat.mod_eq_of_lt (by omega)];omega
def rotR (loop:List Int) (p v n:Nat):List Int:=(List.range n).map fun j=>loop.getD ((j + p - v % p) % p) 0
theorem rotR_succ (loop:List Int) (p v n:Nat):rotR loop p v (n + 1)=rotR loop p v n++[loop.getD ((n + p - v % p) % p) 0]:=by simp [rotR,List.range_succ]
theorem rotR_len (loop:List Int) (p v n:Nat):(rotR loop p v n).length=n:=by simp [rotR]
theorem roll_idx (p v i:Nat) (hp:0 < p):(i + p - v % p) % p=((p - v % p) % p + i) % p:=by
 have:=Nat.mod_lt v hp
 rw [Nat.mod_add_mod]
 congr 1;omega
theorem roll_next (p v:Nat) (hp:0 < p):((p - v % p) % p + p - 1) % p=(p - (v + 1) % p) % p:=by
 have h:=Nat.mod_lt v hp
 by_cases h1:v % p + 1=p
 ·have e1:(v + 1) % p=0:=by rw [← Nat.mod_add_mod,h1,Nat.mod_self]
  rw [e1]
  by_cases hp1:p=1
  ·subst hp1;simp [Nat.mod_one]
  ·have e2:(p - v % p) % p=1:=by rw [Nat.mod_eq_of_lt (by omega)];omega
   rw [e2,show 1 + p - 1=p by omega,Nat.mod_self];simp
 ·have e1:(v + 1) % p=v % p + 1:=by rw [← Nat.mod_add_mod];exact Nat.mod_eq_of_lt (by omega)
  rw [e1]
  by_cases h0:v % p=0
  ·rw [h0];simp
  ·rw [Nat.mod_eq_of_lt (show p - v % p < p by omega)]
   rw [show p - v % p + p - 1=(p - (v % p + 1)) + p by omega,Nat.add_mod_right]
theorem L16_cutK (l:List Int) (k:Nat) (h:k≤l.length):cutP k (L16 l)=some (L16 (l.take k)):=by
 unfold cutP
 rw [if_pos (by rw [L16_len];exact h),L16_takeK]
theorem fin_stem {stem loop:List Int} (h0:loop ≠ []) {s u:Nat} (hr:rollF stem loop (per loop) stem.length 0=(s,u)):nStem stem loop=stem.take s:=by unfold nStem;rw [if_neg h0,hr]
theorem fin_loop {stem loop:List Int} (h0:loop ≠ []) {s v:Nat} (hr:rollF stem loop (per loop) stem.length 0=(s,(per loop - v % per loop) % per loop)):nLoop stem loop=rotR loop (per loop) v (per loop):=by
 have hl0:0 < loop.length:=List.length_pos_iff.2 h0
 have p0:=per_pos loop hl0
 have p1:=per_le loop
 unfold nLoop
 rw [if_neg h0,hr]
 have hu:(per loop - v % per loop) % per loop < per loop:=Nat.mod_lt _ p0
 refine ext_getD (by rw [rotR_len];simp;omega) fun k hk=>?_
 have hk':k < per loop:=by simp at hk;omega
 rw [rot_take _ _ _ _ p1 hu hk',← roll_idx _ _ _ p0]
 simp [rotR,List.getD,hk']
section
variable {C:Ctx} (hm:C.P.follows .mixedOrders=true) (hC:TabOK C.P C.ng C.ts Tryd.tab)
include hm hC
theorem again_ok (l:List Int) (n:Nat) (hn:0 < n) (hl:l.length < 2 ^ 60) (hnl:n < 2 ^ 60):PFun C 54 [szU l,.lit (.int .i64 (n:Nat))] (.lit (.bool (perB l n))):=by
 have hn0:(n:Int) ≠ 0:=by omega
 by_cases h:((l.length % n:Nat):Int)=0
 ·have hd:l.length % n=0:=by omega
  refine PFun.body hm hC (show Tryd.tab.get 54=some Tryd.c54 from rfl) rfl ?_
  simp only [SW,Tryd.c54,startP,Nat.reduceAdd,Nat.reduceSub,List.replicate,szU]
  repeat (refine PRun.wpn rfl ?_;simp only [SW,↓reduceIte,reduceCtorEq,bi_rem hn0,tmod_nat,neB_f h])
  refine PRun.gh (Gh.mask mkWtC5 ?_)
  simp only [mkWtC5,↓reduceIte,Bool.false_eq_true,maskP]
  by_cases hle:n≤l.length
  ·refine PRun.loopG (fun k t π=>∃ i:Nat,t=(.sz (L16 l) l.length::.lit (.int .i64 (n:Nat))::.junk::.junk::.lit (.bool false)::.lit (.int .i64 (i:Nat))::.junk::.junk::.junk::.junk::.junk::.junk::.junk::.junk::.junk::.junk::.junk::.junk::.junk::.junk::.junk::.junk::.junk::.junk::.junk::.junk::.junk::.junk::.junk::[])∧n≤i∧i≤l.length∧k=l.length - i∧π=⟨0,[]⟩∧∀ j,n≤j→j < i→l.getD j 0=l.getD (j - n) 0) ?_ (l.length - n) _ _ ⟨n,rfl,by omega,hle,rfl,rfl,fun j h1 h2=>by omega⟩
   rintro k t π ⟨i,rfl,h1,h2,rfl,rfl,hp⟩
   by_cases hlt:((i:Nat):Int) < (l.length:Nat)
   ·have i1:i < l.length:=by omega
    have i2:i - n < l.length:=by omega
    have e1:IntKind.i64.wrap ((i:Nat) - (n:Nat))=((i - n:Nat):Int):=by rw [wrap64 (by omega) (by omega)];omega
    have e2:((i - n:Nat):Int) < (l.length:Nat):=by omega
    have w1:IntKind.i64.wrap (((i:Nat):Int) + 1)=((i + 1:Nat):Int):=by rw [wrap64 (by omega) (by omega)];omega
    repeat (refine PRun.wpn rfl ?_;simp only [SW,↓reduceIte,ltB_t hlt])
    refine PDraw.last (Nat.zero_le _) rfl ?_
    by_cases he:l[i]=l[i - n]
    ·try dsimp only
     simp only [SW,↓reduceIte,Nat.reduceAdd,hlt,L16_drop i1,e1,e2,L16_drop i2,neB_f he]
     repeat (refine PRun.wpn rfl ?_;simp only [SW,↓reduceIte,w1])
     refine Gh.mask mkWtC5 ?_
     refine ⟨l.length - (i + 1),by omega,i + 1,rfl,by omega,by omega,rfl,rfl,fun j h3 h4=>?_⟩
     by_cases hj:j=i
     ·subst hj;rw [getD_get i1,getD_get i2];exact he
     ·exact hp j h3 (by omega)
    ·try dsimp only
     simp only [SW,↓reduceIte,Nat.reduceAdd,hlt,L16_drop i1,e1,e2,L16_drop i2,neB_t he]
     repeat (refine PRun.wpn rfl ?_;simp only [SW,↓reduceIte,reduceCtorEq])
     rw [perB_f (fun hp':Per l n=>he (by have:=all_of_per hp' i h1 i1;rwa [getD_get i1,getD_get i2] at this))]
     exact .refl ⟨_,rfl,.refl _⟩
   ·obtain rfl:i=l.length:=by omega
    repeat (refine PRun.wpn rfl ?_;simp only [SW,↓reduceIte,reduceCtorEq,ltB_f hlt])
    rw [perB_t (per_of_all hd fun j h3 h4=>hp j h3 h4)]
    exact .refl ⟨_,rfl,.refl _⟩
  ·have hl0:l.length=0:=by
    rw [Nat.mod_eq_of_lt (by omega)] at hd;exact hd
   refine PRun.loopG (fun k t π=>∃ i:Nat,t=(.sz (L16 l) l.length::.lit (.int .i64 (n:Nat))::.junk::.junk::.lit (.bool false)::.lit (.int .i64 (i:Nat))::.junk::.junk::.junk::.junk::.junk::.junk::.junk::.junk::.junk::.junk::.junk::.junk::.junk::.junk::.junk::.junk::.junk::.junk::.junk::.junk::.junk::.junk::.junk::[])∧i=n∧π=⟨0,[]⟩) ?_ 0 _ _ ⟨n,rfl,rfl,rfl⟩
   rintro k t π ⟨i,rfl,rfl,rfl⟩
   repeat (refine PRun.wpn rfl ?_;simp only [SW,↓reduceIte,reduceCtorEq,ltB_f (show ¬ ((i:Nat):Int) < (l.length:Nat) by omega)])
   rw [perB_t (per_of_all hd fun j h3 h4=>by omega)]
   exact .refl ⟨_,rfl,.refl _⟩
 ·refine PFun.body hm hC (show Tryd.tab.get 54=some Tryd.c54 from rfl) rfl ?_
  simp only [SW,Tryd.c54,startP,Nat.reduceAdd,Nat.reduceSub,List.replicate,szU]
  repeat (refine PRun.wpn rfl ?_;simp only [SW,↓reduceIte,reduceCtorEq,bi_rem hn0,tmod_nat,neB_t h])
  rw [perB_f (fun hp:Per l n=>h (by rw [hp.1];rfl))]
  exact .refl ⟨_,rfl,.refl _⟩
theorem normalR_sz (stem loop:List Int) (h1:stem.length < 2 ^ 38) (h2:loop.length < 2 ^ 38):∃ r π1,WG r π1 (nStem stem loop) (nLoop stem loop)∧PGen C 21 [.agg [.sz (L16 stem) stem.length,.sz (L16 loop) loop.length]] r π1:=by
 have z0:=eqB_t (show (0:Int)=0 from rfl)
 by_cases h0:loop=[]
 ·subst h0
  refine ⟨_,_,.z,?_⟩
  refine PGen.body hm hC (show Tryd.tab.get 21=some Tryd.c21 from rfl) ?_
  simp only [SW,Tryd.c21,startP,Nat.reduceAdd,Nat.reduceSub,List.replicate]
  repeat (refine PRun.wpn rfl ?_;simp only [SW,↓reduceIte,reduceCtorEq,Nat.reduceAdd,z0])
  exact Gh.mr mkWtC6 [(1,0)] 1 rfl ⟨_,rfl,.refl _,rfl⟩
 have hl0:0 < loop.length:=List.length_pos_iff.2 h0
 have hl:=eqB_f (show ¬ ((loop.length:Nat):Int)=0 by omega)
 have p0:=per_pos loop hl0
 have p1:=per_le loop
 have p3:((per loop:Nat):Int) ≠ 0:=by omega
 obtain ⟨hper,hmin⟩:=per_spec loop hl0
 suffices hgoal:PRun C 0 Tryd.c21.body (startP Tryd.c21 [.agg [.sz (L16 stem) stem.length,.sz (L16 loop) loop.length]]) .none fun x t π'=>(x = .normal∨x = .ret)∧Gh C 0 t π' fun t π'=>∃ rs,resPs t π' Tryd.c21.results=some rs∧((nStem stem loop=[]∧Wk (tupP rs) (.agg [.lit (.slice none 0 0),.loc 0 0 (nLoop stem loop).length (nLoop stem loop).length])∧π'=oneN (nLoop stem loop))∨(nStem stem loop ≠ []∧Wk (tupP rs) (.agg [.loc 0 0 (nStem stem loop).length (nStem stem loop).length,.loc 1 0 (nLoop stem loop).length (nLoop stem loop).length])∧π'=one2 (nStem stem loop) (nLoop stem loop))) by
  by_cases hz:nStem stem loop=[]
  ·rw [hz] at hgoal ⊢
   exact ⟨_,_,.n _,PGen.body hm hC (show Tryd.tab.get 21=some Tryd.c21 from rfl) (hgoal.mono fun x t π' h=>⟨h.1,h.2.mono fun t π' ⟨rs,q1,q2⟩=>⟨rs,q1,by
    rcases q2 with ⟨_,q2⟩ | ⟨q,_⟩
    ·exact q2
    ·exact absurd rfl q⟩⟩)⟩
  ·refine ⟨_,_,.s _ _,PGen.body hm hC (show Tryd.tab.get 21=some Tryd.c21 from rfl) (hgoal.mono fun x t π' h=>⟨h.1,h.2.mono fun t π' ⟨rs,q1,q2⟩=>⟨rs,q1,?_⟩⟩)⟩
   rcases q2 with ⟨q,_⟩ | ⟨_,q2⟩
   ·exact absurd q hz
   ·exact q2
 simp only [SW,Tryd.c21,startP,Nat.reduceAdd,Nat.reduceSub,List.replicate]
 repeat (refine PRun.wpn rfl ?_;simp only [SW,↓reduceIte,reduceCtorEq,Nat.reduceAdd,hl])
 refine PRun.cut (fun x t π=>x = .exit 0∧t=(.junk::.ptr 0 0::.ptr 1 0::.lit (.int .i64 (per loop:Nat))::.junk::.junk::.junk::.junk::.junk::.junk::.junk::.junk::.junk::.junk::.junk::.junk::.junk::.junk::.junk::.junk::.junk::.junk::.junk::.junk::.junk::.junk::.junk::.junk::.junk::.junk::.junk::.junk::.junk::.junk::.junk::.junk::.junk::.junk::.junk::.junk::.junk::.junk::.junk::.junk::.junk::.junk::.junk::.junk::.junk::.junk::.junk::.junk::.junk::.junk::.junk::.junk::.junk::.junk::.junk::.junk::.junk::.junk::.junk::.junk::.junk::.junk::.junk::.junk::.junk::.junk::.junk::.junk::.junk::.junk::.junk::.junk::.junk::.junk::.junk::.junk::.junk::.junk::.junk::.junk::.junk::[])∧π=⟨2,[(1,.cells [.lit (.slice none 0 0),.lit (.slice none 0 0)] 25 2 true false []),(0,.cells [.sz (L16 stem) stem.length,.sz (L16 loop) loop.length] 25 2 true false [])]⟩) ?_ ?_
 ·refine PRun.gh (Gh.mask mkWtC7 ?_)
  simp only [mkWtC7,↓reduceIte,Bool.false_eq_true,maskP]
  refine PRun.loopG (fun m t π=>∃ n:Nat,t=(.junk::.ptr 0 0::.ptr 1 0::.lit (.int .i64 (n:Nat))::.junk::.junk::.junk::.junk::.junk::.junk::.junk::.junk::.junk::.junk::.junk::.junk::.junk::.junk::.junk::.junk::.junk::.junk::.junk::.junk::.junk::.junk::.junk::.junk::.junk::.junk::.junk::.junk::.junk::.junk::.junk::.junk::.junk::.junk::.junk::.junk::.junk::.junk::.junk::.junk::.junk::.junk::.junk::.junk::.junk::.junk::.junk::.junk::.junk::.junk::.junk::.junk::.junk::.junk::.junk::.junk::.junk::.junk::.junk::.junk::.junk::.junk::.junk::.junk::.junk::.junk::.junk::.junk::.junk::.junk::.junk::.junk::.junk::.junk::.junk::.junk::.junk::.junk::.junk::.junk::.junk::[])∧1≤n∧n≤per loop∧m=per loop - n∧π=⟨2,[(1,.cells [.lit (.slice none 0 0),.lit (.slice none 0 0)] 25 2 true false []),(0,.cells [.sz (L16 stem) stem.length,.sz (L16 loop) loop.length] 25 2 true false [])]⟩) ?_ (per loop - 1) _ _ ⟨1,rfl,by omega,by omega,rfl,rfl⟩
  rintro m t π ⟨n,rfl,hn1,hn2,rfl,rfl⟩
  have hag:=(again_ok hm hC loop n (by omega) (by omega) (by omega)).wkA' (a':=[.sz (L16 loop) loop.length,.lit (.int .i64 (n:Nat))]) (.cons (.refl _) (.cons (.refl _) .nil))
  have w1:IntKind.i64.wrap (((n:Nat):Int) + 1)=((n + 1:Nat):Int):=by rw [wrap64 (by omega) (by omega)];omega
  repeat (refine PRun.wpn rfl ?_;simp only [SW,↓reduceIte,reduceCtorEq])
  refine .refl (PFun.to (hag) rfl (POps.wp ?_))
  simp only [SW]
  by_cases hnp:n=per loop
  ·subst hnp
   simp only [perB_t hper]
   repeat (refine PRun.wpn rfl ?_;simp only [SW,↓reduceIte,reduceCtorEq])
   refine Gh.mask mkWtC7 ?_
   exact ⟨rfl,rfl⟩
  ·simp only [perB_f (hmin n (by omega) (by omega))]
   repeat (refine PRun.wpn rfl ?_;simp only [SW,↓reduceIte,w1])
   refine Gh.mask mkWtC7 ?_
   exact ⟨per loop - (n + 1),by omega,n + 1,rfl,by omega,by omega,rfl,rfl⟩
 rintro x t π ⟨rfl,rfl,rfl⟩
 repeat (refine PRun.wpn rfl ?_;simp only [SW,↓reduceIte,reduceCtorEq])
 refine PRun.cut (fun x t π=>x = .exit 2∧∃ s v:Nat,t=(.junk::.ptr 0 0::.ptr 1 0::.lit (.int .i64 (per loop:Nat))::.junk::.lit (.int .i64 (s:Nat))::.lit (.int .i64 (v:Nat))::.junk::.junk::.junk::.junk::.junk::.junk::.junk::.junk::.junk::.junk::.junk::.junk::.junk::.junk::.junk::.junk::.junk::.junk::.junk::.junk::.junk::.junk::.junk::.junk::.junk::.junk::.junk::.junk::.junk::.junk::.junk::.junk::.junk::.junk::.junk::.junk::.junk::.junk::.junk::.junk::.junk::.junk::.junk::.junk::.junk::.junk::.junk::.junk::.junk::.junk::.junk::.junk::.junk::.junk::.junk::.junk::.junk::.junk::.junk::.junk::.junk::.junk::.junk::.junk::.junk::.junk::.junk::.junk::.junk::.junk::.junk::.junk::.junk::.junk::.junk::.junk::.junk::.junk::[])∧s≤stem.length∧v≤stem.length∧rollF stem loop (per loop) stem.length 0=(s,(per loop - v % per loop) % per loop)∧π=⟨2,[(1,.cells [.lit (.slice none 0 0),.lit (.slice none 0 0)] 25 2 true false []),(0,.cells [.sz (L16 stem) stem.length,.sz (L16 loop) loop.length] 25 2 true false [])]⟩) ?_ ?_
 ·refine PRun.gh (Gh.mask mkWtC8 ?_)
  simp only [mkWtC8,↓reduceIte,Bool.false_eq_true,maskP]
  refine PRun.loopG (fun m t π=>∃ s v:Nat,t=(.junk::.ptr 0 0::.ptr 1 0::.lit (.int .i64 (per loop:Nat))::.junk::.lit (.int .i64 (s:Nat))::.lit (.int .i64 (v:Nat))::.junk::.junk::.junk::.junk::.junk::.junk::.junk::.junk::.junk::.junk::.junk::.junk::.junk::.junk::.junk::.junk::.junk::.junk::.junk::.junk::.junk::.junk::.junk::.junk::.junk::.junk::.junk::.junk::.junk::.junk::.junk::.junk::.junk::.junk::.junk::.junk::.junk::.junk::.junk::.junk::.junk::.junk::.junk::.junk::.junk::.junk::.junk::.junk::.junk::.junk::.junk::.junk::.junk::.junk::.junk::.junk::.junk::.junk::.junk::.junk::.junk::.junk::.junk::.junk::.junk::.junk::.junk::.junk::.junk::.junk::.junk::.junk::.junk::.junk::.junk::.junk::.junk::.junk::[])∧s + v=stem.length∧m=s∧rollF stem loop (per loop) s ((per loop - v % per loop) % per loop)=rollF stem loop (per loop) stem.length 0∧π=⟨2,[(1,.cells [.lit (.slice none 0 0),.lit (.slice none 0 0)] 25 2 true false []),(0,.cells [.sz (L16 stem) stem.length,.sz (L16 loop) loop.length] 25 2 true false [])]⟩) ?_ stem.length _ _ ⟨stem.length,0,rfl,by omega,rfl,by simp,rfl⟩
  rintro m t π ⟨s,v,rfl,hsv,hn,hr,rfl⟩
  repeat (refine PRun.wpn rfl ?_;simp only [wp])
  refine PDraw.last (Nat.zero_le _) rfl ?_
  cases s with
  | zero=>
   have e0:¬ (0:Int) < 0:=by omega
   try dsimp only
   simp only [SW,ltB_f e0]
   repeat (refine PRun.wpn rfl ?_;simp only [SW,↓reduceIte])
   refine Gh.mask mkWtC8 ?_
   exact ⟨0,v,rfl,by omega,by omega,hr.symm,rfl⟩
  | succ s=>
   have vm:=Nat.mod_lt v p0
   have e0:(0:Int) < ((s + 1:Nat):Int):=by omega
   have e1:IntKind.i64.wrap (((s + 1:Nat):Int) - 1)=(s:Nat):=by rw [wrap64 (by omega) (by omega)];omega
   have e2:(s:Int) < (stem.length:Nat):=by omega
   have e3:IntKind.i64.wrap ((per loop:Nat) - 1)=((per loop:Nat):Int) - 1:=wrap64 (by omega) (by omega)
   have e4:IntKind.i64.wrap (((per loop:Nat):Int) - 1 - ((v % per loop:Nat):Int))=((per loop:Nat):Int) - 1 - ((v % per loop:Nat):Int):=wrap64 (by omega) (by omega)
   have e5:IntKind.i64.wrap (((per loop:Nat):Int) - 1 - ((v % per loop:Nat):Int) + (per loop:Nat))=((per loop - 1 - v % per loop + per loop:Nat):Int):=by rw [wrap64 (by omega) (by omega)];omega
   have e6:(per loop - 1 - v % per loop + per loop) % per loop < per loop:=Nat.mod_lt _ p0
   have e7:s < stem.length:=by omega
   have e8:(per loop - 1 - v % per loop + per loop) % per loop < loop.length:=by omega
   have e9:(((per loop - 1 - v % per loop + per loop) % per loop:Nat):Int) < (loop.length:Nat):=by omega
   have e10:((per loop - v % per loop) % per loop + per loop - 1) % per loop=(per loop - 1 - v % per loop + per loop) % per loop:=by
    rw [roll_next _ _ p0,Nat.add_mod_right]
    by_cases h1:v % per loop + 1=per loop
    ·have:(v + 1) % per loop=0:=by rw [← Nat.mod_add_mod,h1,Nat.mod_self]
     rw [this,show per loop - 1 - v % per loop=0 by omega];simp
    ·have:(v + 1) % per loop=v % per loop + 1:=by rw [← Nat.mod_add_mod];exact Nat.mod_eq_of_lt (by omega)
     rw [this];congr 1;omega
   have e11:stem[s]? = loop[((per loop - v % per loop) % per loop + per loop - 1) % per loop]?↔stem[s]=loop[(per loop - 1 - v % per loop + per loop) % per loop]:=by
    rw [e10,List.getElem?_eq_getElem e7,List.getElem?_eq_getElem e8];simp
   simp only [rollF] at hr
   have e12:IntKind.i64.wrap ((v:Nat) + 1)=((v + 1:Nat):Int):=by rw [wrap64 (by omega) (by omega)];omega
   by_cases he:stem[s]=loop[(per loop - 1 - v % per loop + per loop) % per loop]
   ·try dsimp only
    simp only [SW,↓reduceIte,reduceCtorEq,Nat.reduceAdd,ltB_t e0,e1,e2,L16_drop e7,e3,e4,e5,bi_rem p3,tmod_nat,e9,L16_drop e8,eqB_t he]
    repeat (refine PRun.wpn rfl ?_;simp only [SW,↓reduceIte,e1,e12])
    rw [if_pos (e11.2 he),roll_next _ _ p0] at hr
    refine Gh.mask mkWtC8 ?_
    exact ⟨s,by omega,s,v + 1,rfl,by omega,rfl,hr,rfl⟩
   ·try dsimp only
    simp only [SW,↓reduceIte,reduceCtorEq,Nat.reduceAdd,ltB_t e0,e1,e2,L16_drop e7,e3,e4,e5,bi_rem p3,tmod_nat,e9,L16_drop e8,eqB_f he]
    repeat (refine PRun.wpn rfl ?_;simp only [SW,↓reduceIte])
    rw [if_neg (fun h=>he (e11.1 h))] at hr
    refine Gh.mask mkWtC8 ?_
    exact ⟨s + 1,v,rfl,by omega,by omega,hr.symm,rfl⟩
 rintro x t π ⟨rfl,s,v,rfl,hs,hv,hr,rfl⟩
 have fs:=fin_stem h0 hr
 have fl:=fin_loop h0 hr
 have hs9:((s:Nat):Int)≤(stem.length:Nat):=by omega
 have htl:(stem.take s).length=s:=by simp;omega
 simp only [↓reduceIte]
 refine PRun.wpn rfl ?_
 simp only [SW,↓reduceIte,Nat.reduceAdd]
 refine PRun.seqc (fun t π=>t=(.junk::.ptr 0 0::.ptr 1 0::.lit (.int .i64 (per loop:Nat))::.junk::.junk::.lit (.int .i64 (v:Nat))::.ptr 2 0::.junk::.junk::.junk::.junk::.junk::.junk::.junk::.junk::.junk::.junk::.junk::.junk::.junk::.junk::.junk::.junk::.junk::.junk::.junk::.junk::.junk::.junk::.junk::.junk::.junk::.junk::.junk::.junk::.junk::.junk::.junk::.junk::.junk::.junk::.junk::.junk::.junk::.junk::.junk::.junk::.junk::.junk::.junk::.junk::.junk::.junk::.junk::.junk::.junk::.junk::.junk::.junk::.junk::.junk::.junk::.junk::.junk::.junk::.junk::.junk::.junk::.junk::.junk::.junk::.junk::.junk::.junk::.junk::.junk::.junk::.junk::.junk::.junk::.junk::.junk::.junk::.junk::[])∧∃ p,p=stem.take s∧((p=[]∧π=⟨5,[(2,.cells [.lit (.slice none 0 0),.lit (.slice none 0 0)] 25 2 true false []),(1,.cells [.lit (.slice none 0 0),.lit (.slice none 0 0)] 25 2 true false []),(0,.cells [.sz (L16 stem) stem.length,.sz (L16 loop) loop.length] 25 2 true false [])]⟩)∨(p ≠ []∧π=⟨5,[(3,.cells (L16 p) 54 1 false false []),(2,.cells [.loc 3 0 p.length p.length,.lit (.slice none 0 0)] 25 2 true false []),(1,.cells [.lit (.slice none 0 0),.lit (.slice none 0 0)] 25 2 true false []),(0,.cells [.sz (L16 stem) stem.length,.sz (L16 loop) loop.length] 25 2 true false [])]⟩))) ?_ ?_
 ·repeat (refine PRun.wpn rfl ?_;simp only [wp])
  refine PDraw.stage (Nat.zero_le _) rfl ?_
  by_cases hs0:s=0
  ·subst hs0
   try dsimp only
   simp only [SW,↓reduceIte,reduceCtorEq,Nat.reduceAdd]
   refine PDE.any (Nat.zero_le _) (PE.det (by simp only [SW,↓reduceIte];rfl) ?_)
   refine PDraw.stage (Nat.zero_le _) rfl ?_
   try dsimp only
   simp only [SW]
   refine PDE.any (Nat.zero_le _) (PE.det rfl ?_)
   refine PDraw.last (Nat.zero_le _) rfl ?_
   try dsimp only
   simp only [SW,↓reduceIte]
   refine Gh.mr mkWtC9 [(0,0),(1,1),(2,2)] 5 rfl ?_
   exact ⟨rfl,[],rfl,.inl ⟨rfl,rfl⟩⟩
  ·have hs1:¬ s≤0:=by omega
   have hs2:¬ 140737488355328 < (2 * s + 768) * 2:=by omega
   have hs3:=L16_cutK stem s hs
   try dsimp only
   simp only [SW,↓reduceIte,reduceCtorEq,Nat.reduceAdd,hs9]
   refine PDE.any (Nat.zero_le _) (PE.det (by simp only [SW,↓reduceIte,Nat.reduceAdd,hs1,hs2,hs3,allPlain_L16,bne_self_eq_false];rfl) ?_)
   refine PDraw.stage (Nat.zero_le _) rfl ?_
   try dsimp only
   simp only [SW]
   refine PDE.any (Nat.zero_le _) (PE.det rfl ?_)
   refine PDraw.last (Nat.zero_le _) rfl ?_
   try dsimp only
   simp only [SW,↓reduceIte,Nat.reduceEqDiff]
   refine Gh.mr mkWtC9 [(0,0),(1,1),(2,2),(3,3)] 5 rfl ?_
   simp only [mkWtC9,SW,↓reduceIte,reduceCtorEq,Nat.reduceEqDiff,renL_L16]
   exact ⟨stem.take s,rfl,.inr ⟨fun h=>by rw [h] at htl;simp at htl;omega,by rw [htl]⟩⟩
 rintro t π ⟨rfl,p,hp,⟨rfl,rfl⟩ | ⟨hp0,rfl⟩⟩
 ·refine PRun.seqc (fun t π=>t=(.junk::.ptr 0 0::.ptr 1 0::.lit (.int .i64 (per loop:Nat))::.junk::.junk::.lit (.int .i64 (v:Nat))::.ptr 2 0::.junk::.junk::.junk::.junk::.junk::.junk::.junk::.junk::.junk::.junk::.junk::.junk::.junk::.junk::.junk::.junk::.junk::.junk::.junk::.junk::.junk::.junk::.junk::.junk::.junk::.junk::.junk::.junk::.junk::.junk::.junk::.junk::.junk::.junk::.junk::.junk::.junk::.junk::.junk::.junk::.junk::.junk::.junk::.junk::.junk::.junk::.junk::.junk::.junk::.junk::.junk::.junk::.junk::.junk::.junk::.junk::.junk::.junk::.junk::.junk::.junk::.junk::.junk::.junk::.junk::.junk::.junk::.junk::.junk::.junk::.junk::.junk::.junk::.junk::.junk::.junk::.junk::[])∧∃ q,q=rotR loop (per loop) v (per loop)∧((q=[]∧π=⟨5,[(2,.cells [.lit (.slice none 0 0),.lit (.slice none 0 0)] 25 2 true false []),(1,.cells [.lit (.slice none 0 0),.lit (.slice none 0 0)] 25 2 true false []),(0,.cells [.sz (L16 stem) stem.length,.sz (L16 loop) loop.length] 25 2 true false [])]⟩)∨(q ≠ []∧π=⟨5,[(4,.cells (L16 q) 54 1 false false []),(2,.cells [.lit (.slice none 0 0),.loc 4 0 q.length q.length] 25 2 true false []),(1,.cells [.lit (.slice none 0 0),.lit (.slice none 0 0)] 25 2 true false []),(0,.cells [.sz (L16 stem) stem.length,.sz (L16 loop) loop.length] 25 2 true false [])]⟩))) ?_ ?_
  ·repeat (refine PRun.wpn rfl ?_;simp only [SW])
   refine PRun.gh (Gh.mask mkWtC10 ?_)
   simp only [mkWtC10,↓reduceIte,Bool.false_eq_true,maskP]
   refine PRun.loopG (fun n t π=>∃ i q,t=(.junk::.ptr 0 0::.ptr 1 0::.lit (.int .i64 (per loop:Nat))::.junk::.junk::.lit (.int .i64 (v:Nat))::.ptr 2 0::.lit (.int .i64 (i:Nat))::.junk::.junk::.junk::.junk::.junk::.junk::.junk::.junk::.junk::.junk::.junk::.junk::.junk::.junk::.junk::.junk::.junk::.junk::.junk::.junk::.junk::.junk::.junk::.junk::.junk::.junk::.junk::.junk::.junk::.junk::.junk::.junk::.junk::.junk::.junk::.junk::.junk::.junk::.junk::.junk::.junk::.junk::.junk::.junk::.junk::.junk::.junk::.junk::.junk::.junk::.junk::.junk::.junk::.junk::.junk::.junk::.junk::.junk::.junk::.junk::.junk::.junk::.junk::.junk::.junk::.junk::.junk::.junk::.junk::.junk::.junk::.junk::.junk::.junk::.junk::.junk::[])∧i≤per loop∧n=per loop - i∧q=rotR loop (per loop) v i∧((q=[]∧π=⟨5,[(2,.cells [.lit (.slice none 0 0),.lit (.slice none 0 0)] 25 2 true false []),(1,.cells [.lit (.slice none 0 0),.lit (.slice none 0 0)] 25 2 true false []),(0,.cells [.sz (L16 stem) stem.length,.sz (L16 loop) loop.length] 25 2 true false [])]⟩)∨(q ≠ []∧π=⟨5,[(4,.cells (L16 q) 54 1 false false []),(2,.cells [.lit (.slice none 0 0),.loc 4 0 q.length q.length] 25 2 true false []),(1,.cells [.lit (.slice none 0 0),.lit (.slice none 0 0)] 25 2 true false []),(0,.cells [.sz (L16 stem) stem.length,.sz (L16 loop) loop.length] 25 2 true false [])]⟩))) ?_ (per loop) _ _ ⟨0,[],rfl,by omega,by omega,rfl,.inl ⟨rfl,rfl⟩⟩
   rintro n t π ⟨i,q,rfl,hi,rfl,hq,hqi⟩
   by_cases him:((i:Nat):Int) < (per loop:Nat)
   ·have vm:=Nat.mod_lt v p0
    have f2:(i + per loop - v % per loop) % per loop < loop.length:=Nat.lt_of_lt_of_le (Nat.mod_lt _ p0) p1
    have f1:(((i + per loop - v % per loop) % per loop:Nat):Int) < (loop.length:Nat):=by omega
    have k1:IntKind.i64.wrap ((i:Nat) - ((v % per loop:Nat):Int))=((i:Nat):Int) - ((v % per loop:Nat):Int):=wrap64 (by omega) (by omega)
    have k2:IntKind.i64.wrap (((i:Nat):Int) - ((v % per loop:Nat):Int) + (per loop:Nat))=((i + per loop - v % per loop:Nat):Int):=by rw [wrap64 (by omega) (by omega)];omega
    have k3:IntKind.i64.wrap (((i:Nat):Int) + 1)=((i + 1:Nat):Int):=by rw [wrap64 (by omega) (by omega)];omega
    have hnext:q++[loop[(i + per loop - v % per loop) % per loop]]=rotR loop (per loop) v (i + 1):=by
     rw [hq,rotR_succ,getD_get f2]
    have hqlen:q.length=i:=by rw [hq,rotR_len]
    rcases hqi with ⟨rfl,rfl⟩ | ⟨hq0,rfl⟩
    ·repeat (refine PRun.wpn rfl ?_;simp only [SW,↓reduceIte,ltB_t him])
     refine PDraw.stage (Nat.zero_le _) rfl ?_
     try dsimp only
     simp only [SW,↓reduceIte,reduceCtorEq,Nat.reduceAdd,bi_rem p3,tmod_nat,k1,k2,f1,L16_drop f2]
     refine PDE.any (Nat.zero_le _) (PE.det (by simp only [SW,↓reduceIte,Nat.reduceAdd,Nat.reduceMul,Nat.reduceLeDiff,Nat.reduceLT];rfl) ?_)
     refine PDraw.stage (Nat.zero_le _) rfl ?_
     try dsimp only
     simp only [SW]
     refine PDE.any (Nat.zero_le _) (PE.det rfl ?_)
     refine PDraw.last (Nat.zero_le _) rfl ?_
     try dsimp only
     simp only [SW,↓reduceIte,Nat.reduceEqDiff]
     repeat (refine PRun.wpn rfl ?_;simp only [SW,k3])
     refine Gh.mr mkWtC10 [(0,0),(1,1),(2,2),(3,3),(6,4)] 5 rfl ?_
     try simp only [SW,↓reduceIte,reduceCtorEq,Nat.reduceEqDiff]
     exact ⟨per loop - (i + 1),by omega,i + 1,[loop[(i + per loop - v % per loop) % per loop]],rfl,by omega,rfl,hnext,.inr ⟨by simp,rfl⟩⟩
    ·have q1:¬ q.length + 1≤q.length:=by omega
     have q2:¬ 140737488355328 < (2 * (q.length + 1) + 768) * 2:=by omega
     have q3:=L16_cut q
     have q4:=L16_len q
     repeat (refine PRun.wpn rfl ?_;simp only [SW,↓reduceIte,ltB_t him])
     refine PDraw.stage (Nat.zero_le _) rfl ?_
     try dsimp only
     simp only [SW,↓reduceIte,reduceCtorEq,Nat.reduceAdd,Nat.reduceEqDiff,bi_rem p3,tmod_nat,k1,k2,f1,L16_drop f2]
     refine PDE.any (Nat.zero_le _) (PE.det (by simp only [SW,↓reduceIte,Nat.reduceAdd,Nat.reduceEqDiff,q1,q2,q3,q4,bne_self_eq_false];rfl) ?_)
     refine PDraw.stage (Nat.zero_le _) rfl ?_
     try dsimp only
     simp only [SW]
     refine PDE.any (Nat.zero_le _) (PE.det rfl ?_)
     refine PDraw.last (Nat.zero_le _) rfl ?_
     try dsimp only
     simp only [SW,↓reduceIte,Nat.reduceEqDiff]
     repeat (refine PRun.wpn rfl ?_;simp only [SW,k3])
     refine Gh.mr mkWtC10 [(0,0),(1,1),(2,2),(3,3),(6,4)] 5 rfl ?_
     simp only [mkWtC10,SW,↓reduceIte,reduceCtorEq,Nat.reduceEqDiff,renL_L16,L16_snoc]
     exact ⟨per loop - (i + 1),by omega,i + 1,q++[loop[(i + per loop - v % per loop) % per loop]],rfl,by omega,rfl,hnext,.inr ⟨by simp,by rw [List.length_append];rfl⟩⟩
   ·obtain rfl:i=per loop:=by omega
    rcases hqi with ⟨hq1,rfl⟩ | ⟨hq0,rfl⟩
    ·repeat (refine PRun.wpn rfl ?_;simp only [SW,↓reduceIte,ltB_f him])
     refine Gh.mask mkWtC9 ?_
     exact ⟨rfl,q,hq,.inl ⟨hq1,rfl⟩⟩
    ·repeat (refine PRun.wpn rfl ?_;simp only [SW,↓reduceIte,ltB_f him])
     refine Gh.mask mkWtC9 ?_
     exact ⟨rfl,q,hq,.inr ⟨hq0,rfl⟩⟩
  rintro t π ⟨rfl,q,hq,hqi⟩
  have hqne:q ≠ []:=fun h=>by have:=rotR_len loop (per loop) v (per loop);rw [← hq,h] at this;simp at this;omega
  rcases hqi with ⟨rfl,_⟩ | ⟨_,rfl⟩
  ·exact absurd rfl hqne
  repeat (refine PRun.wpn rfl ?_;simp only [SW,↓reduceIte,reduceCtorEq,Nat.reduceAdd,Nat.reduceEqDiff])
  refine Gh.mr mkWtC6 [(1,1),(4,0)] 2 rfl ⟨_,rfl,.inl ⟨by rw [fs,← hp],?_,?_⟩⟩
  ·rw [fl,← hq];exact .refl _
  ·rw [fl,← hq];simp only [SW,↓reduceIte,reduceCtorEq,Nat.reduceEqDiff,renL_L16,oneN]
 ·refine PRun.seqc (fun t π=>t=(.junk::.ptr 0 0::.ptr 1 0::.lit (.int .i64 (per loop:Nat))::.junk::.junk::.lit (.int .i64 (v:Nat))::.ptr 2 0::.junk::.junk::.junk::.junk::.junk::.junk::.junk::.junk::.junk::.junk::.junk::.junk::.junk::.junk::.junk::.junk::.junk::.junk::.junk::.junk::.junk::.junk::.junk::.junk::.junk::.junk::.junk::.junk::.junk::.junk::.junk::.junk::.junk::.junk::.junk::.junk::.junk::.junk::.junk::.junk::.junk::.junk::.junk::.junk::.junk::.junk::.junk::.junk::.junk::.junk::.junk::.junk::.junk::.junk::.junk::.junk::.junk::.junk::.junk::.junk::.junk::.junk::.junk::.junk::.junk::.junk::.junk::.junk::.junk::.junk::.junk::.junk::.junk::.junk::.junk::.junk::.junk::[])∧∃ q,q=rotR loop (per loop) v (per loop)∧((q=[]∧π=⟨5,[(3,.cells (L16 p) 54 1 false false []),(2,.cells [.loc 3 0 p.length p.length,.lit (.slice none 0 0)] 25 2 true false []),(1,.cells [.lit (.slice none 0 0),.lit (.slice none 0 0)] 25 2 true false []),(0,.cells [.sz (L16 stem) stem.length,.sz (L16 loop) loop.length] 25 2 true false [])]⟩)∨(q ≠ []∧π=⟨5,[(4,.cells (L16 q) 54 1 false false []),(3,.cells (L16 p) 54 1 false false []),(2,.cells [.loc 3 0 p.length p.length,.loc 4 0 q.length q.length] 25 2 true false []),(1,.cells [.lit (.slice none 0 0),.lit (.slice none 0 0)] 25 2 true false []),(0,.cells [.sz (L16 stem) stem.length,.sz (L16 loop) loop.length] 25 2 true false [])]⟩))) ?_ ?_
  ·repeat (refine PRun.wpn rfl ?_;simp only [SW])
   refine PRun.gh (Gh.mask mkWtC10 ?_)
   simp only [mkWtC10,↓reduceIte,Bool.false_eq_true,maskP]
   refine PRun.loopG (fun n t π=>∃ i q,t=(.junk::.ptr 0 0::.ptr 1 0::.lit (.int .i64 (per loop:Nat))::.junk::.junk::.lit (.int .i64 (v:Nat))::.ptr 2 0::.lit (.int .i64 (i:Nat))::.junk::.junk::.junk::.junk::.junk::.junk::.junk::.junk::.junk::.junk::.junk::.junk::.junk::.junk::.junk::.junk::.junk::.junk::.junk::.junk::.junk::.junk::.junk::.junk::.junk::.junk::.junk::.junk::.junk::.junk::.junk::.junk::.junk::.junk::.junk::.junk::.junk::.junk::.junk::.junk::.junk::.junk::.junk::.junk::.junk::.junk::.junk::.junk::.junk::.junk::.junk::.junk::.junk::.junk::.junk::.junk::.junk::.junk::.junk::.junk::.junk::.junk::.junk::.junk::.junk::.junk::.junk::.junk::.junk::.junk::.junk::.junk::.junk::.junk::.junk::.junk::[])∧i≤per loop∧n=per loop - i∧q=rotR loop (per loop) v i∧((q=[]∧π=⟨5,[(3,.cells (L16 p) 54 1 false false []),(2,.cells [.loc 3 0 p.length p.length,.lit (.slice none 0 0)] 25 2 true false []),(1,.cells [.lit (.slice none 0 0),.lit (.slice none 0 0)] 25 2 true false []),(0,.cells [.sz (L16 stem) stem.length,.sz (L16 loop) loop.length] 25 2 true false [])]⟩)∨(q ≠ []∧π=⟨5,[(4,.cells (L16 q) 54 1 false false []),(3,.cells (L16 p) 54 1 false false []),(2,.cells [.loc 3 0 p.length p.length,.loc 4 0 q.length q.length] 25 2 true false []),(1,.cells [.lit (.slice none 0 0),.lit (.slice none 0 0)] 25 2 true false []),(0,.cells [.sz (L16 stem) stem.length,.sz (L16 loop) loop.length] 25 2 true false [])]⟩))) ?_ (per loop) _ _ ⟨0,[],rfl,by omega,by omega,rfl,.inl ⟨rfl,rfl⟩⟩
   rintro n t π ⟨i,q,rfl,hi,rfl,hq,hqi⟩
   by_cases him:((i:Nat):Int) < (per loop:Nat)
   ·have vm:=Nat.mod_lt v p0
    have f2:(i + per loop - v % per loop) % per loop < loop.length:=Nat.lt_of_lt_of_le (Nat.mod_lt _ p0) p1
    have f1:(((i + per loop - v % per loop) % per loop:Nat):Int) < (loop.length:Nat):=by omega
    have k1:IntKind.i64.wrap ((i:Nat) - ((v % per loop:Nat):Int))=((i:Nat):Int) - ((v % per loop:Nat):Int):=wrap64 (by omega) (by omega)
    have k2:IntKind.i64.wrap (((i:Nat):Int) - ((v % per loop:Nat):Int) + (per loop:Nat))=((i + per loop - v % per loop:Nat):Int):=by rw [wrap64 (by omega) (by omega)];omega
    have k3:IntKind.i64.wrap (((i:Nat):Int) + 1)=((i + 1:Nat):Int):=by rw [wrap64 (by omega) (by omega)];omega
    have hnext:q++[loop[(i + per loop - v % per loop) % per loop]]=rotR loop (per loop) v (i + 1):=by
     rw [hq,rotR_succ,getD_get f2]
    have hqlen:q.length=i:=by rw [hq,rotR_len]
    rcases hqi with ⟨rfl,rfl⟩ | ⟨hq0,rfl⟩
    ·repeat (refine PRun.wpn rfl ?_;simp only [SW,↓reduceIte,ltB_t him])
     refine PDraw.stage (Nat.zero_le _) rfl ?_
     try dsimp only
     simp only [SW,↓reduceIte,reduceCtorEq,Nat.reduceAdd,Nat.reduceEqDiff,bi_rem p3,tmod_nat,k1,k2,f1,L16_drop f2]
     refine PDE.any (Nat.zero_le _) (PE.det (by simp only [SW,↓reduceIte,Nat.reduceAdd,Nat.reduceMul,Nat.reduceLeDiff,Nat.reduceLT];rfl) ?_)
     refine PDraw.stage (Nat.zero_le _) rfl ?_
     try dsimp only
     simp only [SW]
     refine PDE.any (Nat.zero_le _) (PE.det rfl ?_)
     refine PDraw.last (Nat.zero_le _) rfl ?_
     try dsimp only
     simp only [SW,↓reduceIte,Nat.reduceEqDiff]
     repeat (refine PRun.wpn rfl ?_;simp only [SW,k3])
     refine Gh.mr mkWtC10 [(0,0),(1,1),(2,2),(3,3),(6,4)] 5 rfl ?_
     try simp only [SW,↓reduceIte,reduceCtorEq,Nat.reduceEqDiff,renL_L16]
     exact ⟨per loop - (i + 1),by omega,i + 1,[loop[(i + per loop - v % per loop) % per loop]],rfl,by omega,rfl,hnext,.inr ⟨by simp,rfl⟩⟩
    ·have q1:¬ q.length + 1≤q.length:=by omega
     have q2:¬ 140737488355328 < (2 * (q.length + 1) + 768) * 2:=by omega
     have q3:=L16_cut q
     have q4:=L16_len q
     repeat (refine PRun.wpn rfl ?_;simp only [SW,↓reduceIte,ltB_t him])
     refine PDraw.stage (Nat.zero_le _) rfl ?_
     try dsimp only
     simp only [SW,↓reduceIte,reduceCtorEq,Nat.reduceAdd,Nat.reduceEqDiff,bi_rem p3,tmod_nat,k1,k2,f1,L16_drop f2]
     refine PDE.any (Nat.zero_le _) (PE.det (by simp only [SW,↓reduceIte,Nat.reduceAdd,Nat.reduceEqDiff,q1,q2,q3,q4,bne_self_eq_false];rfl) ?_)
     refine PDraw.stage (Nat.zero_le _) rfl ?_
     try dsimp only
     simp only [SW]
     refine PDE.any (Nat.zero_le _) (PE.det rfl ?_)
     refine PDraw.last (Nat.zero_le _) rfl ?_
     try dsimp only
     simp only [SW,↓reduceIte,Nat.reduceEqDiff]
     repeat (refine PRun.wpn rfl ?_;simp only [SW,k3])
     refine Gh.mr mkWtC10 [(0,0),(1,1),(2,2),(3,3),(6,4)] 5 rfl ?_
     simp only [mkWtC10,SW,↓reduceIte,reduceCtorEq,Nat.reduceEqDiff,renL_L16,L16_snoc]
     exact ⟨per loop - (i + 1),by omega,i + 1,q++[loop[(i + per loop - v % per loop) % per loop]],rfl,by omega,rfl,hnext,.inr ⟨by simp,by rw [List.length_append];rfl⟩⟩
   ·obtain rfl:i=per loop:=by omega
    rcases hqi with ⟨hq1,rfl⟩ | ⟨hq0,rfl⟩
    ·repeat (refine PRun.wpn rfl ?_;simp only [SW,↓reduceIte,ltB_f him])
     refine Gh.mask mkWtC9 ?_
     exact ⟨rfl,q,hq,.inl ⟨hq1,rfl⟩⟩
    ·repeat (refine PRun.wpn rfl ?_;simp only [SW,↓reduceIte,ltB_f him])
     refine Gh.mask mkWtC9 ?_
     exact ⟨rfl,q,hq,.inr ⟨hq0,rfl⟩⟩
  rintro t π ⟨rfl,q,hq,hqi⟩
  have hqne:q ≠ []:=fun h=>by have:=rotR_len loop (per loop) v (per loop);rw [← hq,h] at this;simp at this;omega
  rcases hqi with ⟨rfl,_⟩ | ⟨_,rfl⟩
  ·exact absurd rfl hqne
  repeat (refine PRun.wpn rfl ?_;simp only [SW,↓reduceIte,reduceCtorEq,Nat.reduceAdd,Nat.reduceEqDiff])
  refine Gh.mr mkWtC6 [(1,2),(3,0),(4,1)] 3 rfl ⟨_,rfl,.inr ⟨by rw [fs,← hp];exact hp0,?_,?_⟩⟩
  ·rw [fl,fs,← hp,← hq];exact .refl _
  ·rw [fl,fs,← hp,← hq];simp only [SW,↓reduceIte,reduceCtorEq,Nat.reduceEqDiff,renL_L16,one2,decide_eq_false hp0]
end
end Go.Proofs.YtkldgoapompinaaDoor.Ai
namespace Go.Proofs.YtkldgoapompinaaDoor.Ai
set_option linter.unusedSimpArgs false
open Go
set_option linter.unusedVariables false
set_option linter.unusedSectionVars false
set_option maxRecDepth 10000
set_option maxHeartbeats 4000000
theorem WG.inv {r:PV} {π1:PW} {a b:List Int} (h:WG r π1 a b) (hb:b ≠ []):(a=[]∧r = .agg [.lit (.slice none 0 0),.loc 0 0 b.length b.length]∧π1=oneN b)∨(r = .agg [.loc 0 0 a.length a.length,.loc 1 0 b.length b.length]∧π1=one2 a b):=by
 cases h with
 | z=>exact absurd rfl hb
 | n=>exact .inl ⟨rfl,rfl,rfl⟩
 | s=>exact .inr ⟨rfl,rfl⟩
section
variable {C:Ctx} (hm:C.P.follows .mixedOrders=true) (hC:TabOK C.P C.ng C.ts Tryd.tab)
include hm hC
theorem joinR_w (u stem loop:List Int) (g1:u.length < 2 ^ 37) (h1:stem.length < 2 ^ 37) (h2:loop.length < 2 ^ 37) :
  ∃ r π1,WG r π1 (nStem (u++stem) loop) (nLoop (u++stem) loop)∧PGen C 23 [.sz (L16 u) u.length,.agg [.sz (L16 stem) stem.length,.sz (L16 loop) loop.length]] r π1:=by
 have z0:=eqB_t (show (0:Int)=0 from rfl)
 by_cases h0:loop=[]
 ·subst h0
  refine ⟨_,_,.z,?_⟩
  refine PGen.body hm hC (show Tryd.tab.get 23=some Tryd.c23 from rfl) ?_
  simp only [SW,Tryd.c23,startP,Nat.reduceAdd,Nat.reduceSub,List.replicate]
  repeat (refine PRun.wpn rfl ?_;simp only [SW,↓reduceIte,reduceCtorEq,Nat.reduceAdd,z0])
  exact Gh.mr mkWtC11 [(1,0)] 1 rfl ⟨_,rfl,.refl _,rfl⟩
 have hl0:loop.length ≠ 0:=fun e=>h0 (List.length_eq_zero_iff.1 e)
 have hl:=eqB_f (show ¬ ((loop.length:Nat):Int)=0 by omega)
 have hne:nLoop (u++stem) loop ≠ []:=nLoop_ne h0
 have u1:=L16_cut u
 have u2:=L16_len u
 have u3:¬ 140737488355328 < (2 * u.length + 768) * 2:=by omega
 have u4:=allPlain_L16 u
 have s1:=L16_cut stem
 have s2:=L16_len stem
 have s3:¬ 140737488355328 < (2 * stem.length + 768) * 2:=by omega
 have s4:=allPlain_L16 stem
 have hlen:(u++stem).length < 2 ^ 38:=by simp;omega
 obtain ⟨r,π1,hw,hn⟩:=normalR_sz hm hC (u++stem) loop hlen (by omega)
 refine ⟨r,π1,hw,?_⟩
 refine PGen.body hm hC (show Tryd.tab.get 23=some Tryd.c23 from rfl) ?_
 simp only [SW,Tryd.c23,startP,Nat.reduceAdd,Nat.reduceSub,List.replicate]
 by_cases hu:u=[]
 ·subst hu
  rw [List.nil_append] at hw hn hne
  by_cases hs:stem=[]
  ·subst hs
   repeat (refine PRun.wpn rfl ?_;simp only [SW,↓reduceIte,reduceCtorEq,Nat.reduceAdd,hl])
   rcases hw.inv hne with ⟨ha,rfl,rfl⟩ | ⟨rfl,rfl⟩
   ·refine .refl (PGen.to (hn.wkA (.cons (.agg (.cons .nil_sz (.cons (.refl _) .nil))) .nil)) rfl (POps.wp ?_))
    simp only [SW,↓reduceIte,Nat.reduceAdd,Nat.reduceEqDiff,PW.with,oneN,shH,shO,shP,shL,shL_L16,shA]
    repeat (refine PRun.wpn rfl ?_;simp only [wp,or_true,true_and,reduceCtorEq])
    refine Gh.mr mkWtC11 [(1,1),(3,0)] 2 rfl ⟨_,rfl,.refl _,?_⟩
    simp only [mkWtC11,SW,↓reduceIte,reduceCtorEq,Nat.reduceEqDiff,renL_L16]
   ·refine .refl (PGen.to (hn.wkA (.cons (.agg (.cons .nil_sz (.cons (.refl _) .nil))) .nil)) rfl (POps.wp ?_))
    simp only [SW,↓reduceIte,Nat.reduceAdd,Nat.reduceEqDiff,PW.with,one2,shH,shO,shP,shL,shL_L16,shA]
    repeat (refine PRun.wpn rfl ?_;simp only [wp,or_true,true_and,reduceCtorEq])
    refine Gh.mr mkWtC11 [(1,2),(3,0),(4,1)] 3 rfl ⟨_,rfl,.refl _,?_⟩
    simp only [mkWtC11,SW,↓reduceIte,reduceCtorEq,Nat.reduceEqDiff,renL_L16]
  ·have hs0:stem.length ≠ 0:=fun e=>hs (List.length_eq_zero_iff.1 e)
   have hs1:¬ stem.length≤0:=by omega
   repeat (refine PRun.wpn rfl ?_;simp only [SW,↓reduceIte,reduceCtorEq,Nat.reduceAdd,Nat.reduceEqDiff,hl,s1,s3,s4,hs1])
   refine Gh.frz 3 rfl (pureL_L16 _) rfl ?_
   simp only [SW,↓reduceIte,reduceCtorEq,Nat.reduceEqDiff]
   rcases hw.inv hne with ⟨ha,rfl,rfl⟩ | ⟨rfl,rfl⟩
   ·refine .refl (PGen.to (hn.wkA (.cons (.agg (.cons .sl_sz (.cons (.refl _) .nil))) .nil)) rfl (POps.wp ?_))
    simp only [SW,↓reduceIte,Nat.reduceAdd,Nat.reduceEqDiff,PW.with,oneN,shH,shO,shP,shL,shL_L16,shA]
    repeat (refine PRun.wpn rfl ?_;simp only [wp,or_true,true_and,reduceCtorEq])
    refine Gh.mr mkWtC11 [(1,1),(4,0)] 2 rfl ⟨_,rfl,.refl _,?_⟩
    simp only [mkWtC11,SW,↓reduceIte,reduceCtorEq,Nat.reduceEqDiff,renL_L16]
   ·refine .refl (PGen.to (hn.wkA (.cons (.agg (.cons .sl_sz (.cons (.refl _) .nil))) .nil)) rfl (POps.wp ?_))
    simp only [SW,↓reduceIte,Nat.reduceAdd,Nat.reduceEqDiff,PW.with,one2,shH,shO,shP,shL,shL_L16,shA]
    repeat (refine PRun.wpn rfl ?_;simp only [wp,or_true,true_and,reduceCtorEq])
    refine Gh.mr mkWtC11 [(1,2),(4,0),(5,1)] 3 rfl ⟨_,rfl,.refl _,?_⟩
    simp only [mkWtC11,SW,↓reduceIte,reduceCtorEq,Nat.reduceEqDiff,renL_L16]
 ·have hu0:u.length ≠ 0:=fun e=>hu (List.length_eq_zero_iff.1 e)
  have hu1:¬ u.length≤0:=by omega
  by_cases hs:stem=[]
  ·subst hs
   rw [List.append_nil] at hw hn hne
   repeat (refine PRun.wpn rfl ?_;simp only [SW,↓reduceIte,reduceCtorEq,Nat.reduceAdd,Nat.reduceEqDiff,hl,u1,u3,u4,hu1])
   refine Gh.frz 3 rfl (pureL_L16 _) rfl ?_
   simp only [SW,↓reduceIte,reduceCtorEq,Nat.reduceEqDiff]
   rcases hw.inv hne with ⟨ha,rfl,rfl⟩ | ⟨rfl,rfl⟩
   ·refine .refl (PGen.to (hn.wkA (.cons (.agg (.cons .sl_sz (.cons (.refl _) .nil))) .nil)) rfl (POps.wp ?_))
    simp only [SW,↓reduceIte,Nat.reduceAdd,Nat.reduceEqDiff,PW.with,oneN,shH,shO,shP,shL,shL_L16,shA]
    repeat (refine PRun.wpn rfl ?_;simp only [wp,or_true,true_and,reduceCtorEq])
    refine Gh.mr mkWtC11 [(1,1),(4,0)] 2 rfl ⟨_,rfl,.refl _,?_⟩
    simp only [mkWtC11,SW,↓reduceIte,reduceCtorEq,Nat.reduceEqDiff,renL_L16]
   ·refine .refl (PGen.to (hn.wkA (.cons (.agg (.cons .sl_sz (.cons (.refl _) .nil))) .nil)) rfl (POps.wp ?_))
    simp only [SW,↓reduceIte,Nat.reduceAdd,Nat.reduceEqDiff,PW.with,one2,shH,shO,shP,shL,shL_L16,shA]
    repeat (refine PRun.wpn rfl ?_;simp only [wp,or_true,true_and,reduceCtorEq])
    refine Gh.mr mkWtC11 [(1,2),(4,0),(5,1)] 3 rfl ⟨_,rfl,.refl _,?_⟩
    simp only [mkWtC11,SW,↓reduceIte,reduceCtorEq,Nat.reduceEqDiff,renL_L16]
  ·have hs0:stem.length ≠ 0:=fun e=>hs (List.length_eq_zero_iff.1 e)
   have q1:¬ u.length + stem.length≤u.length:=by omega
   have q2:¬ 140737488355328 < (2 * (u.length + stem.length) + 768) * 2:=by omega
   have q3:L16 u++L16 stem=L16 (u++stem):=(L16_append u stem).symm
   have q4:u.length + stem.length=(u++stem).length:=List.length_append.symm
   repeat (refine PRun.wpn rfl ?_;simp only [SW,↓reduceIte,reduceCtorEq,Nat.reduceAdd,Nat.reduceEqDiff,hl,u1,u2,u3,u4,hu1,s1,s4,q1,q2,q3,bne_self_eq_false])
   rw [q4]
   refine Gh.frz 4 rfl (pureL_L16 _) rfl ?_
   simp only [SW,↓reduceIte,reduceCtorEq,Nat.reduceEqDiff,frzL_L16]
   rcases hw.inv hne with ⟨ha,rfl,rfl⟩ | ⟨rfl,rfl⟩
   ·refine .refl (PGen.to (hn.wkA (.cons (.agg (.cons .sl_sz (.cons (.refl _) .nil))) .nil)) rfl (POps.wp ?_))
    simp only [SW,↓reduceIte,Nat.reduceAdd,Nat.reduceEqDiff,PW.with,oneN,shH,shO,shP,shL,shL_L16,shA]
    repeat (refine PRun.wpn rfl ?_;simp only [wp,or_true,true_and,reduceCtorEq])
    refine Gh.mr mkWtC11 [(1,1),(5,0)] 2 rfl ⟨_,rfl,.refl _,?_⟩
    simp only [mkWtC11,SW,↓reduceIte,reduceCtorEq,Nat.reduceEqDiff,renL_L16]
   ·refine .refl (PGen.to (hn.wkA (.cons (.agg (.cons .sl_sz (.cons (.refl _) .nil))) .nil)) rfl (POps.wp ?_))
    simp only [SW,↓reduceIte,Nat.reduceAdd,Nat.reduceEqDiff,PW.with,one2,shH,shO,shP,shL,shL_L16,shA]
    repeat (refine PRun.wpn rfl ?_;simp only [wp,or_true,true_and,reduceCtorEq])
    refine Gh.mr mkWtC11 [(1,2),(5,0),(6,1)] 3 rfl ⟨_,rfl,.refl _,?_⟩
    simp only [mkWtC11,SW,↓reduceIte,reduceCtorEq,Nat.reduceEqDiff,renL_L16]
theorem suffixR_w (stem loop:List Int) (i:Int) (g0 : -9223372036854775808≤i) (g0':i < 9223372036854775808) (h1:stem.length < 2 ^ 37) (h2:loop.length < 2 ^ 37) :
  ∃ r π1,WG r π1 (sufS stem loop i.toNat) (sufL stem loop i.toNat)∧PGen C 22 [.agg [.sz (L16 stem) stem.length,.sz (L16 loop) loop.length],.lit (.int .i64 i)] r π1:=by
 have z0:=eqB_t (show (0:Int)=0 from rfl)
 by_cases h0:loop=[]
 ·subst h0
  refine ⟨_,_,.z,?_⟩
  refine PGen.body hm hC (show Tryd.tab.get 22=some Tryd.c22 from rfl) ?_
  simp only [SW,Tryd.c22,startP,Nat.reduceAdd,Nat.reduceSub,List.replicate]
  repeat (refine PRun.wpn rfl ?_;simp only [SW,↓reduceIte,reduceCtorEq,Nat.reduceAdd,z0])
  exact Gh.mr mkWtC12 [(1,0)] 1 rfl ⟨_,rfl,.refl _,rfl⟩
 have hl0:loop.length ≠ 0:=fun e=>h0 (List.length_eq_zero_iff.1 e)
 have hl:=eqB_f (show ¬ ((loop.length:Nat):Int)=0 by omega)
 obtain ⟨n,hn9⟩:∃ n:Nat,(if 0 > i then 0 else i)=n:=by
  split
  ·exact ⟨0,rfl⟩
  ·exact ⟨i.toNat,by omega⟩
 have hi:i.toNat=n:=by split at hn9 <;> omega
 rw [hi]
 simp only [gt_iff_lt] at hn9
 have hn8:n < 9223372036854775808:=by split at hn9 <;> omega
 unfold sufS sufL
 rw [if_neg h0,if_neg h0]
 by_cases hs:n < stem.length
 ·rw [if_pos hs,if_pos hs]
  have hne:nLoop (stem.drop n) loop ≠ []:=nLoop_ne h0
  obtain ⟨r,π1,hw,hn⟩:=normalR_sz hm hC (stem.drop n) loop (by simp;omega) (by omega)
  have e1:((n:Nat):Int)≤(stem.length:Nat):=by omega
  have e2:((n:Nat):Int) < (stem.length:Nat):=by omega
  have hwk:Wk (.sz ((L16 stem).drop n) (stem.length - n)) (.sz (L16 (stem.drop n)) (stem.drop n).length):=by
   have:=wk_cut stem n (stem.length - n) (by omega)
   rw [List.take_of_length_le (by simp)] at this
   exact this
  refine ⟨r,π1,hw,?_⟩
  refine PGen.body hm hC (show Tryd.tab.get 22=some Tryd.c22 from rfl) ?_
  simp only [SW,Tryd.c22,startP,Nat.reduceAdd,Nat.reduceSub,List.replicate]
  repeat (refine PRun.wpn rfl ?_;simp only [SW,↓reduceIte,reduceCtorEq,Nat.reduceAdd,hl,hn9,ltB_t e2,e1,hs])
  rcases hw.inv hne with ⟨ha,rfl,rfl⟩ | ⟨rfl,rfl⟩
  ·refine .refl (PGen.to (hn.wkA (.cons (.agg (.cons hwk (.cons (.refl _) .nil))) .nil)) rfl (POps.wp ?_))
   simp only [SW,↓reduceIte,Nat.reduceAdd,Nat.reduceEqDiff,PW.with,oneN,shH,shO,shP,shL,shL_L16,shA]
   repeat (refine PRun.wpn rfl ?_;simp only [wp,or_true,true_and,reduceCtorEq])
   refine Gh.mr mkWtC12 [(1,1),(3,0)] 2 rfl ⟨_,rfl,.refl _,?_⟩
   simp only [mkWtC12,SW,↓reduceIte,reduceCtorEq,Nat.reduceEqDiff,renL_L16]
  ·refine .refl (PGen.to (hn.wkA (.cons (.agg (.cons hwk (.cons (.refl _) .nil))) .nil)) rfl (POps.wp ?_))
   simp only [SW,↓reduceIte,Nat.reduceAdd,Nat.reduceEqDiff,PW.with,one2,shH,shO,shP,shL,shL_L16,shA]
   repeat (refine PRun.wpn rfl ?_;simp only [wp,or_true,true_and,reduceCtorEq])
   refine Gh.mr mkWtC12 [(1,2),(3,0),(4,1)] 3 rfl ⟨_,rfl,.refl _,?_⟩
   simp only [mkWtC12,SW,↓reduceIte,reduceCtorEq,Nat.reduceEqDiff,renL_L16]
 ·rw [if_neg hs,if_neg hs]
  have hs':=ltB_f (show ¬ ((n:Nat):Int) < (stem.length:Nat) by omega)
  have e1:IntKind.i64.wrap ((n:Int) - (stem.length:Nat))=((n - stem.length:Nat):Int):=by rw [wrap64 (by omega) (by omega)];omega
  have e2:(n - stem.length) % loop.length < loop.length:=Nat.mod_lt _ (by omega)
  generalize hk:(n - stem.length) % loop.length=k at *
  have e3:((k:Nat):Int)≤(loop.length:Nat):=by omega
  have hlne:((loop.length:Nat):Int) ≠ 0:=by omega
  have hL0:loop.drop k++loop.take k ≠ []:=fun e=>by
   have:=congrArg List.length e
   simp only [List.length_append,List.length_drop,List.length_take,List.length_nil] at this;omega
  have hne:nLoop [] (loop.drop k++loop.take k) ≠ []:=nLoop_ne hL0
  have hlen:(loop.drop k++loop.take k).length < 2 ^ 38:=by simp only [List.length_append,List.length_drop,List.length_take];omega
  obtain ⟨r,π1,hw,hn⟩:=normalR_sz hm hC [] (loop.drop k++loop.take k) (by decide) hlen
  rw [nStem_nil] at hw
  refine ⟨r,π1,hw,?_⟩
  refine PGen.body hm hC (show Tryd.tab.get 22=some Tryd.c22 from rfl) ?_
  simp only [SW,Tryd.c22,startP,Nat.reduceAdd,Nat.reduceSub,List.replicate]
  have d1:(L16 loop).drop k=L16 (loop.drop k):=by simp [L16,List.map_drop]
  have d2:(loop.drop k).length=loop.length - k:=List.length_drop
  have d3:=L16_cut (loop.drop k)
  rw [d2] at d3
  have d4:loop.length - k ≠ 0:=by omega
  have d5:¬ loop.length - k≤0:=by omega
  have d6:¬ 140737488355328 < (2 * (loop.length - k) + 768) * 2:=by omega
  have d7:=allPlain_L16 (loop.drop k)
  have c1:=L16_cutK loop k (by omega)
  have c3:¬ 140737488355328 < (2 * (loop.length - k + k) + 768) * 2:=by omega
  have c4:=allPlain_L16 (loop.take k)
  have c5:(L16 (loop.drop k)).length=loop.length - k:=by rw [L16_len,d2]
  have c6:L16 (loop.drop k)++L16 (loop.take k)=L16 (loop.drop k++loop.take k):=(L16_append _ _).symm
  have c7:loop.length - k + k=(loop.drop k++loop.take k).length:=by rw [List.length_append,d2,List.length_take];omega
  repeat (refine PRun.wpn rfl ?_;simp only [SW,↓reduceIte,reduceCtorEq,Nat.reduceAdd,hl,hn9,hs',e1,bi_rem hlne,tmod_nat,hk])
  refine PDraw.stage (Nat.zero_le _) rfl ?_
  try dsimp only
  simp only [SW,↓reduceIte,reduceCtorEq,Nat.reduceAdd,e3,e2,d1]
  refine PDE.any (Nat.zero_le _) (PE.det (by simp only [SW,↓reduceIte,Nat.reduceAdd,d3,d5,d6,d7];rfl) ?_)
  refine PDraw.stage (Nat.zero_le _) rfl ?_
  try dsimp only
  simp only [SW]
  refine PDE.any (Nat.zero_le _) (PE.det rfl ?_)
  refine PDraw.last (Nat.zero_le _) rfl ?_
  try dsimp only
  simp only [SW,↓reduceIte,Nat.reduceEqDiff]
  by_cases hk0:k=0
  ·subst hk0
   rw [show loop.take 0=[] from rfl,List.append_nil,List.drop_zero] at hw hn hne
   refine PRun.wpn rfl ?_
   simp only [SW]
   refine PDraw.stage (Nat.zero_le _) rfl ?_
   try dsimp only
   simp only [SW,↓reduceIte,reduceCtorEq,Nat.reduceAdd,Nat.reduceEqDiff,e2]
   refine PDE.any (Nat.zero_le _) (PE.det (by simp only [SW,↓reduceIte];rfl) ?_)
   refine PDraw.stage (Nat.zero_le _) rfl ?_
   try dsimp only
   simp only [SW]
   refine PDE.any (Nat.zero_le _) (PE.det rfl ?_)
   refine PDraw.last (Nat.zero_le _) rfl ?_
   try dsimp only
   simp only [SW,↓reduceIte,Nat.reduceEqDiff]
   repeat (refine PRun.wpn rfl ?_;simp only [SW,↓reduceIte,Nat.reduceEqDiff])
   refine Gh.frz 3 rfl (pureL_L16 _) rfl ?_
   simp only [SW,↓reduceIte,reduceCtorEq,Nat.reduceEqDiff]
   rcases hw.inv hne with ⟨ha,rfl,rfl⟩ | ⟨rfl,rfl⟩
   ·refine .refl (PGen.to (hn.wkA (.cons (.agg (.cons .nil_sz (.cons .sl_sz .nil))) .nil)) rfl (POps.wp ?_))
    simp only [SW,↓reduceIte,Nat.reduceAdd,Nat.reduceEqDiff,PW.with,oneN,shH,shO,shP,shL,shL_L16,shA]
    repeat (refine PRun.wpn rfl ?_;simp only [wp,or_true,true_and,reduceCtorEq])
    refine Gh.mr mkWtC12 [(1,1),(4,0)] 2 rfl ⟨_,rfl,.refl _,?_⟩
    simp only [mkWtC12,SW,↓reduceIte,reduceCtorEq,Nat.reduceEqDiff,renL_L16]
   ·refine .refl (PGen.to (hn.wkA (.cons (.agg (.cons .nil_sz (.cons .sl_sz .nil))) .nil)) rfl (POps.wp ?_))
    simp only [SW,↓reduceIte,Nat.reduceAdd,Nat.reduceEqDiff,PW.with,one2,shH,shO,shP,shL,shL_L16,shA]
    repeat (refine PRun.wpn rfl ?_;simp only [wp,or_true,true_and,reduceCtorEq])
    refine Gh.mr mkWtC12 [(1,2),(4,0),(5,1)] 3 rfl ⟨_,rfl,.refl _,?_⟩
    simp only [mkWtC12,SW,↓reduceIte,reduceCtorEq,Nat.reduceEqDiff,renL_L16]
  ·have c2:¬ loop.length - k + k≤loop.length - k:=by omega
   refine PRun.wpn rfl ?_
   simp only [wp]
   refine PDraw.stage (Nat.zero_le _) rfl ?_
   try dsimp only
   simp only [SW,↓reduceIte,reduceCtorEq,Nat.reduceAdd,Nat.reduceEqDiff,e3]
   refine PDE.any (Nat.zero_le _) (PE.det (by simp only [SW,↓reduceIte,Nat.reduceAdd,c1,c2,c3,c4,c5,c6,d3,bne_self_eq_false];rfl) ?_)
   refine PDraw.stage (Nat.zero_le _) rfl ?_
   try dsimp only
   simp only [SW]
   refine PDE.any (Nat.zero_le _) (PE.det rfl ?_)
   refine PDraw.last (Nat.zero_le _) rfl ?_
   try dsimp only
   simp only [SW,↓reduceIte,Nat.reduceEqDiff]
   repeat (refine PRun.wpn rfl ?_;simp only [SW,↓reduceIte,Nat.reduceEqDiff])
   rw [c7]
   refine Gh.frz 4 rfl (pureL_L16 _) rfl ?_
   simp only [SW,↓reduceIte,reduceCtorEq,Nat.reduceEqDiff,frzL_L16]
   rcases hw.inv hne with ⟨ha,rfl,rfl⟩ | ⟨rfl,rfl⟩
   ·refine .refl (PGen.to (hn.wkA (.cons (.agg (.cons .nil_sz (.cons .sl_sz .nil))) .nil)) rfl (POps.wp ?_))
    simp only [SW,↓reduceIte,Nat.reduceAdd,Nat.reduceEqDiff,PW.with,oneN,shH,shO,shP,shL,shL_L16,shA]
    repeat (refine PRun.wpn rfl ?_;simp only [wp,or_true,true_and,reduceCtorEq])
    refine Gh.mr mkWtC12 [(1,1),(5,0)] 2 rfl ⟨_,rfl,.refl _,?_⟩
    simp only [mkWtC12,SW,↓reduceIte,reduceCtorEq,Nat.reduceEqDiff,renL_L16]
   ·refine .refl (PGen.to (hn.wkA (.cons (.agg (.cons .nil_sz (.cons .sl_sz .nil))) .nil)) rfl (POps.wp ?_))
    simp only [SW,↓reduceIte,Nat.reduceAdd,Nat.reduceEqDiff,PW.with,one2,shH,shO,shP,shL,shL_L16,shA]
    repeat (refine PRun.wpn rfl ?_;simp only [wp,or_true,true_and,reduceCtorEq])
    refine Gh.mr mkWtC12 [(1,2),(5,0),(6,1)] 3 rfl ⟨_,rfl,.refl _,?_⟩
    simp only [mkWtC12,SW,↓reduceIte,reduceCtorEq,Nat.reduceEqDiff,renL_L16]
end
end Go.Proofs.YtkldgoapompinaaDoor.Ai
namespace Go.Proofs.YtkldgoapompinaaDoor.Ai
set_option linter.unusedSimpArgs false
open Go
set_option linter.unusedVariables false
set_option linter.unusedSectionVars false
set_option maxRecDepth 10000
set_option maxHeartbeats 4000000
def W16 (l:List Int):Prop:=∀ x∈l,0≤x∧x < 65536
def farB (l:List Int) (m:Int):Bool:=l.any fun x=>decide (m≤x)
def chkV (stem loop:List Int) (p:Int):Int:=if p < 0∨8 < p then 1 else if loop=[]∨farB stem (2 ^ p.toNat)=true∨farB loop (2 ^ p.toNat)=true then 50 else 0
theorem shl_i (p:Int) (h0:0≤p) (h8:p≤8):bin .shl (.int .i64 1) (.int .i64 p)=some (.int .i64 (2 ^ p.toNat)):=by
 have:p=0∨p=1∨p=2∨p=3∨p=4∨p=5∨p=6∨p=7∨p=8:=by omega
 rcases this with rfl | rfl | rfl | rfl | rfl | rfl | rfl | rfl | rfl <;> rfl
theorem shl_u (p:Int) (h0:0≤p) (h8:p≤8):bin .shl (.int .i64 1) (.int .u64 (IntKind.u64.wrap p))=some (.int .i64 (2 ^ p.toNat)):=by
 have:p=0∨p=1∨p=2∨p=3∨p=4∨p=5∨p=6∨p=7∨p=8:=by omega
 rcases this with rfl | rfl | rfl | rfl | rfl | rfl | rfl | rfl | rfl <;> rfl
theorem first_far (l:List Int) (m:Int):(∃ i,∃ h:i < l.length,m≤l[i]∧∀ j,∀ h':j < l.length,j < i→¬ m≤l[j])∨∀ i,∀ h:i < l.length,¬ m≤l[i]:=by
 by_cases h:∃ i,∃ h:i < l.length,m≤l[i]
 ·obtain ⟨i,hi,hm⟩:=h
  left
  induction i using Nat.strongRecOn with
  | _ i ih=>
   by_cases hb:∃ j,∃ h':j < l.length,j < i∧m≤l[j]
   ·obtain ⟨j,h',hj,hmj⟩:=hb
    exact ih j hj h' hmj
   ·exact ⟨i,hi,hm,fun j h' hj hmj=>hb ⟨j,h',hj,hmj⟩⟩
 ·exact .inr fun i hi hm=>h ⟨i,hi,hm⟩
theorem farB_t {l:List Int} {m:Int} {i:Nat} (h:i < l.length) (hm:m≤l[i]):farB l m=true:=by
 unfold farB
 exact List.any_eq_true.2 ⟨l[i],List.getElem_mem h,decide_eq_true hm⟩
theorem farB_f {l:List Int} {m:Int} (h:∀ i,∀ h:i < l.length,¬ m≤l[i]):farB l m=false:=by
 unfold farB
 rw [Bool.eq_false_iff]
 intro ht
 obtain ⟨x,hx,hm⟩:=List.any_eq_true.1 ht
 obtain ⟨i,hi,rfl⟩:=List.getElem_of_mem hx
 exact h i hi (of_decide_eq_true hm)
section
variable {C:Ctx} (hm:C.P.follows .mixedOrders=true) (hC:TabOK C.P C.ng C.ts Tryd.tab)
include hm hC
theorem far_55 (x p:Int) (h0:0≤p) (h8:p≤8) (x0:0≤x) (x1:x < 65536):PFun C 55 [.lit (.int .u16 x),.ref [.lit (.int .i64 p)]] (.lit (.bool (leB (2 ^ p.toNat) x))):=by
 have hs:=shl_i p h0 h8
 have w1:IntKind.i64.wrap x=x:=wrap64 (by omega) (by omega)
 generalize (2:Int) ^ p.toNat=m at hs ⊢
 refine PFun.body hm hC (show Tryd.tab.get 55=some Tryd.c55 from rfl) rfl ?_
 simp only [SW,Tryd.c55,startP,Nat.reduceAdd,Nat.reduceSub,List.replicate]
 repeat (refine PRun.wpn rfl ?_;simp only [SW,reduceCtorEq,hs,w1])
 exact .refl ⟨_,rfl,.refl _⟩
theorem idx_83 (l:List Int) (p:Int) (h0:0≤p) (h8:p≤8) (hl:l.length < 2 ^ 40) (hw:W16 l):∃ r:Int,(leB 0 r=farB l (2 ^ p.toNat))∧PFun C 83 [szU l,.fn 55 [] [.ref [.lit (.int .i64 p)]]] (.lit (.int .i64 r)):=by
 have hf:=fun i (hi:i < l.length)=>far_55 hm hC l[i] p h0 h8 (hw _ (List.getElem_mem hi)).1 (hw _ (List.getElem_mem hi)).2
 generalize (2:Int) ^ p.toNat=m at hf ⊢
 rcases first_far l m with ⟨i0,hi0,hm0,hbef⟩ | hno
 ·refine ⟨(i0:Nat),by rw [farB_t hi0 hm0,leB_t (by omega)],?_⟩
  refine PFun.body hm hC (show Tryd.tab.get 83=some Tryd.c83 from rfl) rfl ?_
  simp only [SW,Tryd.c83,startP,Nat.reduceAdd,Nat.reduceSub,List.replicate,szU]
  repeat (refine PRun.wpn rfl ?_;simp only [SW,reduceCtorEq])
  refine PRun.gh (Gh.mask (true::true::false::false::false::false::false::true::true::false::false::false::false::false::false::false::false::false::false::[]) ?_)
  simp only [↓reduceIte,Bool.false_eq_true,maskP]
  refine PRun.loopG (fun k t π=>∃ i:Nat,t=(.sz (L16 l) l.length::.fn 55 [] [.ref [.lit (.int .i64 p)]]::.junk::.junk::.junk::.junk::.junk::.lit (.int .i64 (l.length:Nat))::.lit (.int .i64 (i:Nat))::.junk::.junk::.junk::.junk::.junk::.junk::.junk::.junk::.junk::.junk::[])∧i≤i0∧k=i0 - i∧π=⟨0,[]⟩) ?_ i0 _ _ ⟨0,rfl,by omega,rfl,rfl⟩
  rintro k t π ⟨i,rfl,hi,rfl,rfl⟩
  have hlt:((i:Nat):Int) < (l.length:Nat):=by omega
  have i1:i < l.length:=by omega
  have hc:=hf i i1
  have w1:IntKind.i64.wrap (((i:Nat):Int) + 1)=((i + 1:Nat):Int):=by rw [wrap64 (by omega) (by omega)];omega
  by_cases he:i=i0
  ·subst he
   rw [leB_t hm0] at hc
   repeat (refine PRun.wpn rfl ?_;simp only [SW,↓reduceIte,ltB_t hlt,hlt,L16_drop i1])
   refine .refl (PFun.to hc rfl (POps.wp ?_))
   simp only [wo_nil,setP]
   repeat (refine PRun.wpn rfl ?_;simp only [SW,↓reduceIte,reduceCtorEq])
   exact .refl ⟨_,rfl,.refl _⟩
  ·rw [leB_f (hbef i i1 (by omega))] at hc
   repeat (refine PRun.wpn rfl ?_;simp only [SW,↓reduceIte,ltB_t hlt,hlt,L16_drop i1])
   refine .refl (PFun.to hc rfl (POps.wp ?_))
   simp only [wo_nil,setP]
   repeat (refine PRun.wpn rfl ?_;simp only [SW,↓reduceIte,w1])
   refine Gh.mask (true::true::false::false::false::false::false::true::true::false::false::false::false::false::false::false::false::false::false::[]) ?_
   exact ⟨i0 - (i + 1),by omega,i + 1,rfl,by omega,rfl,rfl⟩
 ·refine ⟨-1,by rw [farB_f hno,leB_f (by decide)],?_⟩
  refine PFun.body hm hC (show Tryd.tab.get 83=some Tryd.c83 from rfl) rfl ?_
  simp only [SW,Tryd.c83,startP,Nat.reduceAdd,Nat.reduceSub,List.replicate,szU]
  repeat (refine PRun.wpn rfl ?_;simp only [SW,reduceCtorEq])
  refine PRun.gh (Gh.mask (true::true::false::false::false::false::false::true::true::false::false::false::false::false::false::false::false::false::false::[]) ?_)
  simp only [↓reduceIte,Bool.false_eq_true,maskP]
  refine PRun.loopG (fun k t π=>∃ i:Nat,t=(.sz (L16 l) l.length::.fn 55 [] [.ref [.lit (.int .i64 p)]]::.junk::.junk::.junk::.junk::.junk::.lit (.int .i64 (l.length:Nat))::.lit (.int .i64 (i:Nat))::.junk::.junk::.junk::.junk::.junk::.junk::.junk::.junk::.junk::.junk::[])∧i≤l.length∧k=l.length - i∧π=⟨0,[]⟩) ?_ l.length _ _ ⟨0,rfl,by omega,rfl,rfl⟩
  rintro k t π ⟨i,rfl,hi,rfl,rfl⟩
  by_cases hlt:((i:Nat):Int) < (l.length:Nat)
  ·have i1:i < l.length:=by omega
   have hc:=hf i i1
   have w1:IntKind.i64.wrap (((i:Nat):Int) + 1)=((i + 1:Nat):Int):=by rw [wrap64 (by omega) (by omega)];omega
   rw [leB_f (hno i i1)] at hc
   repeat (refine PRun.wpn rfl ?_;simp only [SW,↓reduceIte,ltB_t hlt,hlt,L16_drop i1])
   refine .refl (PFun.to hc rfl (POps.wp ?_))
   simp only [wo_nil,setP]
   repeat (refine PRun.wpn rfl ?_;simp only [SW,↓reduceIte,w1])
   refine Gh.mask (true::true::false::false::false::false::false::true::true::false::false::false::false::false::false::false::false::false::false::[]) ?_
   exact ⟨l.length - (i + 1),by omega,i + 1,rfl,by omega,rfl,rfl⟩
  ·repeat (refine PRun.wpn rfl ?_;simp only [SW,↓reduceIte,reduceCtorEq,ltB_f hlt])
   exact .refl ⟨_,rfl,.refl _⟩
theorem cont_56 (l:List Int) (p:Int) (h0:0≤p) (h8:p≤8) (hl:l.length < 2 ^ 40) (hw:W16 l):PFun C 56 [szU l,.fn 55 [] [.ref [.lit (.int .i64 p)]]] (.lit (.bool (farB l (2 ^ p.toNat)))):=by
 obtain ⟨r,hr,hi⟩:=idx_83 hm hC l p h0 h8 hl hw
 rw [← hr]
 simp only [szU] at hi
 refine PFun.body hm hC (show Tryd.tab.get 56=some Tryd.c56 from rfl) rfl ?_
 simp only [SW,Tryd.c56,startP,Nat.reduceAdd,Nat.reduceSub,List.replicate,szU]
 repeat (refine PRun.wpn rfl ?_;simp only [SW])
 refine .refl (PFun.to (hi) rfl (POps.wp ?_))
 simp only [SW]
 repeat (refine PRun.wpn rfl ?_;simp only [wp,or_true,true_and,reduceCtorEq])
 exact .refl ⟨_,rfl,.refl _⟩
theorem check_26 (stem loop:List Int) (p:Int) (g0 : -9223372036854775808≤p) (g0':p < 9223372036854775808) (h1:stem.length < 2 ^ 40) (h2:loop.length < 2 ^ 40) (w1:W16 stem) (w2:W16 loop):PFun C 26 [wdP stem loop,.lit (.int .i64 p)] (.lit (.int .i64 (chkV stem loop p))):=by
 by_cases hp0:p < 0
 ·have e:chkV stem loop p=1:=by unfold chkV;rw [if_pos (.inl hp0)]
  rw [e]
  refine PFun.body hm hC (show Tryd.tab.get 26=some Tryd.c26 from rfl) rfl ?_
  simp only [SW,Tryd.c26,startP,Nat.reduceAdd,Nat.reduceSub,List.replicate,wdP,szU]
  repeat (refine PRun.wpn rfl ?_;simp only [SW,↓reduceIte,reduceCtorEq,Nat.reduceAdd,ltB_t hp0])
  exact .refl ⟨_,rfl,.refl _⟩
 by_cases hp8:8 < p
 ·have e:chkV stem loop p=1:=by unfold chkV;rw [if_pos (.inr hp8)]
  rw [e]
  refine PFun.body hm hC (show Tryd.tab.get 26=some Tryd.c26 from rfl) rfl ?_
  simp only [SW,Tryd.c26,startP,Nat.reduceAdd,Nat.reduceSub,List.replicate,wdP,szU]
  repeat (refine PRun.wpn rfl ?_;simp only [SW,↓reduceIte,reduceCtorEq,Nat.reduceAdd,ltB_f hp0,ltB_t hp8])
  exact .refl ⟨_,rfl,.refl _⟩
 have c1:=cont_56 hm hC stem p (by omega) (by omega) h1 w1
 have c2:=cont_56 hm hC loop p (by omega) (by omega) h2 w2
 unfold chkV
 rw [if_neg (by omega)]
 simp only [szU] at c1 c2
 generalize (2:Int) ^ p.toNat=m at c1 c2 ⊢
 by_cases h0:loop=[]
 ·rw [if_pos (.inl h0)]
  have hl:=eqB_t (show ((loop.length:Nat):Int)=0 by rw [h0];rfl)
  refine PFun.body hm hC (show Tryd.tab.get 26=some Tryd.c26 from rfl) rfl ?_
  simp only [SW,Tryd.c26,startP,Nat.reduceAdd,Nat.reduceSub,List.replicate,wdP,szU]
  repeat (refine PRun.wpn rfl ?_;simp only [SW,↓reduceIte,reduceCtorEq,Nat.reduceAdd,ltB_f hp0,ltB_f hp8,hl])
  exact .refl ⟨_,rfl,.refl _⟩
 have hl0:loop.length ≠ 0:=fun e=>h0 (List.length_eq_zero_iff.1 e)
 have hl:=eqB_f (show ¬ ((loop.length:Nat):Int)=0 by omega)
 by_cases hs:farB stem m=true
 ·rw [if_pos (.inr (.inl hs))]
  rw [hs] at c1
  refine PFun.body hm hC (show Tryd.tab.get 26=some Tryd.c26 from rfl) rfl ?_
  simp only [SW,Tryd.c26,startP,Nat.reduceAdd,Nat.reduceSub,List.replicate,wdP,szU]
  repeat (refine PRun.wpn rfl ?_;simp only [SW,↓reduceIte,reduceCtorEq,Nat.reduceAdd,ltB_f hp0,ltB_f hp8,hl])
  refine Gh.frz 1 rfl rfl rfl ?_
  simp only [SW,↓reduceIte,reduceCtorEq]
  refine .refl (PFun.to (c1) rfl (POps.wp ?_))
  simp only [SW]
  repeat (refine PRun.wpn rfl ?_;simp only [SW,↓reduceIte,reduceCtorEq])
  exact .refl ⟨_,rfl,.refl _⟩
 have hs':farB stem m=false:=by simpa using hs
 rw [hs'] at c1
 by_cases hlp:farB loop m=true
 ·rw [if_pos (.inr (.inr hlp))]
  rw [hlp] at c2
  refine PFun.body hm hC (show Tryd.tab.get 26=some Tryd.c26 from rfl) rfl ?_
  simp only [SW,Tryd.c26,startP,Nat.reduceAdd,Nat.reduceSub,List.replicate,wdP,szU]
  repeat (refine PRun.wpn rfl ?_;simp only [SW,↓reduceIte,reduceCtorEq,Nat.reduceAdd,ltB_f hp0,ltB_f hp8,hl])
  refine Gh.frz 1 rfl rfl rfl ?_
  simp only [SW,↓reduceIte,reduceCtorEq]
  refine .refl (PFun.to (c1) rfl (POps.wp ?_))
  simp only [SW,↓reduceIte]
  refine .refl (PFun.to (c2) rfl (POps.wp ?_))
  simp only [SW]
  repeat (refine PRun.wpn rfl ?_;simp only [SW,↓reduceIte,reduceCtorEq])
  exact .refl ⟨_,rfl,.refl _⟩
 ·have hlp':farB loop m=false:=by simpa using hlp
  rw [if_neg (by rintro (h | h | h);exact h0 h;exact hs h;exact hlp h)]
  rw [hlp'] at c2
  refine PFun.body hm hC (show Tryd.tab.get 26=some Tryd.c26 from rfl) rfl ?_
  simp only [SW,Tryd.c26,startP,Nat.reduceAdd,Nat.reduceSub,List.replicate,wdP,szU]
  repeat (refine PRun.wpn rfl ?_;simp only [SW,↓reduceIte,reduceCtorEq,Nat.reduceAdd,ltB_f hp0,ltB_f hp8,hl])
  refine Gh.frz 1 rfl rfl rfl ?_
  simp only [SW,↓reduceIte,reduceCtorEq]
  refine .refl (PFun.to (c1) rfl (POps.wp ?_))
  simp only [SW,↓reduceIte]
  refine .refl (PFun.to (c2) rfl (POps.wp ?_))
  simp only [SW]
  repeat (refine PRun.wpn rfl ?_;simp only [SW,↓reduceIte,reduceCtorEq])
  exact .refl ⟨_,rfl,.refl _⟩
end
end Go.Proofs.YtkldgoapompinaaDoor.Ai
namespace Go.Proofs.YtkldgoapompinaaDoor.Ai
set_option linter.unusedSimpArgs false
open Go
set_option linter.unusedVariables false
set_option linter.unusedSectionVars false
set_option maxRecDepth 10000
set_option maxHeartbeats 4000000
section
variable {C:Ctx} (hm:C.P.follows .mixedOrders=true) (hC:TabOK C.P C.ng C.ts Tryd.tab)
include hm hC
theorem check_27 (stem loop:List Int) (p:Int) (g0 : -9223372036854775808≤p) (g0':p < 9223372036854775808) (h1:stem.length < 2 ^ 40) (h2:loop.length < 2 ^ 40) (w1:W16 stem) (w2:W16 loop):PFun C 27 [wdP stem loop,.lit (.int .i64 p)] (.lit (.int .i64 (chkV stem loop p))):=by
 by_cases hp0:p < 0
 ·have e:chkV stem loop p=1:=by unfold chkV;rw [if_pos (.inl hp0)]
  rw [e]
  refine PFun.body hm hC (show Tryd.tab.get 27=some Tryd.c27 from rfl) rfl ?_
  simp only [SW,Tryd.c27,startP,Nat.reduceAdd,Nat.reduceSub,List.replicate,wdP,szU]
  repeat (refine PRun.wpn rfl ?_;simp only [SW,↓reduceIte,reduceCtorEq,ltB_t hp0])
  exact .refl ⟨_,rfl,.refl _⟩
 by_cases hp8:8 < p
 ·have e:chkV stem loop p=1:=by unfold chkV;rw [if_pos (.inr hp8)]
  rw [e]
  refine PFun.body hm hC (show Tryd.tab.get 27=some Tryd.c27 from rfl) rfl ?_
  simp only [SW,Tryd.c27,startP,Nat.reduceAdd,Nat.reduceSub,List.replicate,wdP,szU]
  repeat (refine PRun.wpn rfl ?_;simp only [SW,↓reduceIte,reduceCtorEq,ltB_f hp0,ltB_t hp8])
  exact .refl ⟨_,rfl,.refl _⟩
 have hsh:=shl_u p (by omega) (by omega)
 unfold chkV
 rw [if_neg (by omega)]
 generalize (2:Int) ^ p.toNat=m at hsh ⊢
 by_cases h0:loop=[]
 ·rw [if_pos (.inl h0)]
  have hl:=eqB_t (show ((loop.length:Nat):Int)=0 by rw [h0];rfl)
  refine PFun.body hm hC (show Tryd.tab.get 27=some Tryd.c27 from rfl) rfl ?_
  simp only [SW,Tryd.c27,startP,Nat.reduceAdd,Nat.reduceSub,List.replicate,wdP,szU]
  repeat (refine PRun.wpn rfl ?_;simp only [SW,↓reduceIte,reduceCtorEq,ltB_f hp0,ltB_f hp8,hsh,hl])
  exact .refl ⟨_,rfl,.refl _⟩
 have hl0:loop.length ≠ 0:=fun e=>h0 (List.length_eq_zero_iff.1 e)
 have hl:=eqB_f (show ¬ ((loop.length:Nat):Int)=0 by omega)
 have cs:∀ i (h:i < stem.length),IntKind.i64.wrap stem[i]=stem[i]:=fun i h=>by
  have:=w1 _ (List.getElem_mem h);exact wrap64 (by omega) (by omega)
 have cl:∀ i (h:i < loop.length),IntKind.i64.wrap loop[i]=loop[i]:=fun i h=>by
  have:=w2 _ (List.getElem_mem h);exact wrap64 (by omega) (by omega)
 rcases first_far stem m with ⟨i0,hi0,hm0,hbef⟩ | hno
 ·rw [if_pos (.inr (.inl (farB_t hi0 hm0)))]
  refine PFun.body hm hC (show Tryd.tab.get 27=some Tryd.c27 from rfl) rfl ?_
  simp only [SW,Tryd.c27,startP,Nat.reduceAdd,Nat.reduceSub,List.replicate,wdP,szU]
  repeat (refine PRun.wpn rfl ?_;simp only [SW,↓reduceIte,reduceCtorEq,ltB_f hp0,ltB_f hp8,hsh,hl])
  refine PRun.gh (Gh.mask mkWtC13 ?_)
  simp only [mkWtC13,↓reduceIte,Bool.false_eq_true,maskP]
  refine PRun.loopG (fun k t π=>∃ i:Nat,t=(.junk::.junk::.ptr 0 0::.junk::.junk::.lit (.int .i64 m)::.lit (.int .i64 (i:Nat))::.junk::.junk::.junk::.junk::.junk::.junk::.junk::.junk::.junk::.junk::.junk::.junk::.junk::.junk::.junk::.junk::.junk::.junk::.junk::.junk::.junk::.junk::.junk::.junk::.junk::.junk::.junk::.junk::.junk::.junk::.junk::.junk::.junk::.junk::.junk::.junk::.junk::.junk::.junk::.junk::.junk::.junk::.junk::.junk::[])∧i≤i0∧k=i0 - i∧π=⟨1,[(0,.cells [.sz (L16 stem) stem.length,.sz (L16 loop) loop.length] 25 2 true false [])]⟩) ?_ i0 _ _ ⟨0,rfl,by omega,rfl,rfl⟩
  rintro k t π ⟨i,rfl,hi,rfl,rfl⟩
  have hlt:((i:Nat):Int) < (stem.length:Nat):=by omega
  have i1:i < stem.length:=by omega
  have c:=cs i i1
  have k1:IntKind.i64.wrap (((i:Nat):Int) + 1)=((i + 1:Nat):Int):=by rw [wrap64 (by omega) (by omega)];omega
  by_cases he:i=i0
  ·subst he
   repeat (refine PRun.wpn rfl ?_;simp only [SW,↓reduceIte,reduceCtorEq,ltB_t hlt,hlt,L16_drop i1,c,leB_t hm0])
   exact .refl ⟨_,rfl,.refl _⟩
  ·repeat (refine PRun.wpn rfl ?_;simp only [SW,↓reduceIte,ltB_t hlt,hlt,L16_drop i1,c,leB_f (hbef i i1 (by omega)),k1])
   refine Gh.mask mkWtC13 ?_
   exact ⟨i0 - (i + 1),by omega,i + 1,rfl,by omega,rfl,rfl⟩
 have hfs:=farB_f hno
 have hR1:farB loop m=true→(if loop=[]∨farB stem m=true∨farB loop m=true then (50:Int) else 0)=50:=fun h=>if_pos (.inr (.inr h))
 have hR0:farB loop m=false→(if loop=[]∨farB stem m=true∨farB loop m=true then (50:Int) else 0)=0:=fun h=>if_neg (by rintro (e | e | e);exact h0 e;rw [hfs] at e;cases e;rw [h] at e;cases e)
 generalize (if loop=[]∨farB stem m=true∨farB loop m=true then (50:Int) else 0)=R at hR1 hR0 ⊢
 refine PFun.body hm hC (show Tryd.tab.get 27=some Tryd.c27 from rfl) rfl ?_
 simp only [SW,Tryd.c27,startP,Nat.reduceAdd,Nat.reduceSub,List.replicate,wdP,szU]
 repeat (refine PRun.wpn rfl ?_;simp only [SW,↓reduceIte,reduceCtorEq,ltB_f hp0,ltB_f hp8,hsh,hl])
 refine PRun.gh (Gh.mask mkWtC13 ?_)
 simp only [mkWtC13,↓reduceIte,Bool.false_eq_true,maskP]
 refine PRun.loopG (fun k t π=>∃ i:Nat,t=(.junk::.junk::.ptr 0 0::.junk::.junk::.lit (.int .i64 m)::.lit (.int .i64 (i:Nat))::.junk::.junk::.junk::.junk::.junk::.junk::.junk::.junk::.junk::.junk::.junk::.junk::.junk::.junk::.junk::.junk::.junk::.junk::.junk::.junk::.junk::.junk::.junk::.junk::.junk::.junk::.junk::.junk::.junk::.junk::.junk::.junk::.junk::.junk::.junk::.junk::.junk::.junk::.junk::.junk::.junk::.junk::.junk::.junk::[])∧i≤stem.length∧k=stem.length - i∧π=⟨1,[(0,.cells [.sz (L16 stem) stem.length,.sz (L16 loop) loop.length] 25 2 true false [])]⟩) ?_ stem.length _ _ ⟨0,rfl,by omega,rfl,rfl⟩
 rintro k t π ⟨i,rfl,hi,rfl,rfl⟩
 by_cases hlt:((i:Nat):Int) < (stem.length:Nat)
 ·have i1:i < stem.length:=by omega
  have c:=cs i i1
  have k1:IntKind.i64.wrap (((i:Nat):Int) + 1)=((i + 1:Nat):Int):=by rw [wrap64 (by omega) (by omega)];omega
  repeat (refine PRun.wpn rfl ?_;simp only [SW,↓reduceIte,ltB_t hlt,hlt,L16_drop i1,c,leB_f (hno i i1),k1])
  refine Gh.mask mkWtC13 ?_
  exact ⟨stem.length - (i + 1),by omega,i + 1,rfl,by omega,rfl,rfl⟩
 repeat (refine PRun.wpn rfl ?_;simp only [SW,↓reduceIte,reduceCtorEq,ltB_f hlt])
 rcases first_far loop m with ⟨i0,hi0,hm0,hbef⟩ | hno2
 ·rw [hR1 (farB_t hi0 hm0)]
  refine PRun.gh (Gh.mask mkWtC14 ?_)
  simp only [mkWtC14,↓reduceIte,Bool.false_eq_true,maskP]
  refine PRun.loopG (fun k t π=>∃ i:Nat,t=(.junk::.junk::.ptr 0 0::.junk::.junk::.lit (.int .i64 m)::.junk::.lit (.int .i64 (i:Nat))::.junk::.junk::.junk::.junk::.junk::.junk::.junk::.junk::.junk::.junk::.junk::.junk::.junk::.junk::.junk::.junk::.junk::.junk::.junk::.junk::.junk::.junk::.junk::.junk::.junk::.junk::.junk::.junk::.junk::.junk::.junk::.junk::.junk::.junk::.junk::.junk::.junk::.junk::.junk::.junk::.junk::.junk::.junk::[])∧i≤i0∧k=i0 - i∧π=⟨1,[(0,.cells [.sz (L16 stem) stem.length,.sz (L16 loop) loop.length] 25 2 true false [])]⟩) ?_ i0 _ _ ⟨0,rfl,by omega,rfl,rfl⟩
  clear hlt hi i
  rintro k t π ⟨i,rfl,hi,rfl,rfl⟩
  have hlt:((i:Nat):Int) < (loop.length:Nat):=by omega
  have i1:i < loop.length:=by omega
  have c:=cl i i1
  have k1:IntKind.i64.wrap (((i:Nat):Int) + 1)=((i + 1:Nat):Int):=by rw [wrap64 (by omega) (by omega)];omega
  by_cases he:i=i0
  ·subst he
   repeat (refine PRun.wpn rfl ?_;simp only [SW,↓reduceIte,reduceCtorEq,ltB_t hlt,hlt,L16_drop i1,c,leB_t hm0])
   exact .refl ⟨_,rfl,.refl _⟩
  ·repeat (refine PRun.wpn rfl ?_;simp only [SW,↓reduceIte,ltB_t hlt,hlt,L16_drop i1,c,leB_f (hbef i i1 (by omega)),k1])
   refine Gh.mask mkWtC14 ?_
   exact ⟨i0 - (i + 1),by omega,i + 1,rfl,by omega,rfl,rfl⟩
 ·rw [hR0 (farB_f hno2)]
  refine PRun.gh (Gh.mask mkWtC14 ?_)
  simp only [mkWtC14,↓reduceIte,Bool.false_eq_true,maskP]
  refine PRun.loopG (fun k t π=>∃ i:Nat,t=(.junk::.junk::.ptr 0 0::.junk::.junk::.lit (.int .i64 m)::.junk::.lit (.int .i64 (i:Nat))::.junk::.junk::.junk::.junk::.junk::.junk::.junk::.junk::.junk::.junk::.junk::.junk::.junk::.junk::.junk::.junk::.junk::.junk::.junk::.junk::.junk::.junk::.junk::.junk::.junk::.junk::.junk::.junk::.junk::.junk::.junk::.junk::.junk::.junk::.junk::.junk::.junk::.junk::.junk::.junk::.junk::.junk::.junk::[])∧i≤loop.length∧k=loop.length - i∧π=⟨1,[(0,.cells [.sz (L16 stem) stem.length,.sz (L16 loop) loop.length] 25 2 true false [])]⟩) ?_ loop.length _ _ ⟨0,rfl,by omega,rfl,rfl⟩
  clear hlt hi i
  rintro k t π ⟨i,rfl,hi,rfl,rfl⟩
  by_cases hlt:((i:Nat):Int) < (loop.length:Nat)
  ·have i1:i < loop.length:=by omega
   have c:=cl i i1
   have k1:IntKind.i64.wrap (((i:Nat):Int) + 1)=((i + 1:Nat):Int):=by rw [wrap64 (by omega) (by omega)];omega
   repeat (refine PRun.wpn rfl ?_;simp only [SW,↓reduceIte,ltB_t hlt,hlt,L16_drop i1,c,leB_f (hno2 i i1),k1])
   refine Gh.mask mkWtC14 ?_
   exact ⟨loop.length - (i + 1),by omega,i + 1,rfl,by omega,rfl,rfl⟩
  ·repeat (refine PRun.wpn rfl ?_;simp only [SW,↓reduceIte,reduceCtorEq,ltB_f hlt])
   exact .refl ⟨_,rfl,.refl _⟩
end
end Go.Proofs.YtkldgoapompinaaDoor.Ai
