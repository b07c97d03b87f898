/- A PART OF THE PROOF: a step of the proof that the law's code does what its contracts say, by an interpreter of the program's functions that is proved to be sound. -/
import Derived.Test.YtnpoloachkcadaaGreatDoorPv4
import Derived.Test.YtnpoloachkcadaaGreatDoorPuD
namespace Go.Proofs.YtnpoloachkcadaaGreatDoor.Ai
set_option linter.unusedSimpArgs false
open Go
set_option linter.unusedVariables false
set_option linter.unusedSectionVars false
set_option maxRecDepth 10000
set_option maxHeartbeats 2000000
def mkPuE1:List Bool:=(true::false::false::true::true::false::false::false::false::false::false::false::false::false::false::false::false::false::false::false::false::false::false::false::[])
def mkPuE2:List Bool:=(true::true::false::false::false::true::false::false::false::false::false::false::false::false::false::false::false::false::false::false::false::false::false::false::false::false::[])
def mkPuE3:List Bool:=(false::true::false::false::true::true::false::false::false::false::false::false::false::false::false::false::false::false::true::true::true::false::false::false::false::false::false::false::false::false::false::false::false::false::[])
def mkPuE4:List Bool:=(false::true::true::true::false::false::true::true::false::true::true::false::false::false::false::false::false::false::false::false::false::false::false::false::false::false::false::false::false::false::false::false::false::false::false::false::false::false::false::false::false::false::false::false::false::false::false::false::false::false::false::false::false::false::false::false::false::false::false::false::false::false::false::false::false::false::false::false::false::false::[])
def mkPuE5:List Bool:=(false::true::false::true::false::true::true::true::true::false::false::false::false::false::false::false::false::false::false::false::false::false::true::true::true::false::false::false::false::false::false::false::false::false::false::false::false::false::false::false::false::false::false::false::false::false::false::false::false::false::false::false::false::false::false::[])
def mkPuE6:List Bool:=(false::true::true::true::false::false::false::true::false::true::true::true::true::true::true::true::true::false::false::false::false::false::false::false::false::false::false::false::false::false::false::false::false::false::false::false::false::false::false::false::false::false::false::false::false::false::false::false::false::false::false::false::false::false::false::false::false::false::false::false::false::false::false::false::false::false::false::false::false::false::false::false::false::false::false::false::false::false::false::false::false::false::false::false::false::false::false::false::false::false::false::false::false::false::false::false::false::false::false::false::false::false::false::false::false::false::false::false::false::false::false::false::false::false::false::[])
def otN (n:Nat):List ByteArray→Nat
 | []=>n
 | s::l=>if n≤2147483647 then otN (n + (1 + s.size)) l else n
theorem otN_app:∀ (a b:List ByteArray) (n:Nat),otN n (a++b)=otN (otN n a) b
 | [],b,n=>rfl
 | s::a,b,n=>by
  simp only [List.cons_append,otN]
  split
  ·exact otN_app a b _
  ·rename_i h
   cases b with
   | nil=>rfl
   | cons x b=>simp only [otN,if_neg h]
theorem otN_ge:∀ (l:List ByteArray) (n:Nat),n≤otN n l
 | [],n=>Nat.le_refl _
 | s::l,n=>by
  simp only [otN]
  split
  ·have:=otN_ge l (n + (1 + s.size));omega
  ·omega
theorem otN_small:∀ (l:List ByteArray) (n:Nat),otN n l≤2147483647→n + l.length≤otN n l∧∀ s∈l,s.size≤otN n l
 | [],n,_=>⟨Nat.le_refl _,fun s h=>by simp at h⟩
 | s::l,n,h=>by
  simp only [otN] at h ⊢
  split at h
  ·rename_i hn
   rw [if_pos hn]
   obtain ⟨h1,h2⟩:=otN_small l _ h
   have:=otN_ge l (n + (1 + s.size))
   refine ⟨by simp only [List.length_cons];omega,fun x hx=>?_⟩
   rcases List.mem_cons.1 hx with rfl | hx
   ·omega
   ·exact h2 x hx
  ·omega
theorem otN_lt:∀ (l:List ByteArray) (n:Nat),n < 2 ^ 52→(∀ s∈l,s.size < 2 ^ 50)→otN n l < 2 ^ 52
 | [],n,h,_=>h
 | s::l,n,h,hs=>by
  simp only [otN]
  split
  ·have:=hs s (by simp)
   exact otN_lt l _ (by omega) fun x hx=>hs x (by simp [hx])
  ·exact h
theorem plain_sL:∀ l:List ByteArray,allPlain (sL l)=true
 | []=>rfl
 | s::l=>by have:=plain_sL l;simp only [SW,sL,List.map_cons] at this ⊢;exact this
def zT:List PV:=[.lit (.string ⟨#[]⟩),.lit (.string ⟨#[]⟩)]
theorem over_sL (l:List ByteArray):overP (List.replicate (l.length + 2) (.lit (.string ⟨#[]⟩))) (sL l)=some (sL l++zT):=by
 rw [← List.replicate_append_replicate]
 exact overP_all _ _ _ (by rw [List.length_replicate,sL_len])
theorem splice1 {cs:List PV} {k:Nat} (v:PV) (h:k < cs.length):spliceP cs k [v]=some (cs.set k v):=by
 rw [spliceP_eq cs k [v] (by simp only [SW];omega),List.set_eq_take_append_cons_drop,if_pos h];rfl
def ownT:List PV:=[.lit (.string ownS),.lit (.string ownS)]
def lT (l:List ByteArray):List PV:=sL l++ownT
section
variable {C:Ctx} (hm:C.P.follows .mixedOrders=true) (hC:TabOK C.P C.ng C.ts Tryz.tab)
include hm hC
theorem ofTexts_ok (l:List ByteArray) (hl:l.length < 2 ^ 60) (hs:∀ s∈l,s.size < 2 ^ 50):PFun C 48 [.sz (sL l) l.length] (.lit (.int .i64 (otN 0 l:Nat))):=by
 have h64:((2147483647:Int))=((2147483647:Nat):Int):=rfl
 refine PFun.body hm hC (show Tryz.tab.get 48=some Tryz.c48 from rfl) rfl ?_
 simp only [SW,Tryz.c48,startP,Nat.reduceAdd,Nat.reduceSub,List.replicate]
 repeat (refine PRun.wpn rfl ?_;simp only [SW,reduceCtorEq])
 refine PRun.gh (Gh.mask mkPuE1 ?_)
 simp only [mkPuE1,↓reduceIte,Bool.false_eq_true,maskP]
 refine PRun.loopG (fun m t π=>∃ i:Nat,t=(.sz (sL l) l.length::.junk::.junk::.lit (.int .i64 (otN 0 (l.take i):Nat))::.lit (.int .i64 (i:Nat))::.junk::.junk::.junk::.junk::.junk::.junk::.junk::.junk::.junk::.junk::.junk::.junk::.junk::.junk::.junk::.junk::.junk::.junk::.junk::[])∧i≤l.length∧m=l.length - i∧π=⟨0,[]⟩) ?_ l.length _ _ ⟨0,rfl,by omega,rfl,rfl⟩
 rintro m t π ⟨i,rfl,hi,rfl,rfl⟩
 by_cases hlt:(i:Int) < (l.length:Nat)
 ·obtain ⟨s,hs'⟩:∃ s,l[i]? = some s:=⟨l[i]'(by omega),List.getElem?_eq_getElem (by omega)⟩
  have hcut:=sL_at hs'
  have htk:l.take (i + 1)=l.take i++[s]:=by rw [List.take_add_one,hs'];rfl
  have hsz:=hs s (List.mem_of_getElem? hs')
  have ho:=otN_lt (l.take i) 0 (by omega) fun x hx=>hs x (List.mem_of_mem_take hx)
  have w1:IntKind.i64.wrap (((i:Nat):Int) + 1)=((i + 1:Nat):Int):=by rw [wrap64 (by omega) (by omega)];omega
  have w2:IntKind.i64.wrap (1 + ((s.size:Nat):Int))=((1 + s.size:Nat):Int):=by rw [wrap64 (by omega) (by omega)];omega
  have w3:IntKind.i64.wrap (((otN 0 (l.take i):Nat):Int) + ((1 + s.size:Nat):Int))=((otN 0 (l.take i) + (1 + s.size):Nat):Int):=by rw [wrap64 (by omega) (by omega)];omega
  by_cases hn:((otN 0 (l.take i):Nat):Int)≤2147483647
  ·have he:otN 0 (l.take (i + 1))=otN 0 (l.take i) + (1 + s.size):=by rw [htk,otN_app];simp only [otN];rw [if_pos (by omega)]
   repeat (refine PRun.wpn rfl ?_;simp only [SW,↓reduceIte,ltB_t hlt,hlt,hcut,leB_t hn,w1,w2,w3])
   refine Gh.mask mkPuE1 ?_
   exact ⟨l.length - (i + 1),by omega,i + 1,by rw [he];rfl,by omega,rfl,rfl⟩
  ·have he:otN 0 l=otN 0 (l.take i):=by
    have h2:l=l.take i++(s::l.drop (i + 1)):=by
     obtain ⟨hi',hse⟩:=List.getElem?_eq_some_iff.1 hs'
     rw [← hse,← List.drop_eq_getElem_cons hi',List.take_append_drop]
    conv=>lhs;rw [h2,otN_app]
    simp only [otN]
    rw [if_neg (by omega)]
   rw [he]
   repeat (refine PRun.wpn rfl ?_;simp only [SW,↓reduceIte,reduceCtorEq,ltB_t hlt,leB_f hn])
   exact .refl ⟨_,rfl,.refl _⟩
 ·have hil:i=l.length:=by omega
  rw [hil,List.take_length]
  repeat (refine PRun.wpn rfl ?_;simp only [SW,↓reduceIte,reduceCtorEq,ltB_f (show ¬ ((l.length:Nat):Int) < (l.length:Nat) by omega)])
  exact .refl ⟨_,rfl,.refl _⟩
theorem sameTexts_ok (l:List ByteArray) (hl:l.length < 2 ^ 60):PFun C 29 [.sz (sL l) l.length,.sz (sL l) l.length] (.lit (.bool true)):=by
 have e0:=neB_f (show ((l.length:Nat):Int)=((l.length:Nat):Int) from rfl)
 refine PFun.body hm hC (show Tryz.tab.get 29=some Tryz.c29 from rfl) rfl ?_
 simp only [SW,Tryz.c29,startP,Nat.reduceAdd,Nat.reduceSub,List.replicate]
 repeat (refine PRun.wpn rfl ?_;simp only [SW,↓reduceIte,reduceCtorEq,e0])
 refine PRun.gh (Gh.mask mkPuE2 ?_)
 simp only [mkPuE2,↓reduceIte,Bool.false_eq_true,maskP]
 refine PRun.loopG (fun m t π=>∃ i:Nat,t=(.sz (sL l) l.length::.sz (sL l) l.length::.junk::.junk::.junk::.lit (.int .i64 (i:Nat))::.junk::.junk::.junk::.junk::.junk::.junk::.junk::.junk::.junk::.junk::.junk::.junk::.junk::.junk::.junk::.junk::.junk::.junk::.junk::.junk::[])∧i≤l.length∧m=l.length - i∧π=⟨0,[]⟩) ?_ l.length _ _ ⟨0,rfl,by omega,rfl,rfl⟩
 rintro m t π ⟨i,rfl,hi,rfl,rfl⟩
 by_cases hlt:(i:Int) < (l.length:Nat)
 ·obtain ⟨s,hs'⟩:∃ s,l[i]? = some s:=⟨l[i]'(by omega),List.getElem?_eq_getElem (by omega)⟩
  have hcut:=sL_at hs'
  have w1:IntKind.i64.wrap (((i:Nat):Int) + 1)=((i + 1:Nat):Int):=by rw [wrap64 (by omega) (by omega)];omega
  repeat (refine PRun.wpn rfl ?_;simp only [SW,↓reduceIte,ltB_t hlt])
  refine PDraw.last (Nat.zero_le _) rfl ?_
  try dsimp only
  simp only [SW,↓reduceIte,Nat.reduceAdd,hlt,hcut,neS_f (show s=s from rfl)]
  repeat (refine PRun.wpn rfl ?_;simp only [SW,↓reduceIte,w1])
  refine Gh.mask mkPuE2 ?_
  exact ⟨l.length - (i + 1),by omega,i + 1,rfl,by omega,rfl,rfl⟩
 ·repeat (refine PRun.wpn rfl ?_;simp only [SW,↓reduceIte,reduceCtorEq,ltB_f hlt])
  exact .refl ⟨_,rfl,.refl _⟩
theorem lentTexts_m (l:List ByteArray) (hl:l.length < 2 ^ 38):PMk C 50 [.sz (sL l) l.length] (fun r π1=>r = .loc 0 0 l.length (l.length + 2)∧π1=⟨2,[(0,.cells (lT l) 9 1 true false [])]⟩):=by
 have w0:IntKind.i64.wrap (((l.length:Nat):Int) + 2)=((l.length + 2:Nat):Int):=by rw [wrap64 (by omega) (by omega)];omega
 have m1:(0:Int)≤((l.length + 2:Nat):Int):=by omega
 have m2:((l.length + 2:Nat):Int) * ((16:Nat):Int)≤140737488355328:=by omega
 have m2':((l.length + 2:Nat):Int) * 16≤140737488355328:=by omega
 have m3:((l.length + 2:Nat):Int)≤140737488355328:=by omega
 refine PMk.body hm hC (show Tryz.tab.get 50=some Tryz.c50 from rfl) ?_
 simp only [SW,Tryz.c50,startP,Nat.reduceAdd,Nat.reduceSub,List.replicate]
 have q0:=cut_all (sL_len l)
 have q1:=plain_sL l
 have q2:=over_sL l
 have q3:=splice_at (sL l) zT ownT [] l.length (sL_len l) rfl
 simp only [List.append_nil] at q3
 have q4:l.length≤l.length + 2:=by omega
 have q5:l.length + 2≤l.length + 2:=Nat.le_refl _
 have q6:¬ l.length + 2=0:=by omega
 have q7:((l.length:Nat):Int)≤((l.length + 2:Nat):Int):=by omega
 have hown:ownT=[.lit (.string ⟨#[116,104,101,32,111,119,110,101,114,39,115]⟩),.lit (.string ⟨#[116,104,101,32,111,119,110,101,114,39,115]⟩)]:=rfl
 have hlt':lT l=sL l++[.lit (.string ⟨#[116,104,101,32,111,119,110,101,114,39,115]⟩),.lit (.string ⟨#[116,104,101,32,111,119,110,101,114,39,115]⟩)]:=rfl
 rw [hown] at q3
 by_cases h0:l.length=0
 ·obtain rfl:l=[]:=List.length_eq_zero_iff.1 h0
  repeat (refine PRun.wpn rfl ?_;simp only [SW,↓reduceIte,reduceCtorEq,Nat.reduceAdd,(show IntKind.i64.wrap (0 + 2)=2 from rfl),List.replicate])
  refine Gh.sub 2 [(0,.cells (lT []) 9 1 true false [])] (fun {j o} h=>?_) (Nat.le_refl _) ⟨_,rfl,rfl,rfl⟩
  simp only [look] at h ⊢
  split at h
  ·rename_i e;subst e
   rw [if_neg (by omega),if_pos rfl];exact h
  ·simp at h
 ·repeat (refine PRun.wpn rfl ?_;simp only [SW,↓reduceIte,reduceCtorEq,Nat.reduceAdd,w0,m1,m2,m3,q0,q1,q2,q3,q4,q5,q6,q7,h0])
  refine Gh.sub 2 [(0,.cells (lT l) 9 1 true false [])] (fun {j o} h=>?_) (Nat.le_refl _) ⟨_,rfl,rfl,rfl⟩
  simp only [look] at h ⊢
  split at h
  ·rename_i e;subst e
   rw [if_neg (by omega),if_pos rfl];exact h
  ·simp at h
theorem wholeTexts_ok (l:List ByteArray) (hl:l.length < 2 ^ 60):PFun C 52 [.sp (lT l) l.length (l.length + 2),.sz (sL l) l.length] (.lit (.bool true)):=by
 have hc:PFun C 29 [.sp (lT l) l.length (l.length + 2),.sz (sL l) l.length] (.lit (.bool true)):=(sameTexts_ok hm hC l hl).wkA (.cons (Wk.sp_sz (ds:=sL l) (ext:=ownT) (.refl _)) (.cons (.refl _) .nil))
 have w0:IntKind.i64.wrap (((l.length:Nat):Int) + 2)=((l.length + 2:Nat):Int):=by rw [wrap64 (by omega) (by omega)];omega
 have w1:IntKind.i64.wrap (((l.length:Nat):Int) + 1)=((l.length + 1:Nat):Int):=by rw [wrap64 (by omega) (by omega)];omega
 have e1:=ltB_f (show ¬ ((l.length + 2:Nat):Int) < ((l.length + 2:Nat):Int) by omega)
 have e2:((l.length:Nat):Int) < ((l.length + 2:Nat):Int):=by omega
 have e3:((l.length + 1:Nat):Int) < ((l.length + 2:Nat):Int):=by omega
 have e4:=eqS_t (show (⟨#[116,104,101,32,111,119,110,101,114,39,115]⟩:ByteArray)=⟨#[116,104,101,32,111,119,110,101,114,39,115]⟩ from rfl)
 have d1:(lT l).drop l.length=[.lit (.string ⟨#[116,104,101,32,111,119,110,101,114,39,115]⟩),.lit (.string ⟨#[116,104,101,32,111,119,110,101,114,39,115]⟩)]:=by
  have:(lT l).drop (sL l).length=ownT:=List.drop_left
  rwa [sL_len] at this
 have d2:(lT l).drop (l.length + 1)=[.lit (.string ⟨#[116,104,101,32,111,119,110,101,114,39,115]⟩)]:=by
  rw [← List.drop_drop,d1];rfl
 have e5:(0:Int)≤((l.length + 2:Nat):Int):=by omega
 refine PFun.body hm hC (show Tryz.tab.get 52=some Tryz.c52 from rfl) rfl ?_
 simp only [SW,Tryz.c52,startP,Nat.reduceAdd,Nat.reduceSub,List.replicate]
 repeat (refine PRun.wpn rfl ?_;simp only [SW,↓reduceIte,e1,w0,w1,e2,e3,e4,e5,d1,d2])
 refine .refl (PFun.to (hc) rfl (POps.wp ?_))
 simp only [SW]
 repeat (refine PRun.wpn rfl ?_;simp only [wp,or_true,true_and,reduceCtorEq])
 exact .refl ⟨_,rfl,.refl _⟩
theorem spoilTexts_m (n id nx:Nat) (H:List (Nat × PObj)) (hn:n < 2 ^ 60) (hn0:n ≠ 0) (m:Nat) (hmn:m≤n) (cs:List PV) (hcs:cs.length=n) (hid:id < nx) (h:look H id=some (.cells cs 9 1 true false [])):PToB C nx 53 [.loc id 0 m n] ⟨nx,H⟩ fun r π'=>r=tupP []∧nx≤π'.next∧∀ j,j < nx→j ≠ id→look π'.heap j=look H j:=by
 have bnx:Nat.ble nx nx=true:=Nat.ble_eq_true_of_le (Nat.le_refl _)
 have e2:(0:Int)≤((n:Nat):Int):=by omega
 have e3:m≤n:=hmn
 refine PToB.of_body hm hC (show Tryz.tab.get 53=some Tryz.c53 from rfl) ?_
 simp only [SW,Tryz.c53,startP,Nat.reduceAdd,Nat.reduceSub,List.replicate]
 repeat (refine PRun.wpn rfl ?_;simp only [SW,↓reduceIte,reduceCtorEq,h,e2,e3,hn0])
 refine PRun.gh (Gh.mask (false::false::true::true::false::false::false::false::false::false::false::false::false::false::false::false::false::[]) ?_)
 simp only [↓reduceIte,Bool.false_eq_true,maskP]
 refine PRun.loopG (fun m t π=>∃ (i:Nat) (cs:List PV) (H':List (Nat × PObj)),t=(.junk::.junk::.loc id 0 n n::.lit (.int .i64 (i:Nat))::.junk::.junk::.junk::.junk::.junk::.junk::.junk::.junk::.junk::.junk::.junk::.junk::.junk::[])∧i≤n∧m=n - i∧π=⟨nx,H'⟩∧cs.length=n∧look H' id=some (.cells cs 9 1 true false [])∧∀ j,j < nx→j ≠ id→look H' j=look H j) ?_ n _ _ ⟨0,cs,H,rfl,by omega,rfl,rfl,hcs,h,fun _ _ _=>rfl⟩
 rintro m t π ⟨i,cs,H',rfl,hi,rfl,rfl,hcl,hl,hk⟩
 by_cases hlt:(i:Int) < (n:Nat)
 ·have hsp:=splice1 (.lit (.string ⟨#[115,112,111,105,108,116]⟩)) (show i < cs.length by omega)
  have w1:IntKind.i64.wrap (((i:Nat):Int) + 1)=((i + 1:Nat):Int):=by rw [wrap64 (by omega) (by omega)];omega
  repeat (refine PRun.wpn rfl ?_;simp only [SW,↓reduceIte,ltB_t hlt,hlt,hl,hsp,w1])
  refine Gh.mask (false::false::true::true::false::false::false::false::false::false::false::false::false::false::false::false::false::[]) ?_
  exact ⟨n - (i + 1),by omega,i + 1,cs.set i (.lit (.string ⟨#[115,112,111,105,108,116]⟩)),_,rfl,by omega,rfl,rfl,by rw [List.length_set];exact hcl,by rw [look_setO,if_pos rfl,hl];rfl,fun j h1 h2=>by rw [look_setO,if_neg h2];exact hk j h1 h2⟩
 ·repeat (refine PRun.wpn rfl ?_;simp only [SW,↓reduceIte,ltB_f hlt])
  exact .refl ⟨_,rfl,rfl,Nat.le_refl _,hk⟩
end
end Go.Proofs.YtnpoloachkcadaaGreatDoor.Ai
namespace Go.Proofs.YtnpoloachkcadaaGreatDoor.Ai
set_option linter.unusedSimpArgs false
open Go
set_option linter.unusedVariables false
set_option linter.unusedSectionVars false
set_option maxRecDepth 10000
set_option maxHeartbeats 4000000
structure Plc (q mq:Nat) (ns:List ByteArray) (nx:Nat) (H:List (Nat × PObj)):Prop where
 hq:q < nx
 hm:mq < nx
 cell:look H q=some (.cells [.map mq] 88 1 true false [])
 map:look H mq=some (.map (mP 0 ns) ns.length)
theorem Plc.keep {q mq nx nx':Nat} {ns:List ByteArray} {H H':List (Nat × PObj)} (h:Plc q mq ns nx H) (hn:nx≤nx') (hk:∀ i,i < nx→look H' i=look H i):Plc q mq ns nx' H':=
 ⟨Nat.lt_of_lt_of_le h.hq hn,Nat.lt_of_lt_of_le h.hm hn,(hk _ h.hq).trans h.cell,(hk _ h.hm).trans h.map⟩
def MkN (f:Fm) (nx:Nat) (H:List (Nat × PObj)) (r:PV) (π':PW):Prop:=∃ t,r=mtP t∧NewT false f nx H t π'.next π'.heap
section
variable {C:Ctx} (hm:C.P.follows .mixedOrders=true) (hC:TabOK C.P C.ng C.ts Tryz.tab)
include hm hC
theorem ren105_n (from_ to_:List ByteArray) (hl:from_.length=to_.length) (hz:from_.length < 2 ^ 38) (p:Fm) (hp:p.size < 2 ^ 38) (q mq nx:Nat) (H:List (Nat × PObj)) (h:Plc q mq from_ nx H) :
  PToB C nx 105 [fP p,.ptr q 0,.ref [.sz (sL to_) to_.length]] ⟨nx,H⟩ (MkN (renG from_ to_ p) nx H):=by
 obtain ⟨o,n,ks⟩:=p
 obtain ⟨f1,f2⟩:=findP_mP n from_ 0 0
 have hle:=posN_le n from_
 obtain ⟨hq,hmq,hcell,hmap⟩:=h
 have bnx:Nat.ble nx nx=true:=Nat.ble_eq_true_of_le (Nat.le_refl _)
 have bn1:Nat.ble nx (nx + 1)=true:=Nat.ble_eq_true_of_le (by omega)
 have bn2:Nat.ble nx (nx + 1 + 1)=true:=Nat.ble_eq_true_of_le (by omega)
 have e1:¬ q=nx + 1:=by omega
 have e2:¬ q=nx:=by omega
 have e3:¬ mq=nx + 1:=by omega
 have e4:¬ mq=nx:=by omega
 have e5:¬ nx=nx + 1:=by omega
 refine PToB.of_body hm hC (show Tryz.tab.get 105=some Tryz.c105 from rfl) ?_
 simp only [SW,Tryz.c105,startP,Nat.reduceAdd,Nat.reduceSub,List.replicate,fP,fC]
 by_cases h0:posN n from_=0
 ·have f2:=f2 h0
  have c1:=copy_m hm hC _ (.mk o n ks) (Nat.le_refl _) hp
  have e:renG from_ to_ (.mk o n ks) = .mk o n ks:=by simp only [renG,if_pos h0]
  rw [e]
  simp only [fP,fC] at c1
  repeat (refine PRun.wpn rfl ?_;simp only [SW,↓reduceIte,e1,e2,e3,e4,e5,hcell,hmap,f2,keyP,ltB_f (show ¬ (0:Int) < 0 by omega)])
  refine .refl ⟨show nx≤nx + 1 + 1 by omega,PMk.tree c1 rfl (LendsL.pure rfl) (fun t nx1 H1 ht=>POps.wp ?_) (show nx≤nx + 1 + 1 by omega)⟩
  have hr1:=(ht.old (nx + 1) (by show nx + 1 < nx + 1 + 1;omega)).trans look_self'
  have hlo:=ht.lo
  have hnn:=ht.nn
  dsimp only at hlo hnn
  have hold:=ht.old
  dsimp only at hold
  have hst:∀ x,InH (setO H1 (nx + 1) x) nx1 t:=fun x=>ht.inn.keep (Nat.le_refl _) fun j hj y hy=>by
   rw [look_setO,if_neg (fun e=>by have:=hlo j hj;omega)];exact hy
  have hz2:∀ x,look (setO H1 (nx + 1) x) (nx + 1)=some x:=fun x=>by rw [look_setO,if_pos rfl,hr1];rfl
  have bn3:Nat.ble nx nx1=true:=Nat.ble_eq_true_of_le (by omega)
  obtain ⟨c0,c1,c2,hmc,hmC,p0,p1,p2⟩:=mC_three t
  simp only [plainP,isCell] at p0 p1 p2
  rw [hmC]
  simp only [wo_st,pv_t,pevE,getP,setP,spliceP,overP,plainP,isCell,List.length_cons,List.length_nil,Option.map_some,Bool.and_true,↓reduceIte,Nat.reduceAdd,Nat.zero_add,allPlain,PW.wr,killO,Bool.false_or,List.length_cons,List.length_nil,hr1]
  simp only [p0,p1,p2,wo_nil,onE_s,put_none,Option.map_some,Bool.and_true,↓reduceIte,Bool.false_eq_true,Bool.not_true,bn3]
  repeat (refine PRun.wpn rfl ?_;simp only [wp,or_true,true_and,reduceCtorEq])
  refine .refl ⟨[.agg [c0,c1,c2]],by simp only [getP,cut0,cutS,List.drop_zero,Option.map_some,Option.bind_some,hz2],t,hmC.symm,ht.rm,ht.fm,hst _,ht.nd,fun j hj=>by have:=hlo j hj;omega,by show nx≤nx1;omega,fun j hj=>?_⟩
  show look (setO H1 (nx + 1) _) j=look H j
  rw [look_setO,if_neg (by omega),hold j (by omega),look_ne (by omega),look_ne (by omega)]
 ·obtain ⟨k,f1⟩:=f1 h0
  rw [Nat.zero_add] at f1
  obtain ⟨t,ht⟩:∃ t,to_[posN n from_ - 1]? = some t:=⟨to_[posN n from_ - 1]'(by omega),List.getElem?_eq_getElem (by omega)⟩
  have e:renG from_ to_ (.mk o n ks) = .mk o t ks:=by simp only [renG,if_neg h0];rw [List.getD_eq_getElem?_getD,ht];rfl
  have c1:=copy_m hm hC _ (.mk o t ks) (Nat.le_refl _) (by simpa only [Fm.size] using hp)
  have hcut:=sL_at ht
  rw [e]
  simp only [fP,fC] at c1
  have w1:IntKind.i64.wrap (((posN n from_:Nat):Int) - 1)=((posN n from_ - 1:Nat):Int):=by rw [wrap64 (by omega) (by omega)];omega
  have w2:ltB 0 ((posN n from_:Nat):Int)=true:=ltB_t (by omega)
  have w3:((posN n from_ - 1:Nat):Int) < ((to_.length:Nat):Int):=by omega
  clear ht
  repeat (refine PRun.wpn rfl ?_;simp only [SW,↓reduceIte,bn2,e1,e2,e3,e4,e5,hcell,hmap,f1,keyP,w1,w2,w3,hcut])
  refine .refl ⟨show nx≤nx + 1 + 1 by omega,PMk.tree c1 rfl (LendsL.pure rfl) (fun t nx1 H1 ht=>POps.wp ?_) (show nx≤nx + 1 + 1 by omega)⟩
  have hr1:=(ht.old (nx + 1) (by show nx + 1 < nx + 1 + 1;omega)).trans look_self'
  have hlo:=ht.lo
  have hnn:=ht.nn
  dsimp only at hlo hnn
  have hold:=ht.old
  dsimp only at hold
  have hst:∀ x,InH (setO H1 (nx + 1) x) nx1 t:=fun x=>ht.inn.keep (Nat.le_refl _) fun j hj y hy=>by
   rw [look_setO,if_neg (fun e=>by have:=hlo j hj;omega)];exact hy
  have hz2:∀ x,look (setO H1 (nx + 1) x) (nx + 1)=some x:=fun x=>by rw [look_setO,if_pos rfl,hr1];rfl
  have bn3:Nat.ble nx nx1=true:=Nat.ble_eq_true_of_le (by omega)
  obtain ⟨c0,c1,c2,hmc,hmC,p0,p1,p2⟩:=mC_three t
  simp only [plainP,isCell] at p0 p1 p2
  rw [hmC]
  simp only [wo_st,pv_t,pevE,getP,setP,spliceP,overP,plainP,isCell,List.length_cons,List.length_nil,Option.map_some,Bool.and_true,↓reduceIte,Nat.reduceAdd,Nat.zero_add,allPlain,PW.wr,killO,Bool.false_or,List.length_cons,List.length_nil,hr1]
  simp only [p0,p1,p2,wo_nil,onE_s,put_none,Option.map_some,Bool.and_true,↓reduceIte,Bool.false_eq_true,Bool.not_true,bn3]
  repeat (refine PRun.wpn rfl ?_;simp only [wp,or_true,true_and,reduceCtorEq])
  refine .refl ⟨[.agg [c0,c1,c2]],by simp only [getP,cut0,cutS,List.drop_zero,Option.map_some,Option.bind_some,hz2],t,hmC.symm,ht.rm,ht.fm,hst _,ht.nd,fun j hj=>by have:=hlo j hj;omega,by show nx≤nx1;omega,fun j hj=>?_⟩
  show look (setO H1 (nx + 1) _) j=look H j
  rw [look_setO,if_neg (by omega),hold j (by omega),look_ne (by omega),look_ne (by omega)]
theorem replaced_n (from_ to_:List ByteArray) (hl:from_.length=to_.length) (hz:from_.length < 2 ^ 38) (q mq:Nat):∀ (n:Nat) (f:Fm),f.size≤n→n < 2 ^ 38→∀ nx H,Plc q mq from_ nx H→PToB C nx 102 [fP f,.fn 105 [] [.ptr q 0,.ref [.sz (sL to_) to_.length]]] ⟨nx,H⟩ (MkN (f.repl (renG from_ to_)) nx H):=by
 have hcb:=ren105_n hm hC from_ to_ hl hz
 generalize renG from_ to_=g at *
 intro n
 induction n with
 | zero=>intro f h;have:=f.size_pos;omega
 | succ n ih=>
  intro f hf hn nx0 H0 hP
  obtain ⟨o,nm,ks⟩:=f
  simp only [Fm.size] at hf
  have hlen:=len_sizes ks
  have bn0:Nat.ble nx0 nx0=true:=Nat.ble_eq_true_of_le (Nat.le_refl _)
  have bn1:Nat.ble nx0 (nx0 + 1)=true:=Nat.ble_eq_true_of_le (by omega)
  have bn2:Nat.ble nx0 (nx0 + 1 + 1)=true:=Nat.ble_eq_true_of_le (by omega)
  have hqx:=hP.hq
  refine PToB.of_body hm hC (show Tryz.tab.get 102=some Tryz.c102 from rfl) ?_
  simp only [SW,Tryz.c102,startP,Nat.reduceAdd,Nat.reduceSub,List.replicate,fP,fC]
  by_cases h3:((o:Nat):Int)=3
  ·have e:(Fm.mk o nm ks).repl g=g (.mk o nm ks):=by simp only [Fm.repl];rw [if_pos (by omega)]
   rw [e]
   have e5:¬ nx0=nx0 + 1:=by omega
   have hP2:=hP.keep (nx':=nx0 + 1 + 1) (H':=(nx0 + 1,.cells [.lit (.int .u8 0),.lit (.string ⟨#[]⟩),.lit (.slice none 0 0)] 27 3 true false [])::(nx0,.cells [.lit (.int .u8 (o:Nat)),.lit (.string nm),.sz (fL ks) ks.length] 27 3 true false [])::H0) (by omega) fun i hi=>by rw [look_ne (by omega),look_ne (by omega)]
   have hc:=hcb (.mk o nm ks) (by simp only [Fm.size];omega) q mq _ _ hP2
   simp only [fP,fC] at hc
   have z1:Nat.blt nx0 (nx0 + 1 + 1)=true:=blt_t (by omega)
   have z2:Nat.blt (nx0 + 1) (nx0 + 1 + 1)=true:=blt_t (by omega)
   have z3:Nat.blt q (nx0 + 1 + 1)=true:=blt_t (by omega)
   repeat (refine PRun.wpn rfl ?_;simp only [SW,↓reduceIte,e5,eqB_t h3])
   refine .refl ⟨show nx0≤nx0 + 1 + 1 by omega,PToE.mono (PToB.toE hc (by simp only [nmL,nmP,z1,z2,z3,Bool.and_self]) (by omega)) ?_⟩
   rintro r ⟨nx1,H1⟩ ⟨t,rfl,ht⟩
   dsimp only at ht
   have hr1:=(ht.old (nx0 + 1) (by show nx0 + 1 < nx0 + 1 + 1;omega)).trans look_self'
   have hlo:=ht.lo
   have hnn:=ht.nn
   have hold:=ht.old
   have hst:∀ x,InH (setO H1 (nx0 + 1) x) nx1 t:=fun x=>ht.inn.keep (Nat.le_refl _) fun j hj y hy=>by
    rw [look_setO,if_neg (fun e=>by have:=hlo j hj;omega)];exact hy
   have hz2:∀ x,look (setO H1 (nx0 + 1) x) (nx0 + 1)=some x:=fun x=>by rw [look_setO,if_pos rfl,hr1];rfl
   have bn3:Nat.ble nx0 nx1=true:=Nat.ble_eq_true_of_le (by omega)
   obtain ⟨c0,c1,c2,hmc,hmC,p0,p1,p2⟩:=mC_three t
   simp only [plainP,isCell] at p0 p1 p2
   rw [hmC]
   refine POps.wp ?_
   simp only [wo_st,pv_t,pevE,getP,setP,spliceP,overP,plainP,isCell,List.length_cons,List.length_nil,Option.map_some,Bool.and_true,↓reduceIte,Nat.reduceAdd,Nat.zero_add,allPlain,PW.wr,killO,Bool.false_or,List.length_cons,List.length_nil,hr1]
   simp only [p0,p1,p2,wo_nil,onE_s,put_none,Option.map_some,Bool.and_true,↓reduceIte,Bool.false_eq_true,Bool.not_true,bn3]
   repeat (refine PRun.wpn rfl ?_;simp only [wp,or_true,true_and,reduceCtorEq])
   refine .refl ⟨[.agg [c0,c1,c2]],by simp only [getP,cut0,cutS,List.drop_zero,Option.map_some,Option.bind_some,hz2],t,hmC.symm,ht.rm,ht.fm,hst _,ht.nd,fun j hj=>by have:=hlo j hj;omega,by show nx0≤nx1;omega,fun j hj=>?_⟩
   show look (setO H1 (nx0 + 1) _) j=look H0 j
   rw [look_setO,if_neg (by omega),hold j (by omega),look_ne (by omega),look_ne (by omega)]
  have e:(Fm.mk o nm ks).repl g = .mk o ⟨#[]⟩ (repls g ks):=by simp only [Fm.repl];rw [if_neg (by omega)]
  rw [e]
  have e5:¬ nx0=nx0 + 1:=by omega
  have e6:¬ nx0=nx0 + 1 + 1:=by omega
  have bn3:Nat.ble nx0 (nx0 + 1 + 1 + 1)=true:=Nat.ble_eq_true_of_le (by omega)
  repeat (refine PRun.wpn rfl ?_;simp only [SW,↓reduceIte,reduceCtorEq,Nat.reduceAdd,bn2,bn3,e5,e6,eqB_f h3])
  refine PRun.gh (Gh.mask mkPuE3 ?_)
  simp only [mkPuE3,↓reduceIte,Bool.false_eq_true,maskP]
  refine PRun.loopG (fun m t π=>∃ (i nx lid:Nat) (H:List (Nat × PObj)) (ts:List Mt),t=(.junk::.fn 105 [] [.ptr q 0,.ref [.sz (sL to_) to_.length]]::.junk::.junk::.ptr (nx0 + 1) 0::.ptr (nx0 + 1 + 1) 0::.junk::.junk::.junk::.junk::.junk::.junk::.junk::.junk::.junk::.junk::.junk::.junk::.sz (fL ks) ks.length::.lit (.int .i64 (ks.length:Nat))::.lit (.int .i64 (i:Nat))::.junk::.junk::.junk::.junk::.junk::.junk::.junk::.junk::.junk::.junk::.junk::.junk::.junk::[])∧i≤ks.length∧m=ks.length - i∧π=⟨nx,H⟩∧nx0 + 1 + 1 + 1≤nx∧fms ts=repls g (ks.take i)∧GL (nx0 + 1 + 1 + 1) H nx lid ts∧look H (nx0 + 1 + 1)=some (.cells [.lit (.int .u8 (o:Nat)),.lit (.string ⟨#[]⟩),slt false lid i] 27 3 true false [])∧look H (nx0 + 1)=some (.cells zF 27 3 true false [])∧∀ j,j < nx0→look H j=look H0 j) ?_ ks.length _ _ ⟨0,nx0 + 1 + 1 + 1,0,_,[],rfl,by omega,rfl,rfl,by omega,rfl,.nil _ _ _ _,look_self',(look_ne (by omega)).trans look_self',fun j hj=>by rw [look_ne (by omega),look_ne (by omega),look_ne (by omega)]⟩
  rintro m t π ⟨i,nx,lid,H,ts,rfl,hi,rfl,rfl,hnx,hts,hG,ho,hz,hk⟩
  have htl:ts.length=i:=by rw [← fms_len,hts,repls_len,List.length_take,Nat.min_eq_left hi]
  by_cases hlt:(i:Int) < (ks.length:Nat)
  ·obtain ⟨k,hki⟩:∃ k,ks[i]? = some k:=⟨ks[i]'(by omega),List.getElem?_eq_getElem (by omega)⟩
   have h1:=size_kid hki
   have hcut:=fL_cut hki
   have hkf:∀ t:Mt,t.fm=k.repl g→fms (ts++[t])=repls g (ks.take (i + 1)):=fun t ht=>by rw [fms_app,hts,List.take_add_one,hki,repls_app];simp [fms,ht,repls]
   have hP2:∀ ob,Plc q mq from_ (nx + 1) ((nx,ob)::H):=fun ob=>hP.keep (by omega) fun j hj=>by rw [look_ne (by omega)];exact hk j hj
   have hrec:=fun ob=>ih k (by omega) (by omega) (nx + 1) _ (hP2 ob)
   generalize k.repl g=kr at hrec hkf
   have w1:IntKind.i64.wrap (((i:Nat):Int) + 1)=((i + 1:Nat):Int):=by rw [wrap64 (by omega) (by omega)];omega
   have e7:¬ nx0 + 1 + 1=nx:=by omega
   have bx:Nat.ble nx0 nx=true:=Nat.ble_eq_true_of_le (by omega)
   have bx1:Nat.ble nx0 (nx + 1)=true:=Nat.ble_eq_true_of_le (by omega)
   have y0:Nat.blt nx0 (nx + 1)=true:=blt_t (by omega)
   have y1:Nat.blt (nx0 + 1) (nx + 1)=true:=blt_t (by omega)
   have y2:Nat.blt (nx0 + 1 + 1) (nx + 1)=true:=blt_t (by omega)
   have y3:Nat.blt nx (nx + 1)=true:=blt_t (by omega)
   have y4:Nat.blt q (nx + 1)=true:=blt_t (by omega)
   obtain ⟨o',nm',ks'⟩:=k
   simp only [fP,fC] at hrec hcut
   by_cases hi0:i=0
   ·rw [hi0,slt0] at ho
    have htn:ts=[]:=List.length_eq_zero_iff.1 (by omega)
    repeat (refine PRun.wpn rfl ?_;simp only [SW,↓reduceIte,Nat.reduceAdd,ltB_t hlt,hlt,hcut,bx,bx1])
    refine PDraw.stage (show nx0≤nx + 1 by omega) rfl ?_
    try dsimp only
    simp only [SW,↓reduceIte,Nat.reduceAdd,e7,ho,ltN_t (show nx0 + 1 < nx by omega),ltN_t (show nx < nx + 1 by omega)]
    refine PDE.callE ?_
    refine PToE.mono (PToB.toE (hrec _) (by simp only [nmL,nmP,y1,y2,y3,y4,Bool.and_self]) (show nx0≤nx + 1 by omega)) ?_
    rintro r ⟨nx1,H1⟩ ⟨t,rfl,ht⟩
    dsimp only at ht
    have hnn:=ht.nn
    have ho1:=(ht.old (nx0 + 1 + 1) (by omega)).trans ((look_ne e7).trans ho)
    have hz1:=(ht.old (nx0 + 1) (by omega)).trans ((look_ne (by omega)).trans hz)
    have e1:¬ nx0 + 1 + 1=nx1:=by omega
    have e2:¬ nx0 + 1 + 1=nx1 + 1:=by omega
    have hb0:nx0≤nx1:=by omega
    have bz:Nat.ble nx0 nx1=true:=Nat.ble_eq_true_of_le (by omega)
    have bz1:Nat.ble nx0 (nx1 + 1)=true:=Nat.ble_eq_true_of_le (by omega)
    have bz2:Nat.ble nx0 (nx1 + 1 + 1)=true:=Nat.ble_eq_true_of_le (by omega)
    obtain ⟨c0,c1,c2,hmc,hmC,p0,p1,p2⟩:=mC_three t
    simp only [plainP,isCell] at p0 p1 p2
    rw [hmC]
    have hml:mL (ts++[t])=mL ts++[c0,c1,c2]:=by rw [mL_app];simp [mL,hmc]
    have hG1:GL (nx0 + 1 + 1 + 1) ((nx,.cells [.lit (.int .u8 (o':Nat)),.lit (.string nm'),.sz (fL ks') ks'.length] 27 3 true false [])::H) (nx + 1) lid ts:=hG.keep (by omega) fun j x h1 h2 h3=>by simp only [look];rw [if_neg (by omega)];exact h3
    have hsn:=fun lid' nx' H'=>hG1.snoc (lid':=lid') (nx':=nx') (H':=H') (by omega) ht
    rw [hml] at hsn
    have hfm:=hkf t ht.fm
    have holdj:∀ j,j < nx0→look H1 j=look H0 j:=fun j hj=>by rw [ht.old j (by omega),look_ne (by omega)];exact hk j hj
    refine PDraw.stageS hb0 (fun hG hs hr=>chk1 rfl (by simp only [SW,ho1]) rfl (.inl rfl) hG hs hr) ?_
    try dsimp only
    simp only [SW,↓reduceIte,Nat.reduceAdd]
    refine PDE.ev (by show nx0≤nx1 + 1;omega) ?_
    simp only [pv_t,pevE,getP,lenP,srcP,appendP,plainP,isCell,look,PW.cs?,PW.push,cut0,cutS,List.drop_zero,Option.map_some,Option.bind_some,Nat.mul_one,Bool.and_true,↓reduceIte,Nat.reduceAdd,Nat.reduceMul,Nat.reduceLeDiff,Nat.reduceLT,Nat.zero_add,allPlain,gt_iff_lt]
    simp only [p0,p1,p2,put_some,onDE_s,setP,Bool.and_true,↓reduceIte,Bool.false_eq_true,Bool.or_self,Bool.not_true,bne_self_eq_false]
    refine PDraw.stage (by show nx0≤nx1 + 1 + 1;omega) rfl ?_
    try dsimp only
    simp only [SW]
    refine PDE.ev (by show nx0≤nx1 + 1 + 1;omega) ?_
    simp only [SW,↓reduceIte,ho1,e1,e2]
    refine PDraw.last (by show nx0≤nx1 + 1 + 1;omega) rfl ?_
    try dsimp only
    simp only [wx_nil]
    repeat (refine PRun.wpn rfl ?_;simp only [SW,w1])
    refine Gh.mask mkPuE3 ?_
    refine ⟨ks.length - (i + 1),by omega,i + 1,nx1 + 1 + 1,nx1 + 1,_,ts++[t],rfl,by omega,rfl,rfl,by omega,hfm,hsn _ _ _ (by omega) (by omega) (by simp only [look,if_true];rw [htn];rfl) (fun j x a1 a2 a3 a4=>?_),?_,?_,fun j hj=>?_⟩
    ·rw [look_ne (by omega),look_ne (by omega),look_setO,if_neg (by omega)];exact a4
    ·rw [look_ne (by omega),look_ne (by omega),look_setO,if_pos rfl,ho1,sltN (by omega),hi0];rfl
    ·rw [look_ne (by omega),look_ne (by omega),look_setO,if_neg (by omega)];exact hz1
    ·rw [look_ne (by omega),look_ne (by omega),look_setO,if_neg (by omega)];exact holdj j hj
   ·rw [sltN hi0] at ho
    have q1:¬ i + 1≤i:=by omega
    have q2:¬ 140737488355328 < (2 * (i + 1) + 768) * 48:=by omega
    have hts0:ts ≠ []:=fun e=>hi0 (by rw [← htl,e];rfl)
    obtain ⟨l1,l2,l3⟩:=hG.lst hts0
    have hq3:(mL ts).length=i * 3:=by rw [mL_len,htl]
    have q4:=cut_all hq3
    have y5:Nat.blt lid (nx + 1)=true:=blt_t (by omega)
    repeat (refine PRun.wpn rfl ?_;simp only [SW,↓reduceIte,Nat.reduceAdd,ltB_t hlt,hlt,hcut,bx,bx1])
    refine PDraw.stage (show nx0≤nx + 1 by omega) rfl ?_
    try dsimp only
    simp only [SW,↓reduceIte,Nat.reduceAdd,e7,ho,ltN_t (show nx0 + 1 < nx by omega),ltN_t (show nx < nx + 1 by omega)]
    refine PDE.callE ?_
    refine PToE.mono (PToB.toE (hrec _) (by simp only [nmL,nmP,y1,y2,y3,y4,y5,Bool.and_self]) (show nx0≤nx + 1 by omega)) ?_
    rintro r ⟨nx1,H1⟩ ⟨t,rfl,ht⟩
    dsimp only at ht
    have hnn:=ht.nn
    have ho1:=(ht.old (nx0 + 1 + 1) (by omega)).trans ((look_ne e7).trans ho)
    have hz1:=(ht.old (nx0 + 1) (by omega)).trans ((look_ne (by omega)).trans hz)
    have e1:¬ nx0 + 1 + 1=nx1:=by omega
    have e2:¬ nx0 + 1 + 1=nx1 + 1:=by omega
    have hb0:nx0≤nx1:=by omega
    have bz:Nat.ble nx0 nx1=true:=Nat.ble_eq_true_of_le (by omega)
    have bz1:Nat.ble nx0 (nx1 + 1)=true:=Nat.ble_eq_true_of_le (by omega)
    have bz2:Nat.ble nx0 (nx1 + 1 + 1)=true:=Nat.ble_eq_true_of_le (by omega)
    obtain ⟨c0,c1,c2,hmc,hmC,p0,p1,p2⟩:=mC_three t
    simp only [plainP,isCell] at p0 p1 p2
    rw [hmC]
    have hml:mL (ts++[t])=mL ts++[c0,c1,c2]:=by rw [mL_app];simp [mL,hmc]
    have hG1:GL (nx0 + 1 + 1 + 1) ((nx,.cells [.lit (.int .u8 (o':Nat)),.lit (.string nm'),.sz (fL ks') ks'.length] 27 3 true false [])::H) (nx + 1) lid ts:=hG.keep (by omega) fun j x h1 h2 h3=>by simp only [look];rw [if_neg (by omega)];exact h3
    have hsn:=fun lid' nx' H'=>hG1.snoc (lid':=lid') (nx':=nx') (H':=H') (by omega) ht
    rw [hml] at hsn
    have hfm:=hkf t ht.fm
    have holdj:∀ j,j < nx0→look H1 j=look H0 j:=fun j hj=>by rw [ht.old j (by omega),look_ne (by omega)];exact hk j hj
    have l4:=(ht.old lid (by omega)).trans ((look_ne (by omega)).trans l3)
    have e3:¬ lid=nx1:=by omega
    have e4:¬ lid=nx1 + 1:=by omega
    have e5':¬ nx0 + 1 + 1=lid:=by omega
    refine PDraw.stageS hb0 (fun hG hs hr=>chk1 rfl (by simp only [SW,ho1]) rfl (.inr ⟨_,_,_,_,rfl⟩) hG hs hr) ?_
    try dsimp only
    simp only [SW,↓reduceIte,Nat.reduceAdd]
    refine PDE.ev (by show nx0≤nx1 + 1;omega) ?_
    simp only [pv_t,pevE,getP,lenP,srcP,appendP,plainP,isCell,look,PW.cs?,PW.push,cut0,cutS,List.drop_zero,Option.map_some,Option.bind_some,Bool.and_true,↓reduceIte,Nat.reduceMul,Bool.false_eq_true,Nat.zero_add,allPlain,setO,Bool.false_or,gt_iff_lt,l4,q1,q2,hq3,q4,e3]
    simp only [p0,p1,p2,put_some,onDE_s,setP,Bool.and_true,↓reduceIte,Bool.false_eq_true,Bool.or_self,Bool.not_true,bne_self_eq_false]
    have ho2:=fun o=>(look_set_ne (c:=lid) (o:=o) ho1 e5')
    refine PDraw.stage (by show nx0≤nx1 + 1 + 1;omega) rfl ?_
    try dsimp only
    simp only [SW]
    refine PDE.ev (by show nx0≤nx1 + 1 + 1;omega) ?_
    simp only [SW,↓reduceIte,ho2,e1,e2]
    refine PDraw.last (by show nx0≤nx1 + 1 + 1;omega) rfl ?_
    try dsimp only
    simp only [wx_nil]
    repeat (refine PRun.wpn rfl ?_;simp only [SW,w1])
    refine Gh.retire (fun e=>e4 e.symm) (Gh.mask mkPuE3 ?_)
    refine ⟨ks.length - (i + 1),by omega,i + 1,nx1 + 1 + 1,nx1 + 1,_,ts++[t],rfl,by omega,rfl,rfl,by omega,hfm,hsn _ _ _ (by omega) (by omega) (by simp only [look,if_true]) (fun j x a1 a2 a3 a4=>?_),?_,?_,fun j hj=>?_⟩
    ·rw [look_ne (by omega),dropO_ne (a3 hts0),look_ne (by omega),look_setO,if_neg (by omega),look_setO,if_neg (a3 hts0)];exact a4
    ·rw [look_ne (by omega),dropO_ne e5',look_ne (by omega),look_setO,if_pos rfl,look_setO,if_neg e5',ho1,sltN (by omega)];rfl
    ·rw [look_ne (by omega),dropO_ne (by omega),look_ne (by omega),look_setO,if_neg (by omega),look_setO,if_neg (by omega)];exact hz1
    ·rw [look_ne (by omega),dropO_ne (by omega),look_ne (by omega),look_setO,if_neg (by omega),look_setO,if_neg (by omega)];exact holdj j hj
  ·have hil:i=ks.length:=by omega
   subst hil
   rw [List.take_length] at hts
   obtain ⟨g1,g0,g2⟩:=hG.done o ⟨#[]⟩
   simp only [zF] at hz
   have hlo:∀ j∈(Mt.mk false o ⟨#[]⟩ lid ts).ids,nx0 + 1 + 1 + 1≤j:=fun j hj=>by
    simp only [Mt.ids,List.mem_append] at hj
    rcases hj with hj | hj
    ·split at hj
     ·rename_i h0
      simp only [List.mem_singleton] at hj
      have:=(hG.lst (by simpa using h0)).1;omega
     ·simp at hj
    ·exact (hG.lo j hj).1
   have hst:∀ x,InH (setO H (nx0 + 1) x) nx (.mk false o ⟨#[]⟩ lid ts):=fun x=>g1.keep (Nat.le_refl _) fun j hj y hy=>by
    rw [look_setO,if_neg (fun e=>by have:=hlo j hj;omega)];exact hy
   have hz2:∀ x,look (setO H (nx0 + 1) x) (nx0 + 1)=some x:=fun x=>by rw [look_setO,if_pos rfl,hz];rfl
   have bx:Nat.ble nx0 nx=true:=Nat.ble_eq_true_of_le (by omega)
   have hend:∀ x,NewT false (.mk o ⟨#[]⟩ (repls g ks)) nx0 H0 (.mk false o ⟨#[]⟩ lid ts) nx (setO H (nx0 + 1) x):=fun x=>⟨g0,by simp only [Mt.fm,hts],hst x,g2,fun j hj=>by have:=hlo j hj;omega,by omega,fun j hj=>by rw [look_setO,if_neg (by omega)];exact hk j hj⟩
   have hmt:mtP (.mk false o ⟨#[]⟩ lid ts) = .agg [.lit (.int .u8 (o:Nat)),.lit (.string ⟨#[]⟩),slt false lid ks.length]:=by simp only [mtP,mC,htl]
   by_cases hk0:ks.length=0
   ·rw [hk0,slt0] at ho hmt
    repeat (refine PRun.wpn rfl ?_;simp only [SW,↓reduceIte,reduceCtorEq,Nat.reduceAdd,ltB_f hlt,ho,hz,bx])
    exact .refl ⟨[.agg [.lit (.int .u8 (o:Nat)),.lit (.string ⟨#[]⟩),.lit (.slice none 0 0)]],by simp only [SW,hz2],_,hmt.symm,hend _⟩
   ·rw [sltN hk0] at ho hmt
    repeat (refine PRun.wpn rfl ?_;simp only [SW,↓reduceIte,reduceCtorEq,Nat.reduceAdd,ltB_f hlt,ho,hz,bx])
    exact .refl ⟨[.agg [.lit (.int .u8 (o:Nat)),.lit (.string ⟨#[]⟩),.loc lid 0 ks.length ks.length]],by simp only [SW,hz2],_,hmt.symm,hend _⟩
end
end Go.Proofs.YtnpoloachkcadaaGreatDoor.Ai
namespace Go.Proofs.YtnpoloachkcadaaGreatDoor.Ai
set_option linter.unusedSimpArgs false
open Go
set_option linter.unusedSimpArgs false
set_option linter.unusedVariables false
set_option linter.unusedSectionVars false
set_option maxRecDepth 10000
set_option maxHeartbeats 4000000
def okR (fr to_:List ByteArray):Prop:=∀ (i:Nat) (s t:ByteArray),fr[i]? = some s→to_[i]? = some t→s∉fr.take i∧nameOK s∧nameOK t
noncomputable def rnmE (f:Fm) (fr to_:List ByteArray):Fm × Int:=
 if yesB (f.formed fun _=>true)=true then (if neB ((fr.length:Nat):Int) ((to_.length:Nat):Int)=true then (.mk 0 ⟨#[]⟩ [],1) else if yesB (okR fr to_)=true then (f.repl (renG fr to_),0) else (.mk 0 ⟨#[]⟩ [],1)) else (.mk 0 ⟨#[]⟩ [],30)
def byT (l:List ByteArray):List Fm:=l.map fun s=>.mk 3 s []
theorem byT_len (l:List ByteArray):(byT l).length=l.length:=by simp [byT]
mutual
theorem repl_congr {g h:Fm→Fm} {tk:Nat→Bool} (hg:∀ n,g (.mk 3 n [])=h (.mk 3 n [])):∀ f:Fm,f.formed tk→f.repl g=f.repl h
 | .mk o n ks,hf=>by
  by_cases h3:o=3
  ·subst h3
   have:=formed_kids0 hf
   subst this
   simp only [Fm.repl,if_true,hg]
  ·have hh:=hf
   simp only [Fm.formed] at hh
   simp only [Fm.repl,if_neg h3,repls_congr hg ks hh.2.2.2.2.2.2]
theorem repls_congr {g h:Fm→Fm} {tk:Nat→Bool} (hg:∀ n,g (.mk 3 n [])=h (.mk 3 n [])):∀ ks:List Fm,formeds tk ks→repls g ks=repls h ks
 | [],_=>rfl
 | k::ks,hf=>by
  simp only [formeds] at hf
  simp only [repls,repl_congr hg k hf.1,repls_congr hg ks hf.2]
end
theorem rput_ren {tk:Nat→Bool} (f:Fm) (fr to_:List ByteArray) (hl:fr.length=to_.length) (hf:f.formed tk):f.rput (plBy fr (byT to_))=f.repl (renG fr to_):=by
 rw [rput_repl f hf]
 refine repl_congr (fun n=>?_) f hf
 simp only [Fm.name,plBy,renG]
 by_cases h0:posN n fr=0
 ·simp only [h0,if_true]
 ·have hle:=posN_le n fr
  obtain ⟨t,ht⟩:∃ t,to_[posN n fr - 1]? = some t:=⟨to_[posN n fr - 1]'(by omega),List.getElem?_eq_getElem (by omega)⟩
  simp only [h0,if_false,byT,List.getElem?_map,ht,Option.map_some,List.getD_eq_getElem?_getD,Option.getD_some]
theorem okR_no {fr to_:List ByteArray} {i:Nat} {s t:ByteArray} (h1:fr[i]? = some s) (h2:to_[i]? = some t) (h:¬ (s∉fr.take i∧nameOK s∧nameOK t)):yesB (okR fr to_)=false:=yes_f fun e=>h (e i s t h1 h2)
theorem okR_all {fr to_:List ByteArray} (h:∀ (j:Nat),j < fr.length→∀ s t,fr[j]? = some s→to_[j]? = some t→s∉fr.take j∧nameOK s∧nameOK t):yesB (okR fr to_)=true:=yes_t fun i s t h1 h2=>h i (List.getElem?_eq_some_iff.1 h1).1 s t h1 h2
theorem Wk.sz_ext {a b:List PV} {n:Nat}:Wk (.sz (a++b) n) (.sz a n):=by
 intro I η v h
 simp only [Rd] at h ⊢
 rcases h with h | ⟨i,off,cap,vs,ws,rest,h1,h2,h3,h4,h5⟩
 ·exact .inl h
 ·have hl:=rdL_len h5
  obtain ⟨w1,w2,rfl,h6⟩:∃ w1 w2,ws=w1++w2∧a.length=w1.length:=⟨ws.take a.length,ws.drop a.length,(List.take_append_drop _ _).symm,by rw [List.length_take,← hl,List.length_append];omega⟩
  obtain ⟨g1,g2⟩:=rdL_split h6 h5
  exact .inr ⟨i,off,cap,vs,w1,w2++rest,h1,h2,h3,by rw [h4,List.append_assoc],g1⟩
end Go.Proofs.YtnpoloachkcadaaGreatDoor.Ai
namespace Go.Proofs.YtnpoloachkcadaaGreatDoor.Ai
set_option linter.unusedSimpArgs false
open Go
set_option linter.unusedVariables false
set_option linter.unusedSectionVars false
set_option maxRecDepth 10000
set_option maxHeartbeats 4000000
def bC:List ByteArray→List PV
 | []=>[]
 | s::l=>.lit (.int .u8 3)::.lit (.string s)::.lit (.slice none 0 0)::bC l
theorem bC_app:∀ a b:List ByteArray,bC (a++b)=bC a++bC b
 | [],b=>rfl
 | s::a,b=>by simp only [List.cons_append,bC,bC_app a b]
theorem bC_len:∀ a:List ByteArray,(bC a).length=a.length * 3
 | []=>rfl
 | s::a=>by simp only [bC,List.length_cons,bC_len a];omega
theorem bC_pure:∀ a:List ByteArray,pureL (bC a)=true
 | []=>rfl
 | s::a=>by simp only [bC,pureL,pureP,bC_pure a,Bool.and_self]
theorem renL_bC (ρ:List (Nat × Nat)) (l:List ByteArray):renL ρ (bC l)=bC l:=renL_pure ρ _ (bC_pure l)
theorem bC_wk:∀ a:List ByteArray,WkL (bC a) (fL (byT a))
 | []=>.nil
 | s::a=>by
  have:=bC_wk a
  simp only [bC,byT,List.map_cons,fL,fC,List.cons_append,List.nil_append]
  exact .cons (.refl _) (.cons (.refl _) (.cons .nil_sz this))
theorem fP_zero:WkL [.lit (.int .u8 0),.lit (.string ⟨#[]⟩),.lit (.slice none 0 0)] [.lit (.int .u8 0),.lit (.string ⟨#[]⟩),.sz (fL []) 0]:=.cons (.refl _) (.cons (.refl _) (.cons .nil_sz .nil))
section
variable {C:Ctx} (hm:C.P.follows .mixedOrders=true) (hC:TabOK C.P C.ng C.ts Tryz.tab)
include hm hC
theorem rRename_ok (f:Fm) (fr to_:List ByteArray) (of:f.ok) (hf:f.size < 2 ^ 28) (hz:fr.length < 2 ^ 36) (hs:∀ s∈fr,s.size < 2 ^ 50) (ht:∀ s∈to_,s.size < 2 ^ 50) (hzt:to_.length < 2 ^ 36) :
  PFun C 49 [fP f,.sz (sL fr) fr.length,.sz (sL to_) to_.length] (.tup [fP (rnmE f fr to_).1,.lit (.int .i64 (rnmE f fr to_).2)]):=by
 have a1:=rFormed_ok hm hC f of (by omega)
 have hp:fr.length=to_.length→PFun C 97 [fP f,.sz (sL fr) fr.length,.sz (fL (byT to_)) (byT to_).length] (fP (f.rput (plBy fr (byT to_)))):=fun hl=>rput_ok hm hC fr (byT to_) (by rw [byT_len];exact hl) (by omega) (fun i k hk=>by
  simp only [byT,List.getElem?_map,Option.map_eq_some_iff] at hk
  obtain ⟨s,_,rfl⟩:=hk
  simp [Fm.size,sizes]) f.size f (Nat.le_refl _) (by omega)
 by_cases hform:f.formed fun _=>true
 ·rw [yes_t hform] at a1
  have hrp:=fun hl=>rput_ren f fr to_ hl hform
  unfold rnmE
  rw [yes_t hform,if_pos rfl]
  by_cases hl:fr.length=to_.length
  ·have hp:=hp hl
   rw [hrp hl] at hp
   rw [neB_f (by omega),if_neg (by simp)]
   generalize f.repl (renG fr to_)=r at *
   have e0:=neB_f (show ((fr.length:Nat):Int)=((to_.length:Nat):Int) by omega)
   generalize hres:(if yesB (okR fr to_)=true then ((r,0):Fm × Int) else (.mk 0 ⟨#[]⟩ [],1))=res
   obtain ⟨⟨eo,en,ek⟩,ee⟩:=res
   clear hform hrp
   obtain ⟨o,n,ks⟩:=f
   obtain ⟨ro,rn,rk⟩:=r
   simp only [fP,fC] at a1 hp ⊢
   refine PFun.body hm hC (show Tryz.tab.get 49=some Tryz.c49 from rfl) rfl ?_
   simp only [SW,Tryz.c49,startP,Nat.reduceAdd,Nat.reduceSub,List.replicate]
   repeat (refine PRun.wpn rfl ?_;simp only [SW,↓reduceIte,reduceCtorEq,Nat.reduceAdd])
   refine .refl (PFun.to (a1) rfl (POps.wp ?_))
   simp only [SW]
   repeat (refine PRun.wpn rfl ?_;simp only [SW,↓reduceIte,reduceCtorEq,e0])
   refine PRun.gh (Gh.mask mkPuE4 ?_)
   simp only [mkPuE4,↓reduceIte,Bool.false_eq_true,maskP]
   refine PRun.loopG (fun m t π=>∃ (i:Nat) (v:PV),t=(.junk::.sz (sL fr) fr.length::.sz (sL to_) to_.length::.ptr 0 0::.junk::.junk::.ptr 1 0::.lit (.int .i64 0)::.junk::v::.lit (.int .i64 (i:Nat))::.junk::.junk::.junk::.junk::.junk::.junk::.junk::.junk::.junk::.junk::.junk::.junk::.junk::.junk::.junk::.junk::.junk::.junk::.junk::.junk::.junk::.junk::.junk::.junk::.junk::.junk::.junk::.junk::.junk::.junk::.junk::.junk::.junk::.junk::.junk::.junk::.junk::.junk::.junk::.junk::.junk::.junk::.junk::.junk::.junk::.junk::.junk::.junk::.junk::.junk::.junk::.junk::.junk::.junk::.junk::.junk::.junk::.junk::.junk::[])∧i≤fr.length∧m=fr.length - i∧(∀ (j:Nat),j < i→∀ s t,fr[j]? = some s→to_[j]? = some t→s∉fr.take j∧nameOK s∧nameOK t)∧((i=0∧v = .lit (.slice none 0 0)∧π=⟨2,[(1,.cells [.lit (.int .u8 0),.lit (.string ⟨#[]⟩),.lit (.slice none 0 0)] 27 3 true false []),(0,.cells [.lit (.int .u8 (o:Nat)),.lit (.string n),.sz (fL ks) ks.length] 27 3 true false [])]⟩)∨(0 < i∧v = .loc 2 0 i i∧π=⟨3,[(2,.cells (bC (to_.take i)) 27 3 false false []),(1,.cells [.lit (.int .u8 0),.lit (.string ⟨#[]⟩),.lit (.slice none 0 0)] 27 3 true false []),(0,.cells [.lit (.int .u8 (o:Nat)),.lit (.string n),.sz (fL ks) ks.length] 27 3 true false [])]⟩))) ?_ fr.length _ _ ⟨0,_,rfl,by omega,rfl,fun j hj=>by omega,.inl ⟨rfl,rfl,rfl⟩⟩
   rintro m t π ⟨i,v,rfl,hi,rfl,hok,hπ⟩
   by_cases hlt:(i:Int) < (fr.length:Nat)
   ·obtain ⟨s,hs'⟩:∃ s,fr[i]? = some s:=⟨fr[i]'(by omega),List.getElem?_eq_getElem (by omega)⟩
    obtain ⟨t,ht'⟩:∃ t,to_[i]? = some t:=⟨to_[i]'(by omega),List.getElem?_eq_getElem (by omega)⟩
    have hc1:=sL_at hs'
    have hc2:=sL_at ht'
    have hlt2:(i:Int) < (to_.length:Nat):=by omega
    have n1:=rname_ok hm hC s (by have:=hs s (List.mem_of_getElem? hs');omega)
    have n2:=rname_ok hm hC t (by have:=ht t (List.mem_of_getElem? ht');omega)
    have htk:(fr.take i).length=i:=by rw [List.length_take];omega
    have p0:=place_ok hm hC (fr.take i) s (by omega)
    rw [htk] at p0
    have p1:PFun C 104 [.sz (sL fr) i,.lit (.string s)] (.lit (.int .i64 (plZ s (fr.take i)))):=p0.wkA (.cons (by
     have:sL fr=sL (fr.take i)++sL (fr.drop i):=by rw [← sL_app,List.take_append_drop]
     rw [this];exact Wk.sz_ext) (.cons (.refl _) .nil))
    have w1:IntKind.i64.wrap (((i:Nat):Int) + 1)=((i + 1:Nat):Int):=by rw [wrap64 (by omega) (by omega)];omega
    have hle2:((i:Nat):Int)≤((fr.length:Nat):Int):=by omega
    have etake:bC (to_.take (i + 1))=bC (to_.take i)++[.lit (.int .u8 3),.lit (.string t),.lit (.slice none 0 0)]:=by rw [List.take_add_one,ht',bC_app];rfl
    have q1:¬ i + 1≤i:=by omega
    have q2:¬ 140737488355328 < (2 * (i + 1) + 768) * 48:=by omega
    have q3:(bC (to_.take i)).length=i * 3:=by rw [bC_len,List.length_take];omega
    have q4:=cut_all q3
    by_cases e3:nameOK s∧nameOK t∧s∉fr.take i
    ·obtain ⟨e1,e2,e3⟩:=e3
     rw [yes_t e1] at n1
     rw [yes_t e2] at n2
     have hz0:¬ (0:Int)≤plZ s (fr.take i):=by
      unfold plZ;rw [posN_zero.2 e3];omega
     have hok':∀ (j:Nat),j < i + 1→∀ s t,fr[j]? = some s→to_[j]? = some t→s∉fr.take j∧nameOK s∧nameOK t:=fun j hj s' t' h1 h2=>by
      by_cases hji:j=i
      ·subst hji
       rw [hs'] at h1;rw [ht'] at h2;cases h1;cases h2
       exact ⟨e3,e1,e2⟩
      ·exact hok j (by omega) s' t' h1 h2
     rcases hπ with ⟨hi0,rfl,rfl⟩ | ⟨hi0,rfl,rfl⟩ <;>
     (
      repeat (refine PRun.wpn rfl ?_;simp only [SW,↓reduceIte,ltB_t hlt,hlt,hc1])
      refine .refl (PFun.to (n1) rfl (POps.wp ?_))
      simp only [SW]
      repeat (refine PRun.wpn rfl ?_;simp only [SW,↓reduceIte,hlt2,hc2])
      refine .refl (PFun.to (n2) rfl (POps.wp ?_))
      simp only [SW]
      repeat (refine PRun.wpn rfl ?_;simp only [wp])
      refine PDraw.stage (Nat.zero_le _) rfl ?_
      try dsimp only
      simp only [beq_self_eq_true,wanted_g,wantB_b,onX_s,onXG_t,onXI_s,rdX_e,ltN,ltD_s,onD_s,onDG_t,wx_nil,wx_cons,wx_p,wx_r,wx_g,wd_cons,wd_e,wd_g,pv_t,put_some,pevP,pevR,getP,setP,nthO,boundP,baseP,ROp.base,List.length_cons,List.length_nil,List.drop_zero,Option.bind_some,Option.isNone_none,true_or,Nat.mul_one,Nat.sub_zero,Int.natCast_nonneg,Int.toNat_natCast,and_self,Bool.and_true,↓reduceIte,Nat.reduceAdd,Nat.zero_add,Bool.not_true,List.length_cons,List.length_nil,hlt,hc1,hle2]
      refine PDE.pure p1 rfl ?_
      refine PDraw.last (Nat.zero_le _) rfl ?_
      try dsimp only
      simp only [SW,leB_f hz0]
      repeat (refine PRun.wpn rfl ?_;simp only [SW,↓reduceIte,Nat.reduceAdd,Nat.reduceMul,Nat.reduceLeDiff,Nat.reduceLT,Nat.reduceEqDiff,hlt2,hc2,q1,q2,q3,q4,bne_self_eq_false])
      skip)
     ·refine Gh.mr mkPuE4 [(0,0),(1,1),(3,2)] 3 rfl ?_
      refine ⟨fr.length - (i + 1),by omega,i + 1,.loc 2 0 (i + 1) (i + 1),?_,by omega,rfl,hok',.inr ⟨by omega,rfl,?_⟩⟩
      ·simp only [mkPuE4,SW,↓reduceIte,reduceCtorEq,Nat.reduceEqDiff,hi0,(show IntKind.i64.wrap (0 + 1)=1 from rfl)]
      ·have et1:bC (to_.take 1)=[.lit (.int .u8 3),.lit (.string t),.lit (.slice none 0 0)]:=by
        have:=etake
        rw [hi0] at this;exact this
       simp only [SW,↓reduceIte,reduceCtorEq,Nat.reduceEqDiff,et1,hi0]
     ·refine Gh.mr mkPuE4 [(0,0),(1,1),(4,2)] 3 rfl ?_
      refine ⟨fr.length - (i + 1),by omega,i + 1,.loc 2 0 (i + 1) (i + 1),?_,by omega,rfl,hok',.inr ⟨by omega,rfl,?_⟩⟩
      ·simp only [mkPuE4,SW,↓reduceIte,reduceCtorEq,Nat.reduceEqDiff,w1]
      ·simp only [SW,← etake,renL_bC,↓reduceIte,reduceCtorEq,Nat.reduceEqDiff]
    rw [okR_no hs' ht' (fun h=>e3 ⟨h.2.1,h.2.2,h.1⟩),if_neg (by simp)] at hres
    cases hres
    by_cases e4:nameOK s∧nameOK t
    ·rw [yes_t e4.1] at n1
     rw [yes_t e4.2] at n2
     have e5:s∈fr.take i:=Classical.not_not.1 fun h=>e3 ⟨e4.1,e4.2,h⟩
     have hz0:(0:Int)≤plZ s (fr.take i):=by
      have:=(posN_get e5).2
      unfold plZ;omega
     rcases hπ with ⟨hi0,rfl,rfl⟩ | ⟨hi0,rfl,rfl⟩ <;>
     (
      repeat (refine PRun.wpn rfl ?_;simp only [SW,↓reduceIte,ltB_t hlt,hlt,hc1])
      refine .refl (PFun.to (n1) rfl (POps.wp ?_))
      simp only [SW]
      repeat (refine PRun.wpn rfl ?_;simp only [SW,↓reduceIte,hlt2,hc2])
      refine .refl (PFun.to (n2) rfl (POps.wp ?_))
      simp only [SW]
      repeat (refine PRun.wpn rfl ?_;simp only [wp])
      refine PDraw.stage (Nat.zero_le _) rfl ?_
      try dsimp only
      simp only [beq_self_eq_true,wanted_g,wantB_b,onX_s,onXG_t,onXI_s,rdX_e,ltN,ltD_s,onD_s,onDG_t,wx_nil,wx_cons,wx_p,wx_r,wx_g,wd_cons,wd_e,wd_g,pv_t,put_some,pevP,pevR,getP,setP,nthO,boundP,baseP,ROp.base,List.length_cons,List.length_nil,List.drop_zero,Option.bind_some,Option.isNone_none,true_or,Nat.mul_one,Nat.sub_zero,Int.natCast_nonneg,Int.toNat_natCast,and_self,Bool.and_true,↓reduceIte,Nat.reduceAdd,Nat.zero_add,Bool.not_true,List.length_cons,List.length_nil,hlt,hc1,hle2]
      refine PDE.pure p1 rfl ?_
      refine PDraw.last (Nat.zero_le _) rfl ?_
      try dsimp only
      simp only [SW,leB_t hz0]
      repeat (refine PRun.wpn rfl ?_;simp only [SW,↓reduceIte,reduceCtorEq,Nat.reduceAdd,Nat.reduceEqDiff])
      exact .refl ⟨_,rfl,.tup (.cons (.agg fP_zero) (.cons (.refl _) .nil))⟩)
    ·obtain ⟨y1,y2,m1,m2,m3⟩:∃ y1 y2,yesB (nameOK s)=y1∧yesB (nameOK t)=y2∧(y1=false∨y1=true∧y2=false):=by
      by_cases e1:nameOK s
      ·exact ⟨_,_,rfl,rfl,.inr ⟨yes_t e1,yes_f fun h=>e4 ⟨e1,h⟩⟩⟩
      ·exact ⟨_,_,rfl,rfl,.inl (yes_f e1)⟩
     rw [m1] at n1
     rw [m2] at n2
     rcases m3 with rfl | ⟨rfl,rfl⟩ <;> rcases hπ with ⟨hi0,rfl,rfl⟩ | ⟨hi0,rfl,rfl⟩ <;>
     (
      repeat (refine PRun.wpn rfl ?_;simp only [SW,↓reduceIte,ltB_t hlt,hlt,hc1])
      refine .refl (PFun.to (n1) rfl (POps.wp ?_))
      simp only [SW]
      repeat (refine PRun.wpn rfl ?_;simp only [SW,↓reduceIte,hlt2,hc2])
      refine .refl (PFun.to (n2) rfl (POps.wp ?_))
      simp only [SW]
      repeat (refine PRun.wpn rfl ?_;simp only [wp])
      refine PDraw.stage (Nat.zero_le _) rfl ?_
      try dsimp only
      simp only [beq_self_eq_true,wanted_g,wantB_b,b_tf,onX_s,onXG_t,onXG_f,onXI_s,onD_s,onDG_f,wx_nil,wx_cons,wx_p,wx_g,wd_cons,wd_g,pv_t,pv_bool,put_some,pevP,getP,setP,nthO,Bool.not_true,Bool.not_false]
      refine PDraw.last (Nat.zero_le _) rfl ?_
      try dsimp only
      simp only [SW]
      repeat (refine PRun.wpn rfl ?_;simp only [SW,↓reduceIte,reduceCtorEq,Nat.reduceAdd,Nat.reduceEqDiff])
      exact .refl ⟨_,rfl,.tup (.cons (.agg fP_zero) (.cons (.refl _) .nil))⟩)
   ·have hil:i=fr.length:=by omega
    rw [okR_all (fun j hj=>hok j (by omega)),if_pos rfl] at hres
    cases hres
    rw [byT_len] at hp
    rcases hπ with ⟨hi0,rfl,rfl⟩ | ⟨hi0,rfl,rfl⟩
    ·have h0:to_=[]:=List.length_eq_zero_iff.1 (by omega)
     subst h0
     have hp2:=hp.wkA (a':=[.agg [.lit (.int .u8 (o:Nat)),.lit (.string n),.sz (fL ks) ks.length],.sz (sL fr) fr.length,.lit (.slice none 0 0)]) (.cons (.refl _) (.cons (.refl _) (.cons .nil_sz .nil)))
     repeat (refine PRun.wpn rfl ?_;simp only [SW,↓reduceIte,reduceCtorEq,ltB_f hlt])
     refine .refl (PFun.to (hp2) rfl (POps.wp ?_))
     simp only [SW,↓reduceIte,Nat.reduceAdd]
     repeat (refine PRun.wpn rfl ?_;simp only [wp,or_true,true_and,reduceCtorEq])
     exact .refl ⟨_,rfl,.refl _⟩
    ·have hto:to_.take i=to_:=by rw [List.take_of_length_le (by omega)]
     have hit:i=to_.length:=by omega
     rw [hto]
     have hp2:=hp.wkA (a':=[.agg [.lit (.int .u8 (o:Nat)),.lit (.string n),.sz (fL ks) ks.length],.sz (sL fr) fr.length,.sl (bC to_) i]) (.cons (.refl _) (.cons (.refl _) (.cons (by rw [hit];exact Wk.trans .sl_sz (Wk.sz (ext:=[]) (by rw [List.append_nil];exact bC_wk to_))) .nil)))
     repeat (refine PRun.wpn rfl ?_;simp only [SW,↓reduceIte,reduceCtorEq,ltB_f hlt])
     refine Gh.frz 2 rfl (bC_pure _) rfl ?_
     simp only [SW,↓reduceIte,reduceCtorEq,Nat.reduceEqDiff]
     refine .refl (PFun.to (hp2) rfl (POps.wp ?_))
     simp only [SW,↓reduceIte,Nat.reduceAdd]
     repeat (refine PRun.wpn rfl ?_;simp only [wp,or_true,true_and,reduceCtorEq])
     exact .refl ⟨_,rfl,.refl _⟩
  ·have hl':¬ ((fr.length:Nat):Int)=((to_.length:Nat):Int):=by omega
   rw [neB_t hl',if_pos rfl]
   clear hform hrp hp
   obtain ⟨o,n,ks⟩:=f
   simp only [fP,fC] at a1 ⊢
   refine PFun.body hm hC (show Tryz.tab.get 49=some Tryz.c49 from rfl) rfl ?_
   simp only [SW,Tryz.c49,startP,Nat.reduceAdd,Nat.reduceSub,List.replicate]
   repeat (refine PRun.wpn rfl ?_;simp only [SW,↓reduceIte,reduceCtorEq,Nat.reduceAdd])
   refine .refl (PFun.to (a1) rfl (POps.wp ?_))
   simp only [SW]
   repeat (refine PRun.wpn rfl ?_;simp only [SW,↓reduceIte,reduceCtorEq,Nat.reduceAdd,neB_t hl'])
   exact .refl ⟨_,rfl,.tup (.cons (.agg fP_zero) (.cons (.refl _) .nil))⟩
 ·rw [yes_f hform] at a1
  unfold rnmE
  rw [yes_f hform,if_neg (by simp)]
  clear hp
  obtain ⟨o,n,ks⟩:=f
  simp only [fP,fC] at a1 ⊢
  refine PFun.body hm hC (show Tryz.tab.get 49=some Tryz.c49 from rfl) rfl ?_
  simp only [SW,Tryz.c49,startP,Nat.reduceAdd,Nat.reduceSub,List.replicate]
  repeat (refine PRun.wpn rfl ?_;simp only [SW,↓reduceIte,reduceCtorEq,Nat.reduceAdd])
  refine .refl (PFun.to (a1) rfl (POps.wp ?_))
  simp only [SW]
  repeat (refine PRun.wpn rfl ?_;simp only [SW,↓reduceIte,reduceCtorEq,Nat.reduceAdd])
  exact .refl ⟨_,rfl,.tup (.cons (.agg fP_zero) (.cons (.refl _) .nil))⟩
end
end Go.Proofs.YtnpoloachkcadaaGreatDoor.Ai
namespace Go.Proofs.YtnpoloachkcadaaGreatDoor.Ai
set_option linter.unusedSimpArgs false
open Go
set_option linter.unusedVariables false
set_option linter.unusedSectionVars false
set_option maxRecDepth 10000
set_option maxHeartbeats 4000000
section
variable {C:Ctx} (hm:C.P.follows .mixedOrders=true) (hC:TabOK C.P C.ng C.ts Tryz.tab)
include hm hC
theorem treeRename_m (hG0:C.G 0=some kidsC) (f:Fm) (fr to_:List ByteArray) (of:f.ok) (pf:f.opsOK) (hf:f.size < 2 ^ 28) (hz:fr.length < 2 ^ 36) (hs:∀ s∈fr,s.size < 2 ^ 50) (ht:∀ s∈to_,s.size < 2 ^ 50) (hzt:to_.length < 2 ^ 36) :
  PMk C 51 [fP f,.sz (sL fr) fr.length,.sz (sL to_) to_.length] (MkTE (rnmE f fr to_).1 (rnmE f fr to_).2):=by
 have a1:=formed_ok hm hC 99 (fun _=>true) hG0 (fun o _=>any_ok hm hC o) f.size f (Nat.le_refl _) of pf (by omega)
 refine PMk.body2 hm hC (show Tryz.tab.get 51=some Tryz.c51 from rfl) ?_
 by_cases hform:f.formed fun _=>true
 ·rw [yes_t hform] at a1
  unfold rnmE
  rw [yes_t hform,if_pos rfl]
  by_cases hl:fr.length=to_.length
  ·have r1:=replaced_n hm hC fr to_ hl (by omega) 4 3 f.size f (Nat.le_refl _) (by omega) 5
   rw [neB_f (by omega),if_neg (by simp)]
   generalize f.repl (renG fr to_)=r at *
   have e0:=neB_f (show ((fr.length:Nat):Int)=((to_.length:Nat):Int) by omega)
   generalize hres:(if yesB (okR fr to_)=true then ((r,0):Fm × Int) else (.mk 0 ⟨#[]⟩ [],1))=res
   obtain ⟨o,n,ks⟩:=f
   clear hform
   simp only [fP,fC,tkP] at a1 r1 ⊢
   simp only [SW,Tryz.c51,startP,Nat.reduceAdd,Nat.reduceSub,List.replicate]
   repeat (refine PRun.wpn rfl ?_;simp only [SW,↓reduceIte,reduceCtorEq,Nat.reduceAdd])
   refine .refl (PFun.to (a1) rfl (POps.wp ?_))
   simp only [SW]
   repeat (refine PRun.wpn rfl ?_;simp only [SW,↓reduceIte,reduceCtorEq,Nat.reduceAdd,Nat.reduceEqDiff,e0])
   refine PRun.gh (Gh.mask mkPuE5 ?_)
   simp only [mkPuE5,↓reduceIte,Bool.false_eq_true,maskP]
   refine PRun.loopG (fun m t π=>∃ i:Nat,t=(.junk::.sz (sL fr) fr.length::.junk::.ptr 0 0::.junk::.ptr 1 0::.ptr 2 0::.lit (.int .i64 0)::.ptr 4 0::.junk::.junk::.junk::.junk::.junk::.junk::.junk::.junk::.junk::.junk::.junk::.junk::.junk::.sz (sL fr) fr.length::.lit (.int .i64 (fr.length:Nat))::.lit (.int .i64 (i:Nat))::.junk::.junk::.junk::.junk::.junk::.junk::.junk::.junk::.junk::.junk::.junk::.junk::.junk::.junk::.junk::.junk::.junk::.junk::.junk::.junk::.junk::.junk::.junk::.junk::.junk::.junk::.junk::.junk::.junk::.junk::[])∧i≤fr.length∧m=fr.length - i∧(∀ (j:Nat),j < i→∀ s t,fr[j]? = some s→to_[j]? = some t→s∉fr.take j∧nameOK s∧nameOK t)∧π=⟨5,[(4,.cells [.map 3] 88 1 true false []),(3,.map (mP 0 (fr.take i)) i),(2,.cells [.lit (.int .u8 0),.lit (.string ⟨#[]⟩),.lit (.slice none 0 0)] 27 3 true false []),(1,.cells [.sz (sL to_) to_.length] 53 1 true false []),(0,.cells [.lit (.int .u8 (o:Nat)),.lit (.string n),.sz (fL ks) ks.length] 27 3 true false [])]⟩) ?_ fr.length _ _ ⟨0,rfl,by omega,rfl,fun j hj=>by omega,rfl⟩
   rintro m t π ⟨i,rfl,hi,rfl,hok,rfl⟩
   by_cases hlt:(i:Int) < (fr.length:Nat)
   ·obtain ⟨s,hs'⟩:∃ s,fr[i]? = some s:=⟨fr[i]'(by omega),List.getElem?_eq_getElem (by omega)⟩
    obtain ⟨t,ht'⟩:∃ t,to_[i]? = some t:=⟨to_[i]'(by omega),List.getElem?_eq_getElem (by omega)⟩
    have hc1:=sL_at hs'
    have hc2:=sL_at ht'
    have hlt2:(i:Int) < (to_.length:Nat):=by omega
    have n1:=name_ok hm hC s (by have:=hs s (List.mem_of_getElem? hs');omega)
    have n2:=name_ok hm hC t (by have:=ht t (List.mem_of_getElem? ht');omega)
    obtain ⟨f1,f2⟩:=findP_mP s (fr.take i) 0 0
    have w1:IntKind.i64.wrap ((i:Nat) + 1)=((i + 1:Nat):Int):=by rw [wrap64 (by omega) (by omega)];omega
    by_cases e3:s∈fr.take i
    ·have h0:posN s (fr.take i) ≠ 0:=fun h=>posN_zero.1 h e3
     obtain ⟨k,f1⟩:=f1 h0
     rw [Nat.zero_add] at f1
     have w2:ltB 0 ((posN s (fr.take i):Nat):Int)=true:=ltB_t (by omega)
     rw [okR_no hs' ht' (fun h=>h.1 e3),if_neg (by simp)] at hres
     cases hres
     repeat (refine PRun.wpn rfl ?_;simp only [SW,↓reduceIte,reduceCtorEq,Nat.reduceAdd,Nat.reduceEqDiff,ltB_t hlt,hlt,hc1,f1,keyP,w2])
     exact .refl ⟨_,rfl,Gh.treeEnd (in_zero _ _) fun H' _ q2=>⟨_,rfl,_,rfl,mkT_zero _ _ q2⟩⟩
    have f1:=f2 (posN_zero.2 e3)
    by_cases e1:nameOK s
    ·rw [yes_t e1] at n1
     by_cases e2:nameOK t
     ·rw [yes_t e2] at n2
      have f2:=findM_mP s (fr.take i) 0 0 e3
      have etake:mP 0 (fr.take i)++[(PV.lit (.string s),PV.lit (.int .i64 ((i + 1:Nat):Int)),i)]=mP 0 (fr.take (i + 1)):=by
       rw [List.take_add_one,hs',mP_app]
       have:(fr.take i).length=i:=by rw [List.length_take];omega
       simp [mP,this]
      have hok':∀ (j:Nat),j < i + 1→∀ s t,fr[j]? = some s→to_[j]? = some t→s∉fr.take j∧nameOK s∧nameOK t:=fun j hj s' t' h1 h2=>by
       by_cases hji:j=i
       ·subst hji
        rw [hs'] at h1;rw [ht'] at h2;cases h1;cases h2
        exact ⟨e3,e1,e2⟩
       ·exact hok j (by omega) s' t' h1 h2
      repeat (refine PRun.wpn rfl ?_;simp only [SW,↓reduceIte,Nat.reduceEqDiff,ltB_t hlt,hlt,hc1,f1,keyP,ltB_f (show ¬ (0:Int) < 0 by omega)])
      refine .refl (PFun.to (n1) rfl (POps.wp ?_))
      simp only [wo_p,wo_r,wo_call,wo_g,beq_self_eq_true,onO_s,onG_t,wanted_g,wantB_b,pv_t,put_some,pevP,pevR,getP,setP,evsP,look,PW.cs?,nthP,Option.bind_some,Nat.zero_le,Nat.mul_one,Int.natCast_nonneg,Int.toNat_natCast,and_self,true_and,↓reduceIte,Nat.reduceEqDiff,Bool.not_true,hlt2,hc2]
      refine .refl (PFun.to (n2) rfl (POps.wp ?_))
      simp only [wo_nil,wo_p,wo_g,beq_self_eq_true,onO_s,onG_t,wanted_g,wantB_b,pv_t,put_some,pevP,getP,setP,Bool.not_true]
      repeat (refine PRun.wpn rfl ?_;simp only [SW,↓reduceIte,Nat.reduceEqDiff,f2,ktK,w1])
      refine Gh.mask mkPuE5 ?_
      refine ⟨fr.length - (i + 1),by omega,i + 1,rfl,by omega,rfl,hok',?_⟩
      rw [etake]
     ·rw [yes_f e2] at n2
      rw [okR_no hs' ht' (fun h=>e2 h.2.2),if_neg (by simp)] at hres
      cases hres
      repeat (refine PRun.wpn rfl ?_;simp only [SW,↓reduceIte,Nat.reduceEqDiff,ltB_t hlt,hlt,hc1,f1,keyP,ltB_f (show ¬ (0:Int) < 0 by omega)])
      refine .refl (PFun.to (n1) rfl (POps.wp ?_))
      simp only [wo_p,wo_r,wo_call,wo_g,beq_self_eq_true,onO_s,onG_t,wanted_g,wantB_b,pv_t,put_some,pevP,pevR,getP,setP,evsP,look,PW.cs?,nthP,Option.bind_some,Nat.zero_le,Nat.mul_one,Int.natCast_nonneg,Int.toNat_natCast,and_self,true_and,↓reduceIte,Nat.reduceEqDiff,Bool.not_true,hlt2,hc2]
      refine .refl (PFun.to (n2) rfl (POps.wp ?_))
      simp only [wo_nil,wo_p,wo_g,beq_self_eq_true,onO_s,onG_t,wanted_g,wantB_b,pv_t,put_some,pevP,getP,setP,Bool.not_false]
      repeat (refine PRun.wpn rfl ?_;simp only [SW,↓reduceIte,reduceCtorEq,Nat.reduceAdd,Nat.reduceEqDiff])
      exact .refl ⟨_,rfl,Gh.treeEnd (in_zero _ _) fun H' _ q2=>⟨_,rfl,_,rfl,mkT_zero _ _ q2⟩⟩
    ·rw [yes_f e1] at n1
     rw [okR_no hs' ht' (fun h=>e1 h.2.1),if_neg (by simp)] at hres
     cases hres
     repeat (refine PRun.wpn rfl ?_;simp only [SW,↓reduceIte,Nat.reduceEqDiff,ltB_t hlt,hlt,hc1,f1,keyP,ltB_f (show ¬ (0:Int) < 0 by omega)])
     refine .refl (PFun.to (n1) rfl (POps.wp ?_))
     simp only [SW]
     repeat (refine PRun.wpn rfl ?_;simp only [SW,↓reduceIte,reduceCtorEq,Nat.reduceAdd,Nat.reduceEqDiff])
     exact .refl ⟨_,rfl,Gh.treeEnd (in_zero _ _) fun H' _ q2=>⟨_,rfl,_,rfl,mkT_zero _ _ q2⟩⟩
   ·have hil:i=fr.length:=by omega
    rw [okR_all (fun j hj=>hok j (by omega)),if_pos rfl] at hres
    cases hres
    subst hil
    rw [List.take_length]
    repeat (refine PRun.wpn rfl ?_;simp only [SW,↓reduceIte,reduceCtorEq,ltB_f hlt])
    refine Gh.frz 1 rfl rfl rfl ?_
    simp only [SW,↓reduceIte,reduceCtorEq,Nat.reduceEqDiff,frzE_mP]
    refine .refl (PToE.mono (PToB.toE (r1 _ ⟨by decide,by decide,rfl,rfl⟩) rfl (Nat.zero_le _)) ?_)
    rintro r ⟨nx1,H1⟩ ⟨t,rfl,ht⟩
    refine POps.wp ?_
    have hr1:=ht.old 2 (by show 2 < 5;omega)
    have hlo:=ht.lo
    have hnn:=ht.nn
    simp only [look,Nat.reduceEqDiff,↓reduceIte] at hr1
    dsimp only at hlo hnn
    have hst:∀ x,InH (setO H1 2 x) nx1 t:=fun x=>ht.inn.keep (Nat.le_refl _) fun j hj y hy=>by
     rw [look_setO,if_neg (fun e=>by have:=hlo j hj;omega)];exact hy
    have hz2:∀ x,look (setO H1 2 x) 2=some x:=fun x=>by rw [look_setO,if_pos rfl,hr1];rfl
    obtain ⟨c0,c1,c2,hmc,hmC,p0,p1,p2⟩:=mC_three t
    simp only [plainP,isCell] at p0 p1 p2
    rw [hmC]
    simp only [wo_st,ble0,pv_t,pevE,getP,setP,spliceP,overP,plainP,isCell,List.length_cons,List.length_nil,Option.map_some,Bool.and_true,↓reduceIte,Nat.reduceAdd,Nat.zero_add,allPlain,PW.wr,killO,Bool.false_or,List.length_cons,List.length_nil,hr1]
    simp only [p0,p1,p2,wo_nil,wo_p,onO_s,onE_s,pv_int,put_some,put_none,pevP,setP,Option.map_some,Bool.and_true,↓reduceIte,Bool.false_eq_true,Bool.not_true]
    repeat (refine PRun.wpn rfl ?_;simp only [wp,or_true,true_and,reduceCtorEq])
    refine .refl ⟨[.agg [c0,c1,c2],.lit (.int .i64 0)],by simp only [SW,hz2],Gh.treeEnd (π:=⟨nx1,_⟩) (hst _) fun H' q1 q2=>⟨_,rfl,_,rfl,t,ht.rm,ht.fm,hmC.symm,q1,ht.nd,q2⟩⟩
  ·have hl':¬ ((fr.length:Nat):Int)=((to_.length:Nat):Int):=by omega
   rw [neB_t hl',if_pos rfl]
   clear hform
   obtain ⟨o,n,ks⟩:=f
   simp only [fP,fC] at a1 ⊢
   simp only [SW,Tryz.c51,startP,Nat.reduceAdd,Nat.reduceSub,List.replicate]
   repeat (refine PRun.wpn rfl ?_;simp only [SW,↓reduceIte,reduceCtorEq,Nat.reduceAdd])
   refine .refl (PFun.to (a1) rfl (POps.wp ?_))
   simp only [SW]
   repeat (refine PRun.wpn rfl ?_;simp only [SW,↓reduceIte,reduceCtorEq,Nat.reduceAdd,Nat.reduceEqDiff,neB_t hl'])
   exact .refl ⟨_,rfl,Gh.treeEnd (in_zero _ _) fun H' _ q2=>⟨_,rfl,_,rfl,mkT_zero _ _ q2⟩⟩
 ·rw [yes_f hform] at a1
  unfold rnmE
  rw [yes_f hform,if_neg (by simp)]
  obtain ⟨o,n,ks⟩:=f
  simp only [fP,fC] at a1 ⊢
  simp only [SW,Tryz.c51,startP,Nat.reduceAdd,Nat.reduceSub,List.replicate]
  repeat (refine PRun.wpn rfl ?_;simp only [SW,↓reduceIte,reduceCtorEq,Nat.reduceAdd])
  refine .refl (PFun.to (a1) rfl (POps.wp ?_))
  simp only [SW]
  repeat (refine PRun.wpn rfl ?_;simp only [SW,↓reduceIte,reduceCtorEq,Nat.reduceAdd])
  exact .refl ⟨_,rfl,Gh.treeEnd (in_zero _ _) fun H' _ q2=>⟨_,rfl,_,rfl,mkT_zero _ _ q2⟩⟩
end
end Go.Proofs.YtnpoloachkcadaaGreatDoor.Ai
namespace Go.Proofs.YtnpoloachkcadaaGreatDoor.Ai
set_option linter.unusedSimpArgs false
open Go
set_option linter.unusedVariables false
set_option linter.unusedSectionVars false
set_option maxRecDepth 10000
set_option maxHeartbeats 4000000
theorem much1 {f:Fm} (hm:muchN 0 [f]≤1048576):f.size≤1048576:=by
 simp only [muchN] at hm
 rw [if_pos (by omega)] at hm
 have h1:=size_wt f 0 (by omega)
 omega
theorem ren_size (fr to_:List ByteArray) (p:Fm):(renG fr to_ p).size=p.size:=by
 obtain ⟨o,n,ks⟩:=p
 simp only [renG]
 split <;> rfl
mutual
theorem repl_ren_size (fr to_:List ByteArray):∀ f:Fm,(f.repl (renG fr to_)).size=f.size
 | .mk o n ks=>by
  simp only [Fm.repl]
  split
  ·exact ren_size fr to_ _
  ·simp only [Fm.size,repls_ren_size fr to_ ks]
theorem repls_ren_size (fr to_:List ByteArray):∀ ks:List Fm,sizes (repls (renG fr to_) ks)=sizes ks
 | []=>rfl
 | k::ks=>by simp only [repls,sizes,repl_ren_size fr to_ k,repls_ren_size fr to_ ks]
end
theorem rnmE_size (f:Fm) (fr to_:List ByteArray):(rnmE f fr to_).1.size≤f.size:=by
 have h0:(Fm.mk 0 ⟨#[]⟩ []).size≤f.size:=by have:=f.size_pos;simp [Fm.size,sizes];omega
 unfold rnmE
 split
 ·split
  ·exact h0
  ·split
   ·exact Nat.le_of_eq (repl_ren_size fr to_ f)
   ·exact h0
 ·exact h0
theorem free_sL:∀ l:List ByteArray,freeLv (sL l)=true
 | []=>rfl
 | s::l=>by have:=free_sL l;simp only [sL,List.map_cons,freeLv,freePv,Bool.true_and] at this ⊢;exact this
theorem shL_lT (k:Nat) (l:List ByteArray):shL k (lT l)=lT l:=by
 unfold lT
 induction l with
 | nil=>rfl
 | cons s l ih=>simp only [sL,List.map_cons,List.cons_append,shL,shP] at ih ⊢;rw [ih]
theorem lT_len (l:List ByteArray):(lT l).length=l.length + 2:=by simp only [lT,List.length_append,sL_len];rfl
theorem lends_texts {π:PW} {id:Nat} {l:List ByteArray} (h:look π.heap id=some (.cells (lT l) 9 1 true false [])):Lends π (.loc id 0 l.length (l.length + 2)) (.sp (lT l) l.length (l.length + 2)):=
 Lends.locX h (.pure (by simp only [lT,pureL_append,pureL_sL,Bool.true_and];rfl)) (by omega)
theorem lends_textsZ {π:PW} {id:Nat} {l:List ByteArray} (h:look π.heap id=some (.cells (lT l) 9 1 true false [])):Lends π (.loc id 0 l.length (l.length + 2)) (.sz (sL l) l.length):=
 (lends_texts h).wk (Wk.sp_sz (ds:=sL l) (ext:=ownT) (.refl _))
section
variable {C:Ctx} (hm:C.P.follows .mixedOrders=true) (hC:TabOK C.P C.ng C.ts Tryz.tab)
include hm hC
theorem texts_E (l:List ByteArray) (hl:l.length < 2 ^ 38) {π:PW} {e:List PV} {B:PV→PW→Prop} (hB:∀ x nx',π.next≤x→x < nx'→B (.loc x 0 l.length (l.length + 2)) ⟨nx',(x,.cells (lT l) 9 1 true false [])::π.heap⟩):PToE C 0 e 50 [.sz (sL l) l.length] π B:=by
 refine PMk.to (lentTexts_m hm hC l hl) (fun r π1 h=>?_) rfl (fun r π1 h=>?_)
 ·obtain ⟨rfl,rfl⟩:=h
  refine ⟨rfl,fun i o h=>?_⟩
  simp only [look] at h
  split at h
  ·cases h
   simp only [freeOb,lT,freeLv_app,free_sL,Bool.true_and];rfl
  ·cases h
 ·obtain ⟨rfl,rfl⟩:=h
  simp only [shP,PW.with,shH,shO,shL_lT]
  exact hB _ _ (by omega) (by omega)
theorem renames_top (hG0:C.G 0=some kidsC) (hw:PFun C 14 [] (.lit (.bool true))) (f:Fm) (fr to_:List ByteArray) (of:f.ok) (pf:f.opsOK) (hzf:fr.length < 2 ^ 50) (hzt:to_.length < 2 ^ 50) (hsf:∀ s∈fr,s.size < 2 ^ 50) (hst:∀ s∈to_,s.size < 2 ^ 50) :
  PTop C Tryz.tab 9 [fP f,.sz (sL fr) fr.length,.sz (sL to_) to_.length] (.lit (.bool true)):=by
 have hmu:=much_ok hm hC [f] ⟨of,trivial⟩ (by simp)
 have t1:=ofTexts_ok hm hC fr (by omega) hsf
 have t2:=ofTexts_ok hm hC to_ (by omega) hst
 have u1:=otN_lt fr 0 (by omega) hsf
 have u2:=otN_lt to_ 0 (by omega) hst
 have wsum:IntKind.i64.wrap (((otN 0 fr:Nat):Int) + ((otN 0 to_:Nat):Int))=((otN 0 fr + otN 0 to_:Nat):Int):=by rw [wrap64 (by omega) (by omega)];omega
 by_cases hmm:1048576 < muchN 0 [f]
 ·rw [yes_t hmm] at hmu
  clear hmm
  obtain ⟨o1,n1,k1⟩:=f
  simp only [SW,fC,fL,Nat.reduceAdd] at hmu
  refine PTop.body (show Tryz.tab.get 9=some Tryz.c9 from rfl) ?_
  simp only [SW,Tryz.c9,startP,Nat.reduceAdd,Nat.reduceSub,List.replicate,fP,fC]
  repeat (refine PRun.wpn rfl ?_;simp only [SW])
  refine .refl (PFun.to (hw) rfl (POps.wp ?_))
  simp only [SW]
  repeat (refine PRun.wpn rfl ?_;simp only [SW,↓reduceIte,Nat.reduceAdd])
  refine Gh.frz 1 rfl rfl rfl ?_
  simp only [SW,↓reduceIte,reduceCtorEq]
  refine .refl (PFun.to (hmu) rfl (POps.wp ?_))
  simp only [SW]
  repeat (refine PRun.wpn rfl ?_;simp only [SW,↓reduceIte,reduceCtorEq])
  exact .refl ⟨_,rfl,.refl _⟩
 have s1:=much1 (Nat.le_of_not_lt hmm)
 rw [yes_f hmm] at hmu
 by_cases hnl:(1048576:Int) < ((otN 0 fr + otN 0 to_:Nat):Int)
 ·clear hmm
  obtain ⟨o1,n1,k1⟩:=f
  simp only [SW,fC,fL,Nat.reduceAdd] at hmu
  refine PTop.body (show Tryz.tab.get 9=some Tryz.c9 from rfl) ?_
  simp only [SW,Tryz.c9,startP,Nat.reduceAdd,Nat.reduceSub,List.replicate,fP,fC]
  repeat (refine PRun.wpn rfl ?_;simp only [SW])
  refine .refl (PFun.to (hw) rfl (POps.wp ?_))
  simp only [SW]
  repeat (refine PRun.wpn rfl ?_;simp only [SW,↓reduceIte,Nat.reduceAdd])
  refine Gh.frz 1 rfl rfl rfl ?_
  simp only [SW,↓reduceIte,reduceCtorEq]
  refine .refl (PFun.to (hmu) rfl (POps.wp ?_))
  simp only [SW]
  repeat (refine PRun.wpn rfl ?_;simp only [SW])
  refine .refl (PFun.to (t1) rfl (POps.wp ?_))
  simp only [SW]
  repeat (refine PRun.wpn rfl ?_;simp only [SW,↓reduceIte,reduceCtorEq,Nat.reduceAdd,Nat.reduceMul,Nat.reduceLeDiff,Nat.reduceLT,Nat.reduceEqDiff,Nat.reduceSub])
  refine .refl (PFun.to (t2) rfl (POps.wp ?_))
  simp only [SW]
  repeat (refine PRun.wpn rfl ?_;simp only [SW,↓reduceIte,reduceCtorEq,wsum,ltB_t hnl])
  exact .refl ⟨_,rfl,.refl _⟩
 obtain ⟨v1,v2⟩:=otN_small fr 0 (by omega)
 obtain ⟨v3,v4⟩:=otN_small to_ 0 (by omega)
 have hwant:=rRename_ok hm hC f fr to_ of (by omega) (by omega) (fun s h=>by have:=v2 s h;omega) (fun s h=>by have:=v4 s h;omega) (by omega)
 have hput:=treeRename_m hm hC hG0 f fr to_ of pf (by omega) (by omega) (fun s h=>by have:=v2 s h;omega) (fun s h=>by have:=v4 s h;omega) (by omega)
 have l1:=lent_m hm hC f.size f (Nat.le_refl _) (by omega)
 have w1:=whole_ok hm hC f.size f (Nat.le_refl _) (by omega)
 have wt1:=wholeTexts_ok hm hC fr (by omega)
 have wt2:=wholeTexts_ok hm hC to_ (by omega)
 have hps:(rnmE f fr to_).1.size≤1048576:=Nat.le_trans (rnmE_size f fr to_) s1
 have hsm:=same_ok hm hC _ (rnmE f fr to_).1 (Nat.le_refl _) (by omega)
 generalize (rnmE f fr to_).2=we at *
 generalize (rnmE f fr to_).1=wf at *
 clear hmm
 obtain ⟨o1,n1,k1⟩:=f
 simp only [SW,fC,fL,Nat.reduceAdd] at hmu
 obtain ⟨wo,wn,wk⟩:=wf
 simp only [fP,fC] at hwant l1
 refine PTop.body (show Tryz.tab.get 9=some Tryz.c9 from rfl) ?_
 simp only [SW,Tryz.c9,startP,Nat.reduceAdd,Nat.reduceSub,List.replicate,fP,fC]
 repeat (refine PRun.wpn rfl ?_;simp only [SW])
 refine .refl (PFun.to (hw) rfl (POps.wp ?_))
 simp only [SW]
 repeat (refine PRun.wpn rfl ?_;simp only [SW,↓reduceIte,Nat.reduceAdd])
 refine Gh.frz 1 rfl rfl rfl ?_
 simp only [SW,↓reduceIte,reduceCtorEq]
 refine .refl (PFun.to (hmu) rfl (POps.wp ?_))
 simp only [SW]
 repeat (refine PRun.wpn rfl ?_;simp only [SW])
 refine .refl (PFun.to (t1) rfl (POps.wp ?_))
 simp only [SW]
 repeat (refine PRun.wpn rfl ?_;simp only [SW,↓reduceIte,reduceCtorEq,Nat.reduceAdd,Nat.reduceMul,Nat.reduceLeDiff,Nat.reduceLT,Nat.reduceEqDiff,Nat.reduceSub])
 refine .refl (PFun.to (t2) rfl (POps.wp ?_))
 simp only [SW]
 repeat (refine PRun.wpn rfl ?_;simp only [SW,↓reduceIte,wsum,ltB_f hnl])
 refine .refl (PFun.to (hwant) rfl (POps.wp ?_))
 simp only [SW,↓reduceIte,Nat.reduceAdd]
 repeat (refine PRun.wpn rfl ?_;simp only [SW,↓reduceIte,reduceCtorEq])
 refine .refl (PMk.tree l1 rfl (LendsL.pure rfl) fun ta nx1 H1 hta=>POps.wp ?_)
 obtain ⟨a0,a1,a2,hma,hmA,pa0,pa1,pa2⟩:=mC_three ta
 simp only [plainP,isCell] at pa0 pa1 pa2
 rw [hmA]
 have hnn1:=hta.nn
 have oa2:=hta.old 2 (by show 2 < 3;omega)
 have oa0:=hta.old 0 (by show 0 < 3;omega)
 have loa:=hta.lo
 simp only [look,Nat.reduceEqDiff,↓reduceIte] at oa2 oa0
 dsimp only at hnn1 loa
 simp only [wo_n,wo_st,onN_s,ble0,pv_t,ov_nil,ov_cons,ov_int,ov_str,ov_nilS,put_some,pevN,pevE,getP,setP,spliceP,overP,plainP,isCell,look,PW.push,List.length_cons,List.length_nil,Option.map_some,Bool.and_true,↓reduceIte,ltL,lt,Nat.reduceAdd,Nat.zero_add,allPlain,PW.wr,setO,killO,Bool.false_or,List.length_cons,List.length_nil]
 simp only [pa0,pa1,pa2,wo_nil,onE_s,put_none,Option.map_some,Bool.and_true,↓reduceIte,Bool.false_eq_true,Bool.not_true]
 repeat (refine PRun.wpn rfl ?_;simp only [SW])
 refine .refl (texts_E hm hC fr (by omega) fun x nxx hx1 hx2=>POps.wp ?_)
 dsimp only at hx1
 simp only [SW]
 repeat (refine PRun.wpn rfl ?_;simp only [SW])
 refine .refl (texts_E hm hC to_ (by omega) fun y nxy hy1 hy2=>POps.wp ?_)
 dsimp only at hy1
 simp only [SW]
 repeat (refine PRun.wpn rfl ?_;simp only [SW,↓reduceIte,reduceCtorEq])
 generalize hH0:((nxy,PObj.cells [.lit (.slice none 0 0),.lit (.slice none 0 0),.lit (.slice none 0 0),.lit (.slice none 0 0),.lit (.slice none 0 0),.lit (.slice none 0 0),.lit (.slice none 0 0),.lit (.slice none 0 0),.lit (.slice none 0 0),.lit (.slice none 0 0),.lit (.slice none 0 0),.lit (.slice none 0 0),.lit (.slice none 0 0)] 51 13 true false [])::(y,PObj.cells (lT to_) 9 1 true false [])::(x,PObj.cells (lT fr) 9 1 true false [])::(nx1,PObj.cells [a0,a1,a2] 27 3 true false [])::H1)=H0
 have qk2:=(look_eq hH0).trans ((look_ne (by omega)).trans ((look_ne (by omega)).trans ((look_ne (by omega)).trans ((look_ne (by omega)).trans oa2))))
 have qk0:=(look_eq hH0).trans ((look_ne (by omega)).trans ((look_ne (by omega)).trans ((look_ne (by omega)).trans ((look_ne (by omega)).trans oa0))))
 have qka:look H0 nx1=some (.cells [a0,a1,a2] 27 3 true false []):=by rw [← hH0,look_ne (by omega),look_ne (by omega),look_ne (by omega)];exact look_self'
 have qkx:look H0 x=some (.cells (lT fr) 9 1 true false []):=by rw [← hH0,look_ne (by omega),look_ne (by omega)];exact look_self'
 have qky:look H0 y=some (.cells (lT to_) 9 1 true false []):=by rw [← hH0,look_ne (by omega)];exact look_self'
 have qkk:=(look_eq hH0).trans look_self'
 have hia0:InH H0 (nxy + 1) ta:=hta.inn.keep (by omega) fun j hj z hz=>by
  have:=hta.inn.lt j hj
  rw [← hH0,look_ne (by omega),look_ne (by omega),look_ne (by omega),look_ne (by omega)];exact hz
 refine PRun.gh (Gh.mask mkPuE6 ?_)
 simp only [mkPuE6,↓reduceIte,Bool.false_eq_true,maskP]
 refine PRun.loopG (fun m t π=>∃ (i nx lid j:Nat) (H:List (Nat × PObj)) (ts:List Mt),t=(.junk::.sz (sL fr) fr.length::.sz (sL to_) to_.length::.ptr 0 0::.junk::.junk::.junk::.lit (.bool true)::.junk::.ptr 2 0::.lit (.int .i64 we)::.ptr nx1 0::.loc x 0 fr.length (fr.length + 2)::.loc y 0 to_.length (to_.length + 2)::.ptr nxy 0::slt false lid i::.lit (.int .i64 (i:Nat))::.junk::.junk::.junk::.junk::.junk::.junk::.junk::.junk::.junk::.junk::.junk::.junk::.junk::.junk::.junk::.junk::.junk::.junk::.junk::.junk::.junk::.junk::.junk::.junk::.junk::.junk::.junk::.junk::.junk::.junk::.junk::.junk::.junk::.junk::.junk::.junk::.junk::.junk::.junk::.junk::.junk::.junk::.junk::.junk::.junk::.junk::.junk::.junk::.junk::.junk::.junk::.junk::.junk::.junk::.junk::.junk::.junk::.junk::.junk::.junk::.junk::.junk::.junk::.junk::.junk::.junk::.junk::.junk::.junk::.junk::.junk::.junk::.junk::.junk::.junk::.junk::.junk::.junk::.junk::.junk::.junk::.junk::.junk::.junk::.junk::.junk::.junk::.junk::.junk::.junk::.junk::.junk::.junk::.junk::.junk::.junk::.junk::.junk::[])∧i≤2∧m=2 - i∧π=⟨nx,H⟩∧ts.length=i∧(∀ t∈ts,t.fm = .mk wo wn wk)∧Rnd (nxy + 1) nxy H0 H nx lid j ts) ?_ 2 _ _ ⟨0,nxy + 1,0,0,H0,[],rfl,by omega,rfl,rfl,rfl,fun t h=>by simp at h,⟨by omega,rfl,.nil _ _ _ _,.empty (by omega) qkk,fun _ _ _ _ h=>h⟩⟩
 rintro m t π ⟨i,nx,lid,j,H,ts,rfl,hi,rfl,rfl,htl,hfm,hR⟩
 have hle:=hR.le
 have r2:=hR.old 2 _ (by omega) (by omega) qk2
 have r0:=hR.old 0 _ (by omega) (by omega) qk0
 have ra:=hR.old nx1 _ (by omega) (by omega) qka
 have rx:=hR.old x _ (by omega) (by omega) qkx
 have ry:=hR.old y _ (by omega) (by omega) qky
 have hia_lt:=hta.inn.lt
 have hina:InH H nx ta:=hia0.keep hle fun j hj z hz=>by
  have h1:=hia_lt j hj
  exact hR.old j z (by omega) (by omega) hz
 by_cases hlt:(i:Int) < 2
 ·have w1:IntKind.i64.wrap (((i:Nat):Int) + 1)=((i + 1:Nat):Int):=by rw [wrap64 (by omega) (by omega)];omega
  have hlends:LendsL ⟨nx,H⟩ [.agg [a0,a1,a2],.loc x 0 fr.length (fr.length + 2),.loc y 0 to_.length (to_.length + 2)] [fP (.mk o1 n1 k1),.sz (sL fr) fr.length,.sz (sL to_) to_.length]:=by
   rw [← hmA,← hta.fm]
   exact .cons (lends_mtP hina) (.cons (lends_textsZ rx) (.cons (lends_textsZ ry) .nil))
  by_cases hi0:i=0
  ·rw [hi0,slt0]
   have hts0:ts=[]:=List.length_eq_zero_iff.1 (by omega)
   rw [hi0] at hlt w1
   repeat (refine PRun.wpn rfl ?_;simp only [SW,↓reduceIte,ra])
   refine .refl (PMk.treeE (π:=⟨nx,H⟩) hput rfl hlends fun g nx3 H3 hg=>POps.wp ?_)
   obtain ⟨g0,g1,g2,hmg,hmG,pg0,pg1,pg2⟩:=mC_three g
   simp only [plainP,isCell] at pg0 pg1 pg2
   rw [hmG]
   simp only [wo_p,wo_n,wo_st,onO_s,onN_s,ble0,pv_t,ov_nil,ov_cons,ov_int,ov_str,ov_nilS,put_some,pevP,pevN,pevE,getP,setP,spliceP,overP,plainP,isCell,look,PW.push,nthP,List.length_cons,List.length_nil,Option.map_some,Bool.and_true,↓reduceIte,ltL,lt,Nat.reduceAdd,Nat.zero_add,allPlain,PW.wr,setO,killO,Bool.false_or,List.length_cons,List.length_nil]
   simp only [pg0,pg1,pg2,wo_nil,wo_p,onO_s,onE_s,pv_t,put_some,put_none,pevP,getP,setP,Option.map_some,Bool.and_true,↓reduceIte,Bool.false_eq_true,Bool.not_true]
   have hnn:=hg.nn
   dsimp only at hnn
   have e1:¬ nx3=nx3 + 1 + 1:=by omega
   have e2:¬ nx3=nx3 + 1:=by omega
   repeat (refine PRun.wpn rfl ?_;simp only [wp,wo_nil,wo_p,wo_r,wo_n,wo_append,onO_s,onN_s,ble0,pv_t,ov_nil,ov_cons,ov_int,ov_str,ov_nilS,put_some,bi_neq,pevP,pevR,pevN,pevE,getP,setP,lenP,srcP,appendP,fillP,spliceP,overP,plainP,isCell,look,PW.cs?,PW.push,cut0,cutS,List.length_cons,List.length_nil,List.drop_zero,Option.map_some,Option.bind_some,Nat.mul_one,Bool.and_true,↓reduceIte,ltL,lt,Nat.reduceAdd,Nat.reduceMul,Nat.reduceLeDiff,Nat.reduceLT,Bool.false_eq_true,Nat.zero_add,allPlain,List.length_cons,List.length_nil,gt_iff_lt,neB_f (show we=we from rfl)])
   simp only [pg0,pg1,pg2,wo_nil,wo_p,onO_s,onE_s,pv_t,put_some,pevP,getP,setP,Bool.and_true,↓reduceIte,Bool.false_eq_true,Bool.or_self,Bool.not_true,bne_self_eq_false]
   repeat (refine PRun.wpn rfl ?_;simp only [wp,wo_p,wo_r,wo_call,onO_s,pv_t,put_some,pevP,pevR,getP,setP,evsP,look,PW.cs?,cut0,cutS,List.drop_zero,Option.map_some,Option.bind_some,Nat.zero_le,true_and,↓reduceIte,e1,e2])
   have hcall:∀ Hb,(∀ id,id < nx3→(ts ≠ []→id ≠ lid)→look Hb id=look H3 id)→PToB C (nx3 + 1 + 1 + 1) 37 [.ptr nxy 0,.agg [g0,g1,g2]] ⟨nx3 + 1 + 1 + 1,Hb⟩ (BkPost (nx3 + 1 + 1 + 1) nxy j (nodesL ts) g.nodes Hb):=fun Hb hb=>by
    obtain ⟨B1,B2,B3⟩:=hR.bookB hg hb
    have:=book_m hm hC nxy g.fm.size g (Nat.le_refl _) (by rw [hg.fm];omega) hg.rm _ Hb j _ B1 (by rw [nodesL_size,sizes_all hfm,htl,hg.fm];have:i * (Fm.mk wo wn wk).size≤2 * 1048576:=Nat.mul_le_mul (by omega) hps;omega) B2 hg.nd B3
    rwa [hmG] at this
   obtain ⟨ng0,ng1,ng2⟩:=nm_three hg.inn (nx':=nx3 + 1 + 1 + 1) (by omega) hmg
   obtain ⟨na0,na1,na2⟩:=nm_three hina (nx':=nx3 + 1 + 1 + 1) (by show nx≤_;omega) hma
   have hb:∀ id,id < nx3→(ts ≠ []→id ≠ lid)→look ((nx3 + 1 + 1,PObj.cells [g0,g1,g2] 27 3 false false [])::(nx3 + 1,PObj.cells [g0,g1,g2] 27 3 true false [])::(nx3,PObj.cells [g0,g1,g2] 27 3 true false [])::H3) id=look H3 id:=fun id h1 _=>by rw [look_ne (by omega),look_ne (by omega),look_ne (by omega)]
   refine .refl (PToE.mono (PToB.toE (hcall _ hb) (by simp only [nmL,nm_ptr,nm_agg,nm_tup,nm_junk,nm_loc,nm_lit,nm_sz,ng0,ng1,ng2,na0,na1,na2,Nat.blt_eq,Bool.and_eq_true,true_and,and_true];omega) (by omega)) ?_)
   rintro r ⟨nx4,H4⟩ ⟨rfl,g4,j4,g5,g6,g7⟩
   dsimp only at g4 g5 g6 g7
   have hR':=hR.next hg hb (by rw [mL_app];simp only [mL,hmg,List.append_nil,hts0,List.nil_append];exact look_self') g4 g6 g7
   refine POps.wp ?_
   simp only [wo_nil,setP,tupP]
   repeat (refine PRun.wpn rfl ?_;simp only [SW,(show IntKind.i64.wrap (0 + 1)=1 from rfl)])
   refine Gh.mask mkPuE6 ?_
   refine ⟨1,by omega,1,nx4,nx3 + 1 + 1,j4,H4,ts++[g],rfl,by omega,rfl,rfl,by rw [List.length_append,htl,hi0];rfl,fun t ht=>?_,hR'⟩
   rcases List.mem_append.1 ht with ht | ht
   ·exact hfm t ht
   ·rw [List.mem_singleton.1 ht];exact hg.fm
  ·rw [sltN hi0]
   have hi1:i=1:=by omega
   have hts0:ts ≠ []:=fun e=>by rw [e] at htl;simp at htl;omega
   obtain ⟨l1',l2',l3⟩:=hR.gl.lst hts0
   have hq3:(mL ts).length=i * 3:=by rw [mL_len,htl]
   have q4:=cut_all hq3
   have q1:¬ i + 1≤i:=by omega
   have q2:¬ 140737488355328 < (2 * (i + 1) + 768) * 48:=by omega
   repeat (refine PRun.wpn rfl ?_;simp only [SW,↓reduceIte,ltB_t hlt,ra])
   refine .refl (PMk.treeE (π:=⟨nx,H⟩) hput rfl hlends fun g nx3 H3 hg=>POps.wp ?_)
   obtain ⟨g0,g1,g2,hmg,hmG,pg0,pg1,pg2⟩:=mC_three g
   simp only [plainP,isCell] at pg0 pg1 pg2
   rw [hmG]
   simp only [wo_p,wo_n,wo_st,onO_s,onN_s,ble0,pv_t,ov_nil,ov_cons,ov_int,ov_str,ov_nilS,put_some,pevP,pevN,pevE,getP,setP,spliceP,overP,plainP,isCell,look,PW.push,nthP,List.length_cons,List.length_nil,Option.map_some,Bool.and_true,↓reduceIte,ltL,lt,Nat.reduceAdd,Nat.zero_add,allPlain,PW.wr,setO,killO,Bool.false_or,List.length_cons,List.length_nil]
   simp only [pg0,pg1,pg2,wo_nil,wo_p,onO_s,onE_s,pv_t,put_some,put_none,pevP,getP,setP,Option.map_some,Bool.and_true,↓reduceIte,Bool.false_eq_true,Bool.not_true]
   have hnn:=hg.nn
   dsimp only at hnn
   have e1:¬ nx3=nx3 + 1 + 1:=by omega
   have e2:¬ nx3=nx3 + 1:=by omega
   have l4:=(hg.old lid (by show lid < nx;omega)).trans l3
   have e3:¬ lid=nx3:=by omega
   have e4:¬ lid=nx3 + 1:=by omega
   repeat (refine PRun.wpn rfl ?_;simp only [wp,wo_nil,wo_p,wo_r,wo_n,wo_append,onO_s,onN_s,ble0,pv_t,ov_nil,ov_cons,ov_int,ov_str,ov_nilS,put_some,bi_neq,pevP,pevR,pevN,pevE,getP,setP,lenP,srcP,appendP,fillP,spliceP,overP,plainP,isCell,look,PW.cs?,PW.push,cut0,cutS,List.length_cons,List.length_nil,List.drop_zero,Option.map_some,Option.bind_some,Bool.and_true,↓reduceIte,ltL,lt,Nat.reduceAdd,Nat.reduceMul,Bool.false_eq_true,Nat.zero_add,allPlain,setO,Bool.false_or,List.length_cons,List.length_nil,gt_iff_lt,neB_f (show we=we from rfl),e3,e4,l4,q1,q2,hq3,q4])
   simp only [pg0,pg1,pg2,wo_nil,wo_p,onO_s,onE_s,pv_t,put_some,pevP,getP,setP,Bool.and_true,↓reduceIte,Bool.false_eq_true,Bool.or_self,Bool.not_true,bne_self_eq_false]
   repeat (refine PRun.wpn rfl ?_;simp only [wp,wo_p,wo_r,wo_call,onO_s,pv_t,put_some,pevP,pevR,getP,setP,evsP,look,PW.cs?,cut0,cutS,List.drop_zero,Option.map_some,Option.bind_some,Nat.zero_le,true_and,↓reduceIte,e1,e2])
   have hcall:∀ Hb,(∀ id,id < nx3→(ts ≠ []→id ≠ lid)→look Hb id=look H3 id)→PToB C (nx3 + 1 + 1 + 1) 37 [.ptr nxy 0,.agg [g0,g1,g2]] ⟨nx3 + 1 + 1 + 1,Hb⟩ (BkPost (nx3 + 1 + 1 + 1) nxy j (nodesL ts) g.nodes Hb):=fun Hb hb=>by
    obtain ⟨B1,B2,B3⟩:=hR.bookB hg hb
    have:=book_m hm hC nxy g.fm.size g (Nat.le_refl _) (by rw [hg.fm];omega) hg.rm _ Hb j _ B1 (by rw [nodesL_size,sizes_all hfm,htl,hg.fm];have:i * (Fm.mk wo wn wk).size≤2 * 1048576:=Nat.mul_le_mul (by omega) hps;omega) B2 hg.nd B3
    rwa [hmG] at this
   obtain ⟨ng0,ng1,ng2⟩:=nm_three hg.inn (nx':=nx3 + 1 + 1 + 1) (by omega) hmg
   obtain ⟨na0,na1,na2⟩:=nm_three hina (nx':=nx3 + 1 + 1 + 1) (by show nx≤_;omega) hma
   have hb:∀ id,id < nx3→(ts ≠ []→id ≠ lid)→look ((nx3 + 1 + 1,PObj.cells (mL ts++[g0,g1,g2]) 27 3 false false [])::dropO lid ((nx3 + 1,PObj.cells [g0,g1,g2] 27 3 true false [])::(nx3,PObj.cells [g0,g1,g2] 27 3 true false [])::setO H3 lid (PObj.cells (mL ts) 27 3 false true []))) id=look H3 id:=fun id h1 h2=>by rw [look_ne (by omega),dropO_ne (h2 hts0),look_ne (by omega),look_ne (by omega),look_setO,if_neg (h2 hts0)]
   refine Gh.retire (by omega) (.refl (PToE.mono (PToB.toE (hcall _ hb) (by simp only [nmL,nm_ptr,nm_agg,nm_tup,nm_junk,nm_loc,nm_lit,nm_sz,ng0,ng1,ng2,na0,na1,na2,Nat.blt_eq,Bool.and_eq_true,true_and,and_true];omega) (by omega)) ?_))
   rintro r ⟨nx4,H4⟩ ⟨rfl,g4,j4,g5,g6,g7⟩
   dsimp only at g4 g5 g6 g7
   have hR':=hR.next hg hb (by rw [mL_app];simp only [mL,hmg,List.append_nil];exact look_self') g4 g6 g7
   refine POps.wp ?_
   simp only [wo_nil,setP,tupP]
   repeat (refine PRun.wpn rfl ?_;simp only [SW,w1])
   refine Gh.mask mkPuE6 ?_
   refine ⟨2 - (i + 1),by omega,i + 1,nx4,nx3 + 1 + 1,j4,H4,ts++[g],by rw [sltN (by omega)];rfl,by omega,rfl,rfl,by rw [List.length_append,htl];rfl,fun t ht=>?_,hR'⟩
   rcases List.mem_append.1 ht with ht | ht
   ·exact hfm t ht
   ·rw [List.mem_singleton.1 ht];exact hg.fm
 ·have hi2:i=2:=by omega
  have hts0:ts ≠ []:=fun e=>by rw [e] at htl;simp at htl;omega
  obtain ⟨l1',l2',l3⟩:=hR.gl.lst hts0
  have hne2:i ≠ 0:=by omega
  rw [sltN hne2,hi2]
  obtain ⟨t0,ht0⟩:∃ t0,ts[0]? = some t0:=⟨ts[0]'(by omega),List.getElem?_eq_getElem (by omega)⟩
  obtain ⟨t1,ht1⟩:∃ t1,ts[1]? = some t1:=⟨ts[1]'(by omega),List.getElem?_eq_getElem (by omega)⟩
  have hf0:=hfm t0 (List.mem_of_getElem? ht0)
  have hf1:=hfm t1 (List.mem_of_getElem? ht1)
  have hbi:=hR.bi
  have hgl:=hR.gl
  have hla:LendsL ⟨nx,H⟩ [.agg [a0,a1,a2],.agg [.lit (.int .u8 (o1:Nat)),.lit (.string n1),.sz (fL k1) k1.length]] [lP (.mk o1 n1 k1),fP (.mk o1 n1 k1)]:=by
   have h1:=lends_mtPl (π:=⟨nx,H⟩) hta.rm hina
   rw [hmA,hta.fm] at h1
   exact .cons h1 (.cons (.pure rfl) .nil)
  repeat (refine PRun.wpn rfl ?_;simp only [SW,↓reduceIte,Nat.reduceSub,ltB_f (show ¬ (2:Int) < 2 by omega),ra,r0])
  refine .refl (PFun.lendA w1 (by simp only [lP,lC,fP,fC,pureL,pureP,Bool.and_self]) hla (POps.wp ?_))
  simp only [SW]
  refine .refl (PFun.lendA wt1 rfl (.cons (lends_texts rx) (.cons (.pure rfl) .nil)) (POps.wp ?_))
  simp only [SW]
  refine .refl (PFun.lendA wt2 rfl (.cons (lends_texts ry) (.cons (.pure rfl) .nil)) (POps.wp ?_))
  simp only [SW]
  repeat (refine PRun.wpn rfl ?_;simp only [SW,ra])
  obtain ⟨na0,na1,na2⟩:=nm_three hina (nx':=nx) (Nat.le_refl _) hma
  have hsa:=spoil_m hm hC ta.fm.size ta (Nat.le_refl _) (by rw [hta.fm];omega) hta.rm nx H hina hta.nd
  rw [hmA] at hsa
  refine .refl (PToE.mono (PToB.toE hsa (by simp only [nmL,nm_ptr,nm_agg,nm_junk,nm_loc,nm_lit,nm_sz,na0,na1,na2,Nat.blt_eq,Bool.and_eq_true,true_and,and_true];omega) (Nat.zero_le _)) ?_)
  rintro r ⟨nx5,H5⟩ ⟨rfl,g1,g2,g3⟩
  dsimp only at g1 g2 g3
  have rx5:=(g2 x (by omega) (fun h=>by have:=hia_lt _ h;omega)).trans rx
  have ry5:=(g2 y (by omega) (fun h=>by have:=hia_lt _ h;omega)).trans ry
  have r25:=(g2 2 (by omega) (fun h=>by have:=loa _ h;omega)).trans r2
  have hgl5:=hgl.keep g1 (H':=H5) fun j y h1 h2 h3=>by
   rw [g2 j h2 (fun h=>by have:=hia_lt _ h;omega)];exact h3
  have hbi5:=hbi.keep2 g1 (H':=H5) fun j y h1 h2 h3=>by
   rw [g2 j h1 (fun h=>by
    have:=hia_lt _ h
    rcases h2 with rfl | ⟨h2,rfl⟩ | ⟨q,hq,h0,rfl⟩
    ·omega
    ·have:=(hbi.arr h2).1;omega
    ·have:=(hgl.lo _ (nodesL_ids hq h0)).1;omega)];exact h3
  refine POps.wp ?_
  simp only [wo_nil,setP,tupP]
  repeat (refine PRun.wpn rfl ?_;simp only [SW])
  have hsx:=spoilTexts_m hm hC (fr.length + 2) x nx5 H5 (by omega) (by omega) fr.length (by omega) (lT fr) (lT_len fr) (by omega) rx5
  have na5:nmP nx5 a0=true∧nmP nx5 a1=true∧nmP nx5 a2=true:=nm_three hina g1 hma
  obtain ⟨na0,na1,na2⟩:=na5
  refine .refl (PToE.mono (PToB.toE hsx (by simp only [nmL,nm_ptr,nm_agg,nm_tup,nm_junk,nm_loc,nm_lit,nm_sz,na0,na1,na2,Nat.blt_eq,Bool.and_eq_true,true_and,and_true];omega) (Nat.zero_le _)) ?_)
  rintro r ⟨nx7,H7⟩ ⟨rfl,k1',k2'⟩
  dsimp only at k1' k2'
  have ry7:=(k2' y (by omega) (by omega)).trans ry5
  have r27:=(k2' 2 (by omega) (by omega)).trans r25
  have hgl7:=hgl5.keep k1' (H':=H7) fun j y h1 h2 h3=>by
   rw [k2' j h2 (by omega)];exact h3
  have hbi7:=hbi5.keep2 k1' (H':=H7) fun j y h1 h2 h3=>by
   rw [k2' j h1 (fun h=>by
    rcases h2 with rfl | ⟨h2,rfl⟩ | ⟨q,hq,h0,rfl⟩
    ·omega
    ·have:=(hbi.arr h2).1;omega
    ·have:=(hgl.lo _ (nodesL_ids hq h0)).1;omega)];exact h3
  refine POps.wp ?_
  simp only [wo_nil,setP,tupP]
  repeat (refine PRun.wpn rfl ?_;simp only [SW])
  have hsy:=spoilTexts_m hm hC (to_.length + 2) y nx7 H7 (by omega) (by omega) to_.length (by omega) (lT to_) (lT_len to_) (by omega) ry7
  have na7:nmP nx7 a0=true∧nmP nx7 a1=true∧nmP nx7 a2=true:=nm_three hina (by show nx≤_;omega) hma
  obtain ⟨na0,na1,na2⟩:=na7
  refine .refl (PToE.mono (PToB.toE hsy (by simp only [nmL,nm_ptr,nm_agg,nm_tup,nm_junk,nm_loc,nm_lit,nm_sz,na0,na1,na2,Nat.blt_eq,Bool.and_eq_true,true_and,and_true];omega) (Nat.zero_le _)) ?_)
  rintro r ⟨nx6,H6⟩ ⟨rfl,e1,e2⟩
  dsimp only at e1 e2
  have r26:=(e2 2 (by omega) (by omega)).trans r27
  have hgl6:=hgl7.keep e1 (H':=H6) fun j z h1 h2 h3=>by
   rw [e2 j h2 (by omega)];exact h3
  have hbi6:=hbi7.keep2 e1 (H':=H6) fun j z h1 h2 h3=>by
   rw [e2 j h1 (fun h=>by
    rcases h2 with rfl | ⟨h2,rfl⟩ | ⟨q,hq,h0,rfl⟩
    ·omega
    ·have:=(hbi.arr h2).1;omega
    ·have:=(hgl.lo _ (nodesL_ids hq h0)).1;omega)];exact h3
  obtain ⟨_,l26,l36⟩:=hgl6.lst hts0
  have hin0:=inL_get hgl6.trs ht0
  have hin1:=inL_get hgl6.trs ht1
  obtain ⟨x0,x1,x2,hmx,hmX,_,_,_⟩:=mC_three t0
  obtain ⟨y0,y1,y2,hmy,hmY,_,_,_⟩:=mC_three t1
  have hc0:cutP 3 (mL ts)=some [x0,x1,x2]:=by
   have:=mL_cut (ext:=[]) ht0
   rwa [List.append_nil,Nat.zero_mul,List.drop_zero,hmx] at this
  have hc1:cutP 3 ((mL ts).drop 3)=some [y0,y1,y2]:=by
   have:=mL_cut (ext:=[]) ht1
   rwa [List.append_nil,Nat.one_mul,hmy] at this
  have hl0:LendsL ⟨nx6,H6⟩ [.agg [x0,x1,x2],.agg [.lit (.int .u8 (wo:Nat)),.lit (.string wn),.sz (fL wk) wk.length]] [fP (.mk wo wn wk),fP (.mk wo wn wk)]:=by
   have h1:=lends_mtP (π:=⟨nx6,H6⟩) hin0
   rw [hmX,hf0] at h1
   exact .cons h1 (.cons (.pure rfl) .nil)
  have hl1:LendsL ⟨nx6,H6⟩ [.agg [y0,y1,y2],.agg [.lit (.int .u8 (wo:Nat)),.lit (.string wn),.sz (fL wk) wk.length]] [fP (.mk wo wn wk),fP (.mk wo wn wk)]:=by
   have h1:=lends_mtP (π:=⟨nx6,H6⟩) hin1
   rw [hmY,hf1] at h1
   exact .cons h1 (.cons (.pure rfl) .nil)
  have q3:=ltN_t (show 2 < nx6 by omega)
  have ql:=ltN_t l26
  refine POps.wp ?_
  simp only [wo_nil,setP,tupP]
  repeat (refine PRun.wpn rfl ?_;simp only [wp])
  refine PDraw.stage (Nat.zero_le _) rfl ?_
  have i02:(0:Int) < 2:=by decide
  have i12:(1:Int) < 2:=by decide
  have i01:(0:Int)≤1:=by decide
  try dsimp only
  simp only [SW,↓reduceIte,Nat.reduceAdd,Nat.reduceMul,l36,r26,hc0,q3,ql,i02]
  refine PDE.lent hsm (by simp only [fP,fC,pureL,pureP,Bool.and_self]) (Gh.lends hl0) ?_
  refine PDraw.last (Nat.zero_le _) rfl ?_
  try dsimp only
  simp only [SW]
  repeat (refine PRun.wpn rfl ?_;simp only [wp])
  refine PDraw.stage (Nat.zero_le _) rfl ?_
  try dsimp only
  simp only [SW,↓reduceIte,Nat.reduceAdd,Nat.reduceMul,l36,r26,hc1,q3,ql,i12,i01]
  refine PDE.lent hsm (by simp only [fP,fC,pureL,pureP,Bool.and_self]) (Gh.lends hl1) ?_
  refine PDraw.last (Nat.zero_le _) rfl ?_
  try dsimp only
  simp only [SW]
  repeat (refine PRun.wpn rfl ?_;simp only [SW])
  have hps2:nodesL ts ≠ []:=fun e=>by
   have:=nodesL_size ts
   rw [e,sizes_all hfm,htl,hi2] at this
   have hw0:=(Fm.mk wo wn wk).size_pos
   simp only [List.length_nil] at this
   omega
  have hown:=book_own_g hm hC nxy nx6 j (nodesL ts) H6 hbi6 hps2 (by
   rw [nodesL_size,sizes_all hfm,htl]
   have:i * (Fm.mk wo wn wk).size≤2 * 1048576:=Nat.mul_le_mul (by omega) hps
   omega)
  obtain ⟨na0,na1,na2⟩:=nm_three hina (nx':=nx6) (by show nx≤_;omega) hma
  obtain ⟨nx0',nx1',nx2'⟩:=nm_three hin0 (nx':=nx6) (Nat.le_refl _) hmx
  obtain ⟨ny0',ny1',ny2'⟩:=nm_three hin1 (nx':=nx6) (Nat.le_refl _) hmy
  refine .refl (PToE.mono (PToB.toE hown (by simp only [nmL,nm_ptr,nm_agg,nm_tup,nm_junk,nm_loc,nm_lit,nm_sz,na0,na1,na2,nx0',nx1',nx2',ny0',ny1',ny2',Nat.blt_eq,Bool.and_eq_true,true_and,and_true];omega) (Nat.zero_le _)) ?_)
  rintro r π' rfl
  refine POps.wp ?_
  simp only [SW]
  repeat (refine PRun.wpn rfl ?_;simp only [wp,or_true,true_and,reduceCtorEq])
  exact .refl ⟨_,rfl,.refl _⟩
end
end Go.Proofs.YtnpoloachkcadaaGreatDoor.Ai
