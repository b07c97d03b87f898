/- A PART OF THE PROOF: a step of the proof that the law's code does what its contracts say, by an interpreter of the program's functions that is proved to be sound. -/
import Derived.Test.YtkldgoapompinaaDoorPv4
import Derived.Test.YtkldgoapompinaaDoorIrR
import Derived.Lib.ItoaMem
import Derived.Lib.ItoaLen
namespace Go.Proofs.YtkldgoapompinaaDoor.Ai
open Go
set_option linter.unusedVariables false
set_option linter.unusedSectionVars false
set_option maxRecDepth 10000
set_option maxHeartbeats 1000000
def L8 (l:List UInt8):List PV:=l.map fun b=>.lit (.int .u8 (b.toNat:Int))
def N16 (l:List Nat):List PV:=l.map fun n:Nat=>.lit (.int .u16 ((n:Nat):Int))
theorem L8_len (l:List UInt8):(L8 l).length=l.length:=by simp [L8]
theorem L8_app (a b:List UInt8):L8 (a++b)=L8 a++L8 b:=by simp [L8]
theorem pure_L8:∀ l:List UInt8,pureL (L8 l)=true
 | []=>rfl
 | b::l=>by have:=pure_L8 l;simp only [L8,List.map_cons,pureL,pureP,Bool.true_and] at this ⊢;exact this
theorem plain_L8:∀ l:List UInt8,allPlain (L8 l)=true
 | []=>rfl
 | b::l=>by have:=plain_L8 l;simp only [L8,List.map_cons,allPlain,plainP,isCell,Bool.true_and] at this ⊢;exact this
theorem renL_L8 (ρ:List (Nat × Nat)) (l:List UInt8):renL ρ (L8 l)=L8 l:=renL_pure ρ _ (pure_L8 l)
theorem bytes_L8:∀ l:List UInt8,bytesP (L8 l)=some l
 | []=>rfl
 | b::l=>by
  have h:=bytes_L8 l
  have e:byteOf (.int .u8 (b.toNat:Int))=some b:=by
   simp only [byteOf]
   rw [if_pos ⟨by omega,by have:=b.toNat_lt;omega⟩,Int.toNat_natCast,UInt8.ofNat_toNat]
  simp only [L8,List.map_cons,bytesP,e] at h ⊢
  rw [h]
theorem str_L8 (s:ByteArray):ofVs ((strCells s).take s.size)=L8 s.data.toList:=by
 have h:(strCells s).length=s.size:=by unfold strCells;rw [List.length_map];exact Array.length_toList
 rw [List.take_of_length_le (by omega)]
 unfold strCells
 generalize s.data.toList=l
 induction l with
 | nil=>rfl
 | cons b l ih=>simp only [List.map_cons,ofVs,ofV,L8] at ih ⊢;rw [ih]
theorem N16_at {l:List Nat} {i n:Nat} (h:l[i]? = some n):(N16 l).drop i = .lit (.int .u16 ((n:Nat):Int))::N16 (l.drop (i + 1)):=by
 obtain ⟨hi,rfl⟩:=List.getElem?_eq_some_iff.1 h
 unfold N16
 rw [← List.map_drop,List.drop_eq_getElem_cons hi];rfl
theorem cutB {l:List PV} {n:Nat} (h:l.length=n):cutP n l=some l:=by subst h;simp [cutP]
def bst0 (wc:List PV):PW:=⟨2,[(1,.cells [.lit (.pointer none),.lit (.slice none 0 0)] 82 2 true false []),(0,.cells wc 25 2 true false [])]⟩
def bst (wc:List PV) (bs:List UInt8):PW:=⟨3,[(2,.cells (L8 bs) 5 1 false false []),(1,.cells [.ptr 1 0,.loc 2 0 bs.length bs.length] 82 2 true false []),(0,.cells wc 25 2 true false [])]⟩
def BSt (wc:List PV) (bs:List UInt8) (π:PW):Prop:=(bs=[]∧π=bst0 wc)∨(bs ≠ []∧π=bst wc bs)
section
variable {C:Ctx} (hm:C.P.follows .mixedOrders=true) (hC:TabOK C.P C.ng C.ts Tryd.tab)
include hm hC
theorem chk0 (wc:List PV):PToB C 2 84 [.ptr 1 0] (bst0 wc) fun r π'=>π'=⟨2,[(1,.cells [.ptr 1 0,.lit (.slice none 0 0)] 82 2 true false []),(0,.cells wc 25 2 true false [])]⟩:=by
 refine PToB.of_body hm hC (show Tryd.tab.get 84=some Tryd.c84 from rfl) ?_
 simp only [Tryd.c84,startP,List.length_cons,List.length_nil,Nat.reduceAdd,Nat.reduceSub,List.replicate,List.cons_append,List.nil_append,bst0]
 have b2:Nat.ble 2 2=true:=rfl
 repeat (refine PRun.wpn rfl ?_;simp only [wp,wo_nil,wo_p,wo_r,wo_st,beq_self_eq_true,onO_s,onE_s,ble_self,pv_t,pv_nilP,put_some,put_none,pevP,pevR,pevE,getP,setP,spliceP,overP,plainP,look,PW.cs?,nthP,List.length_cons,List.length_nil,Option.map_some,Option.bind_some,true_or,and_self,true_and,Bool.and_true,↓reduceIte,reduceCtorEq,Nat.reduceAdd,Nat.reduceLT,Bool.false_eq_true,Nat.add_zero,Nat.zero_add,allPlain,PW.wr,setO,killO,Bool.or_self,Bool.not_true,Bool.bne_false,resPs,List.length_cons,List.length_nil])
 exact .refl ⟨_,rfl,rfl⟩
theorem chk1 (wc:List PV) (bs:List UInt8):PToB C 2 84 [.ptr 1 0] (bst wc bs) fun r π'=>π'=bst wc bs:=by
 refine PToB.of_body hm hC (show Tryd.tab.get 84=some Tryd.c84 from rfl) ?_
 simp only [Tryd.c84,startP,List.length_cons,List.length_nil,Nat.reduceAdd,Nat.reduceSub,List.replicate,List.cons_append,List.nil_append,bst]
 have b3:Nat.ble 2 3=true:=rfl
 repeat (refine PRun.wpn rfl ?_;simp only [wp,wo_nil,wo_p,wo_r,beq_self_eq_true,onO_s,pv_t,pv_nilP,put_some,pevP,pevR,getP,setP,look,PW.cs?,nthP,Option.bind_some,true_or,true_and,↓reduceIte,reduceCtorEq,Nat.reduceEqDiff,Bool.false_eq_true,Nat.add_zero,Bool.not_true,Bool.bne_false,Bool.bne_true,resPs])
 exact .refl ⟨_,rfl,rfl⟩
theorem wstr_ok (wc:List PV) (bs:List UInt8) (s:ByteArray) (hs:s.data.toList ≠ []) (hz:s.size < 2 ^ 36) (hb:bs.length < 2 ^ 36) (hwc:pureL wc=true) (π:PW) (h:BSt wc bs π):PToB C 2 57 [.ptr 1 0,.lit (.string s)] π fun r π'=>BSt wc (bs++s.data.toList) π':=by
 have hls:s.data.toList.length=s.size:=Array.length_toList
 have hne:s.size ≠ 0:=fun e=>hs (List.length_eq_zero_iff.1 (by omega))
 have b2:Nat.ble 2 2=true:=rfl
 have b3:Nat.ble 2 3=true:=rfl
 have b4:Nat.ble 2 4=true:=rfl
 have hr:∀ ρ,renL ρ wc=wc:=fun ρ=>renL_pure ρ _ hwc
 have q1:¬ s.size≤0:=by omega
 have q2:¬ 140737488355328 < 2 * s.size + 768:=by omega
 have q3:(s.size != 0)=true:=by simpa using hne
 rcases h with ⟨rfl,rfl⟩ | ⟨h0,rfl⟩
 ·have c1:=chk0 hm hC wc
  refine PToB.of_body hm hC (show Tryd.tab.get 57=some Tryd.c57 from rfl) ?_
  simp only [Tryd.c57,startP,List.length_cons,List.length_nil,Nat.reduceAdd,Nat.reduceSub,List.replicate,List.cons_append,List.nil_append]
  refine PRun.wpn rfl ?_
  simp only [wp,wo_nil,wo_p,onO_s,pv_int,pv_nilI,put_some,pevP,setP,resPs,resP]
  refine PRun.wpn rfl ?_
  simp only [wp,wo_p,wo_call,onO_s,pv_t,put_some,pevP,getP,setP,evsP]
  refine .refl ⟨Nat.le_of_ble_eq_true rfl,?_⟩
  refine PToE.mono (PToB.toE c1 rfl (Nat.le_refl 2)) ?_
  rintro r π' rfl
  refine POps.wp ?_
  simp only [wo_nil,setP]
  repeat (refine PRun.wpn rfl ?_;simp only [wp,wo_nil,wo_p,wo_r,wo_st,wo_append,beq_self_eq_true,onO_s,onE_s,ble_self,ble_succ,pv_t,pv_nilI,put_some,put_none,pevP,pevR,pevE,getP,setP,lenP,srcP,appendP,spliceP,overP,plainP,look,PW.cs?,PW.push,nthP,Option.map_some,Option.bind_some,or_true,Nat.mul_one,and_self,true_and,Bool.and_true,↓reduceIte,reduceCtorEq,Nat.reduceAdd,Nat.reduceEqDiff,Bool.false_eq_true,Nat.zero_add,allPlain,PW.wr,setO,killO,Bool.or_self,Bool.or_false,Bool.not_true,gt_iff_lt,Nat.le_refl,str_L8,plain_L8,q1,q2,bne_self_eq_false])
  exact .refl ⟨_,rfl,.inr ⟨hs,by unfold bst;rw [hls]⟩⟩
 ·have c1:=chk1 hm hC wc bs
  have hn0:bs.length ≠ 0:=fun e=>h0 (List.length_eq_zero_iff.1 e)
  have r1:¬ bs.length + s.size≤bs.length:=by omega
  have r2:¬ 140737488355328 < 2 * (bs.length + s.size) + 768:=by omega
  have r3:=cutB (L8_len bs)
  have r4:=L8_len bs
  refine PToB.of_body hm hC (show Tryd.tab.get 57=some Tryd.c57 from rfl) ?_
  simp only [Tryd.c57,startP,List.length_cons,List.length_nil,Nat.reduceAdd,Nat.reduceSub,List.replicate,List.cons_append,List.nil_append]
  refine PRun.wpn rfl ?_
  simp only [wp,wo_nil,wo_p,onO_s,pv_int,pv_nilI,put_some,pevP,setP,resPs,resP]
  refine PRun.wpn rfl ?_
  simp only [wp,wo_p,wo_call,onO_s,pv_t,put_some,pevP,getP,setP,evsP]
  refine .refl ⟨Nat.le_of_ble_eq_true rfl,?_⟩
  refine PToE.mono (PToB.toE c1 rfl (Nat.le_refl 2)) ?_
  rintro r π' rfl
  refine POps.wp ?_
  simp only [wo_nil,setP,bst]
  repeat (refine PRun.wpn rfl ?_;simp only [wp,wo_nil,wo_p,wo_r,wo_st,wo_append,beq_self_eq_true,onO_s,onE_s,ble_succ,pv_t,pv_nilI,put_some,put_none,pevP,pevR,pevE,getP,setP,lenP,srcP,appendP,spliceP,overP,plainP,look,PW.cs?,PW.push,nthP,List.drop_zero,Option.map_some,Option.bind_some,or_true,Nat.mul_one,and_self,true_and,Bool.and_true,↓reduceIte,reduceCtorEq,Nat.reduceAdd,Nat.reduceEqDiff,Bool.false_eq_true,Nat.zero_add,allPlain,PW.wr,setO,killO,Bool.or_self,Bool.not_true,gt_iff_lt,Nat.le_refl,b4,str_L8,plain_L8,r1,r2,r3,r4,bne_self_eq_false])
  refine Gh.mr (false::false::false::false::true::true::false::false::false::false::false::false::false::false::false::false::false::false::false::[]) [(0,0),(1,1),(3,2)] 3 rfl ?_
  refine ⟨_,rfl,.inr ⟨by simp [h0],?_⟩⟩
  simp only [↓reduceIte,reduceCtorEq,Nat.reduceEqDiff,renL,renP,renO,renH,renA,lkN,hr]
  rw [← L8_app,renL_L8]
  unfold bst
  rw [List.length_append,hls]
theorem wbyte_ok (wc:List PV) (bs:List UInt8) (c:UInt8) (hb:bs.length < 2 ^ 36) (hwc:pureL wc=true) (π:PW) (h:BSt wc bs π):PToB C 2 59 [.ptr 1 0,.lit (.int .u8 (c.toNat:Int))] π fun r π'=>BSt wc (bs++[c]) π':=by
 have b2:Nat.ble 2 2=true:=rfl
 have b3:Nat.ble 2 3=true:=rfl
 have b4:Nat.ble 2 4=true:=rfl
 have b5:Nat.ble 2 5=true:=rfl
 have hr:∀ ρ,renL ρ wc=wc:=fun ρ=>renL_pure ρ _ hwc
 rcases h with ⟨rfl,rfl⟩ | ⟨h0,rfl⟩
 ·have c1:=chk0 hm hC wc
  refine PToB.of_body hm hC (show Tryd.tab.get 59=some Tryd.c59 from rfl) ?_
  simp only [Tryd.c59,startP,List.length_cons,List.length_nil,Nat.reduceAdd,Nat.reduceSub,List.replicate,List.cons_append,List.nil_append]
  refine PRun.wpn rfl ?_
  simp only [wp,wo_nil,wo_p,onO_s,pv_nilI,put_some,pevP,setP,resPs,resP]
  refine PRun.wpn rfl ?_
  simp only [wp,wo_p,wo_call,onO_s,pv_t,put_some,pevP,getP,setP,evsP]
  refine .refl ⟨Nat.le_of_ble_eq_true rfl,?_⟩
  refine PToE.mono (PToB.toE c1 rfl (Nat.le_refl 2)) ?_
  rintro r π' rfl
  refine POps.wp ?_
  simp only [wo_nil,setP]
  repeat (refine PRun.wpn rfl ?_;simp only [wp,wo_nil,wo_p,wo_r,wo_n,wo_st,wo_append,beq_self_eq_true,onO_s,onN_s,onE_s,ble_self,ble_succ,pv_t,pv_nilI,ov_nil,ov_cons,ov_int,put_some,put_none,pevP,pevR,pevN,pevE,getP,setP,lenP,srcP,appendP,fillP,spliceP,overP,plainP,isCell,look,PW.cs?,PW.push,nthP,cut0,cutS,List.drop_zero,Option.map_some,Option.bind_some,or_true,Nat.mul_one,true_and,Bool.and_true,↓reduceIte,reduceCtorEq,ltL,lt,Nat.reduceAdd,Nat.reduceLeDiff,Nat.reduceLT,Nat.reduceEqDiff,Bool.false_eq_true,Nat.zero_add,allPlain,PW.wr,setO,killO,Bool.or_self,Bool.or_false,Bool.not_true,gt_iff_lt,b4,bne_self_eq_false])
  refine Gh.mr (false::false::false::false::true::false::false::false::false::false::false::false::false::false::false::false::false::[]) [(0,0),(1,1),(3,2)] 3 rfl ?_
  refine ⟨_,rfl,.inr ⟨by simp,?_⟩⟩
  simp only [↓reduceIte,reduceCtorEq,Nat.reduceEqDiff,renL,renP,renO,renH,renA,lkN,hr]
  rfl
 ·have c1:=chk1 hm hC wc bs
  have hn0:bs.length ≠ 0:=fun e=>h0 (List.length_eq_zero_iff.1 e)
  have r1:¬ bs.length + 1≤bs.length:=by omega
  have r2:¬ 140737488355328 < 2 * (bs.length + 1) + 768:=by omega
  have r3:=cutB (L8_len bs)
  have r4:=L8_len bs
  refine PToB.of_body hm hC (show Tryd.tab.get 59=some Tryd.c59 from rfl) ?_
  simp only [Tryd.c59,startP,List.length_cons,List.length_nil,Nat.reduceAdd,Nat.reduceSub,List.replicate,List.cons_append,List.nil_append]
  refine PRun.wpn rfl ?_
  simp only [wp,wo_nil,wo_p,onO_s,pv_nilI,put_some,pevP,setP,resPs,resP]
  refine PRun.wpn rfl ?_
  simp only [wp,wo_p,wo_call,onO_s,pv_t,put_some,pevP,getP,setP,evsP]
  refine .refl ⟨Nat.le_of_ble_eq_true rfl,?_⟩
  refine PToE.mono (PToB.toE c1 rfl (Nat.le_refl 2)) ?_
  rintro r π' rfl
  refine POps.wp ?_
  simp only [wo_nil,setP,bst]
  repeat (refine PRun.wpn rfl ?_;simp only [wp,wo_nil,wo_p,wo_r,wo_n,wo_st,wo_append,beq_self_eq_true,onO_s,onN_s,onE_s,ble_succ,pv_t,pv_nilI,ov_nil,ov_cons,ov_int,put_some,put_none,pevP,pevR,pevN,pevE,getP,setP,lenP,srcP,appendP,fillP,spliceP,overP,plainP,isCell,look,PW.cs?,PW.push,nthP,cut0,cutS,List.drop_zero,Option.map_some,Option.bind_some,or_true,Nat.mul_one,true_and,Bool.and_true,↓reduceIte,reduceCtorEq,ltL,lt,Nat.reduceAdd,Nat.reduceEqDiff,Bool.false_eq_true,Nat.zero_add,allPlain,PW.wr,setO,killO,Bool.or_self,Bool.not_true,gt_iff_lt,b4,b5,r1,r2,r3,r4,bne_self_eq_false])
  refine Gh.mr (false::false::false::false::true::false::false::false::false::false::false::false::false::false::false::false::false::[]) [(0,0),(1,1),(4,2)] 3 rfl ?_
  refine ⟨_,rfl,.inr ⟨by simp,?_⟩⟩
  simp only [↓reduceIte,reduceCtorEq,Nat.reduceEqDiff,renL,renP,renO,renH,renA,lkN,hr]
  rw [show L8 bs++[PV.lit (.int .u8 (c.toNat:Int))]=L8 (bs++[c]) by rw [L8_app];rfl,renL_L8]
  unfold bst
  rw [List.length_append];rfl
end
end Go.Proofs.YtkldgoapompinaaDoor.Ai
namespace Go.Proofs.YtkldgoapompinaaDoor.Ai
open Go
set_option linter.unusedVariables false
set_option linter.unusedSectionVars false
set_option maxRecDepth 10000
set_option maxHeartbeats 1000000
def numL:Nat→Nat→List UInt8→Nat × Nat
 | v,n,[]=>(v,n)
 | v,n,c::l=>if 48≤c.toNat∧c.toNat≤57 then (if (0 < n∧v=0)∨65535 < 10 * v + (c.toNat - 48) then (v,n) else numL (10 * v + (c.toNat - 48)) (n + 1) l) else (v,n)
theorem numL_le:∀ (l:List UInt8) (v n:Nat),v≤65535→(numL v n l).1≤65535∧(numL v n l).2≤n + l.length
 | [],v,n,h=>by simp [numL,h]
 | c::l,v,n,h=>by
  unfold numL
  split
  ·split
   ·exact ⟨h,by simp only [List.length_cons];omega⟩
   ·have:=numL_le l (10 * v + (c.toNat - 48)) (n + 1) (by omega)
    simp only [List.length_cons];omega
  ·exact ⟨h,by simp only [List.length_cons];omega⟩
theorem data_drop {s:ByteArray} {i:Nat} (h:i < s.size):s.data.toList.drop i=s[i]::s.data.toList.drop (i + 1):=by
 have hl:i < s.data.toList.length:=by rw [Array.length_toList];exact h
 rw [List.drop_eq_getElem_cons hl]
 congr 1
section
variable {C:Ctx} (hm:C.P.follows .mixedOrders=true) (hC:TabOK C.P C.ng C.ts Tryd.tab)
include hm hC
theorem number_ok (s:ByteArray) (hs:s.size < 2 ^ 50):PFun C 81 [.lit (.string s)] (.tup [.lit (.int .u16 ((numL 0 0 s.data.toList).1:Nat)),.lit (.int .i64 ((numL 0 0 s.data.toList).2:Nat))]):=by
 have hls:s.data.toList.length=s.size:=Array.length_toList
 refine PFun.body hm hC (show Tryd.tab.get 81=some Tryd.c81 from rfl) rfl ?_
 simp only [Tryd.c81,startP,List.length_cons,List.length_nil,Nat.reduceAdd,Nat.reduceSub,List.replicate,List.cons_append,List.nil_append]
 repeat (refine PRun.wpn rfl ?_;simp only [wp,wo_nil,wo_p,onO_s,pv_int,put_some,pevP,setP,PW.none,reduceCtorEq,resPs,resP,tupP])
 refine PRun.gh (Gh.mask (true::false::false::false::true::true::false::false::false::false::false::false::false::false::false::false::false::false::false::false::false::false::false::false::false::false::false::false::false::false::false::false::false::false::false::false::false::false::false::false::false::false::false::false::false::false::false::[]) ?_)
 simp only [↓reduceIte,Bool.false_eq_true,maskP]
 refine PRun.loopG (fun m t π=>∃ (i v:Nat),t=(.lit (.string s)::.junk::.junk::.junk::.lit (.int .i64 (v:Nat))::.lit (.int .i64 (i:Nat))::.junk::.junk::.junk::.junk::.junk::.junk::.junk::.junk::.junk::.junk::.junk::.junk::.junk::.junk::.junk::.junk::.junk::.junk::.junk::.junk::.junk::.junk::.junk::.junk::.junk::.junk::.junk::.junk::.junk::.junk::.junk::.junk::.junk::.junk::.junk::.junk::.junk::.junk::.junk::.junk::.junk::[])∧i≤s.size∧m=s.size - i∧v≤65535∧numL 0 0 s.data.toList=numL v i (s.data.toList.drop i)∧π=⟨0,[]⟩) ?_ s.size _ _ ⟨0,0,rfl,by omega,rfl,by omega,by simp,rfl⟩
 rintro m t π ⟨i,v,rfl,hi,rfl,hv,hn,rfl⟩
 have hu:IntKind.u16.wrap ((v:Nat):Int)=((v:Nat):Int):=Int.emod_eq_of_lt (by omega) (by simp only [IntKind.bits];omega)
 have done:numL v i (s.data.toList.drop i)=(v,i)→(numL 0 0 s.data.toList).1=v∧(numL 0 0 s.data.toList).2=i:=fun h=>by rw [hn,h];exact ⟨rfl,rfl⟩
 by_cases hlt:(i:Int) < (s.size:Nat)
 ·have hil:i < s.size:=by omega
  have hc:=idx_some hil
  have hd:=data_drop hil
  generalize s[i]=c at hc hd
  have hcb:=c.toNat_lt
  rw [hd] at hn done
  by_cases c1:(48:Int)≤((c.toNat:Nat):Int)
  ·by_cases c2:((c.toNat:Nat):Int)≤57
   ·have hdg:48≤c.toNat∧c.toNat≤57:=by omega
    have w1:IntKind.u8.wrap (((c.toNat:Nat):Int) - 48)=((c.toNat - 48:Nat):Int):=by rw [show ((c.toNat:Nat):Int) - 48=((c.toNat - 48:Nat):Int) by omega];exact Int.emod_eq_of_lt (by omega) (by simp only [IntKind.bits];omega)
    have w2:IntKind.i64.wrap ((c.toNat - 48:Nat):Int)=((c.toNat - 48:Nat):Int):=wrap64 (by omega) (by omega)
    have w3:IntKind.i64.wrap (10 * ((v:Nat):Int))=((10 * v:Nat):Int):=by rw [wrap64 (by omega) (by omega)];omega
    have w4:IntKind.i64.wrap (((10 * v:Nat):Int) + ((c.toNat - 48:Nat):Int))=((10 * v + (c.toNat - 48):Nat):Int):=by rw [wrap64 (by omega) (by omega)];omega
    have w5:IntKind.i64.wrap (((i:Nat):Int) + 1)=((i + 1:Nat):Int):=by rw [wrap64 (by omega) (by omega)];omega
    by_cases b1:(0 < i∧v=0)
    ·obtain ⟨e1,e2⟩:=done (by simp only [numL];rw [if_pos hdg,if_pos (.inl b1)])
     rw [e1,e2]
     repeat (refine PRun.wpn rfl ?_;simp only [wp,wo_nil,wo_p,wo_g,beq_self_eq_true,onO_s,onG_t,onG_f,wanted_g,wantB_b,b_tf,pv_t,pv_int,pv_bool,put_some,bi_add,bi_sub,bi_mul,bi_eql,bi_lss,bi_leq,bi_gtr,bi_geq,pevP,getP,setP,Option.map_some,or_true,Int.natCast_nonneg,Int.toNat_natCast,true_and,↓reduceIte,reduceCtorEq,ltB_t hlt,hc,leB_t c1,leB_t c2,w1,w2,w3,w4,ltB_t (show (0:Int) < (i:Nat) by omega),eqB_t (show ((v:Nat):Int)=0 by omega),hu])
     exact .refl ⟨_,rfl,.refl _⟩
    ·by_cases b2:(65535:Int) < ((10 * v + (c.toNat - 48):Nat):Int)
     ·obtain ⟨e1,e2⟩:=done (by simp only [numL];rw [if_pos hdg,if_pos (.inr (by omega))])
      rw [e1,e2]
      by_cases b3:(0:Int) < (i:Nat)
      ·repeat (refine PRun.wpn rfl ?_;simp only [wp,wo_nil,wo_p,wo_g,beq_self_eq_true,onO_s,onG_t,wanted_g,wantB_b,pv_t,pv_int,put_some,bi_add,bi_sub,bi_mul,bi_eql,bi_lss,bi_leq,bi_gtr,bi_geq,pevP,getP,setP,Option.map_some,or_true,Int.natCast_nonneg,Int.toNat_natCast,true_and,↓reduceIte,reduceCtorEq,ltB_t hlt,hc,leB_t c1,leB_t c2,w1,w2,w3,w4,ltB_t b3,eqB_f (show ¬ ((v:Nat):Int)=0 by omega),ltB_t b2,hu])
       exact .refl ⟨_,rfl,.refl _⟩
      ·repeat (refine PRun.wpn rfl ?_;simp only [wp,wo_nil,wo_p,wo_g,beq_self_eq_true,onO_s,onG_t,onG_f,wanted_g,wantB_b,b_ft,pv_t,pv_int,pv_bool,put_some,bi_add,bi_sub,bi_mul,bi_lss,bi_leq,bi_gtr,bi_geq,pevP,getP,setP,Option.map_some,or_true,Int.natCast_nonneg,Int.toNat_natCast,true_and,↓reduceIte,reduceCtorEq,ltB_t hlt,hc,leB_t c1,leB_t c2,w1,w2,w3,w4,ltB_f b3,ltB_t b2,hu])
       exact .refl ⟨_,rfl,.refl _⟩
     ·have e:numL v i (c::s.data.toList.drop (i + 1))=numL (10 * v + (c.toNat - 48)) (i + 1) (s.data.toList.drop (i + 1)):=by
       simp only [numL];rw [if_pos hdg,if_neg (by omega)]
      rw [e] at hn
      by_cases b3:(0:Int) < (i:Nat)
      ·repeat (refine PRun.wpn rfl ?_;simp only [wp,wo_nil,wo_p,wo_g,beq_self_eq_true,onO_s,onG_t,wanted_g,wantB_b,pv_t,pv_int,put_some,bi_add,bi_sub,bi_mul,bi_eql,bi_lss,bi_leq,bi_gtr,bi_geq,pevP,getP,setP,Option.map_some,Int.natCast_nonneg,Int.toNat_natCast,↓reduceIte,Bool.false_eq_true,ltB_t hlt,hc,leB_t c1,leB_t c2,w1,w2,w3,w4,ltB_t b3,eqB_f (show ¬ ((v:Nat):Int)=0 by omega),ltB_f b2,w5])
       refine Gh.mask (true::false::false::false::true::true::false::false::false::false::false::false::false::false::false::false::false::false::false::false::false::false::false::false::false::false::false::false::false::false::false::false::false::false::false::false::false::false::false::false::false::false::false::false::false::false::false::[]) ?_
       exact ⟨s.size - (i + 1),by omega,i + 1,10 * v + (c.toNat - 48),rfl,by omega,rfl,by omega,hn,rfl⟩
      ·repeat (refine PRun.wpn rfl ?_;simp only [wp,wo_nil,wo_p,wo_g,beq_self_eq_true,onO_s,onG_t,onG_f,wanted_g,wantB_b,b_ft,pv_t,pv_int,pv_bool,put_some,bi_add,bi_sub,bi_mul,bi_lss,bi_leq,bi_gtr,bi_geq,pevP,getP,setP,Option.map_some,Int.natCast_nonneg,Int.toNat_natCast,↓reduceIte,Bool.false_eq_true,ltB_t hlt,hc,leB_t c1,leB_t c2,w1,w2,w3,w4,ltB_f b3,ltB_f b2,w5])
       refine Gh.mask (true::false::false::false::true::true::false::false::false::false::false::false::false::false::false::false::false::false::false::false::false::false::false::false::false::false::false::false::false::false::false::false::false::false::false::false::false::false::false::false::false::false::false::false::false::false::false::[]) ?_
       exact ⟨s.size - (i + 1),by omega,i + 1,10 * v + (c.toNat - 48),rfl,by omega,rfl,by omega,hn,rfl⟩
   ·obtain ⟨e1,e2⟩:=done (by simp only [numL];rw [if_neg (by omega)])
    rw [e1,e2]
    repeat (refine PRun.wpn rfl ?_;simp only [wp,wo_nil,wo_p,wo_g,beq_self_eq_true,onO_s,onG_t,wanted_g,wantB_b,pv_t,pv_int,put_some,bi_lss,bi_leq,bi_geq,pevP,getP,setP,Option.map_some,or_true,Int.natCast_nonneg,Int.toNat_natCast,true_and,↓reduceIte,reduceCtorEq,Bool.false_eq_true,ltB_t hlt,hc,leB_t c1,leB_f c2,hu])
    exact .refl ⟨_,rfl,.refl _⟩
  ·obtain ⟨e1,e2⟩:=done (by simp only [numL];rw [if_neg (by omega)])
   rw [e1,e2]
   repeat (refine PRun.wpn rfl ?_;simp only [wp,wo_nil,wo_p,wo_g,beq_self_eq_true,onO_s,onG_t,onG_f,wanted_g,wantB_b,b_ft,pv_t,pv_int,pv_bool,put_some,bi_lss,bi_geq,pevP,getP,setP,Option.map_some,or_true,Int.natCast_nonneg,Int.toNat_natCast,true_and,↓reduceIte,reduceCtorEq,Bool.false_eq_true,ltB_t hlt,hc,leB_f c1,hu])
   exact .refl ⟨_,rfl,.refl _⟩
 ·obtain ⟨e1,e2⟩:=done (by rw [List.drop_of_length_le (by omega)];rfl)
  rw [e1,e2]
  repeat (refine PRun.wpn rfl ?_;simp only [wp,wo_nil,wo_p,wo_g,onO_s,onG_f,wanted_g,wantB_b,b_ft,pv_t,pv_bool,put_some,bi_lss,pevP,getP,setP,Option.map_some,or_true,true_and,↓reduceIte,reduceCtorEq,Bool.false_eq_true,ltB_f hlt,hu])
  exact .refl ⟨_,rfl,.refl _⟩
end
end Go.Proofs.YtkldgoapompinaaDoor.Ai
namespace Go.Proofs.YtkldgoapompinaaDoor.Ai
open Go
set_option linter.unusedVariables false
set_option linter.unusedSectionVars false
set_option maxRecDepth 10000
set_option maxHeartbeats 1000000
theorem PDE.sdata {C:Ctx} {b:Nat} {l:List IOper} {fin:DStage} {st:List DStage} {S:List Nat} {e:List PV} {π:PW} {Q:List PV→PW→Prop} {x:Opd} {d:Option Nat} {i off n c:Nat} (hx:x.pv C.G e = .loc i off n c) (hc:c ≠ 0)
  (h:PDraw C b l fin st (S.filter (freeJ l d)) (putP e d (.ptr i off)) π Q):PDE C b l fin st S (.sdata x) d e π Q:=by
 intro F I η σ env hG hs hr hy
 have hv:=rd_opd (hG.any η) hr x
 rw [hx] at hv
 simp only [Rd] at hv
 obtain ⟨ai,hai,hxe⟩:=hv
 obtain ⟨M,env',σ',I',η',e',π',k1,k2,k3,k4,k5⟩:=h F I η σ (put env d (.pointer (some ⟨ai,off,none⟩))) hG hs (rdL_putP hr _ (by simp only [Rd];exact ⟨ai,hai,rfl⟩)) (hy.put d _)
 refine ⟨M,_,σ,env',σ',I',η',e',π',k1,k2,?_,k3,k4,k5⟩
 simp only [runE,hxe]
 rw [if_neg hc]
noncomputable def digs (itS:Nat→ByteArray) (n:Nat):List UInt8:=(itS n).data.toList
noncomputable def outS (itS:Nat→ByteArray):List Nat→List UInt8
 | []=>[]
 | n::l=>digs itS n++[32]++outS itS l
noncomputable def oL (itS:Nat→ByteArray):Bool→List Nat→List UInt8
 | _,[]=>[]
 | f,n::l=>(if f=true then [] else [32])++digs itS n++oL itS false l
theorem outS_snoc (itS:Nat→ByteArray) (n:Nat):∀ l:List Nat,outS itS (l++[n])=outS itS l++(digs itS n++[32])
 | []=>by simp [outS]
 | m::l=>by simp [outS,outS_snoc itS n l]
theorem oL_snoc (itS:Nat→ByteArray) (n:Nat):∀ (f:Bool) (l:List Nat),oL itS f (l++[n])=oL itS f l++((if f=true∧l=[] then [] else [32])++digs itS n)
 | f,[]=>by cases f <;> simp [oL]
 | f,m::l=>by simp [oL,oL_snoc itS n false l]
theorem ba_append_size' (a b:ByteArray):(a++b).size=a.size + b.size:=by simp
theorem ba_app_list (a b:ByteArray):(a++b).data.toList=a.data.toList++b.data.toList:=by rw [ByteArray.data_append,Array.toList_append]
section
variable {C:Ctx} (hm:C.P.follows .mixedOrders=true) (hC:TabOK C.P C.ng C.ts Tryd.tab)
include hm hC
theorem strb_ok (wc:List PV) (bs:List UInt8) (h0:bs ≠ []) (hb:bs.length < 2 ^ 40):PToB C 2 60 [.ptr 1 0] (bst wc bs) fun r π'=>r = .lit (.string ⟨⟨bs⟩⟩):=by
 have hn0:bs.length ≠ 0:=fun e=>h0 (List.length_eq_zero_iff.1 e)
 have b3:Nat.ble 2 3=true:=rfl
 have r1:¬ ((bs.length:Nat):Int)=0:=by omega
 have r2:¬ (((bs.length:Nat):Int) < 0∨((bs.length:Nat):Int) > 140737488355328):=by omega
 have r3:=cutB (L8_len bs)
 have r4:=bytes_L8 bs
 refine PToB.of_body hm hC (show Tryd.tab.get 60=some Tryd.c60 from rfl) ?_
 simp only [Tryd.c60,startP,List.length_cons,List.length_nil,Nat.reduceAdd,Nat.reduceSub,List.replicate,List.cons_append,List.nil_append,bst]
 repeat (refine PRun.wpn rfl ?_;simp only [wp,wo_nil,wo_p,onO_s,pv_str,put_some,pevP,setP,resPs,resP,tupP])
 refine PDraw.stage (Nat.le_of_ble_eq_true rfl) rfl ?_
 try dsimp only
 simp only [onX_s,onXI_s,rdX_e,ltN,ltD_s,onD_s,wx_nil,wx_cons,wx_p,wx_r,wd_cons,wd_e,pv_t,put_some,pevP,pevR,getP,setP,nthO,look,PW.cs?,nthP,baseP,ROp.base,List.length_cons,List.length_nil,Option.bind_some,Bool.and_true,↓reduceIte,Nat.reduceAdd,Nat.reduceEqDiff,Option.isSome_some,Nat.zero_add,List.length_cons,List.length_nil]
 refine PDE.sdata rfl hn0 ?_
 refine PDraw.stage (Nat.le_of_ble_eq_true rfl) rfl ?_
 try dsimp only
 simp only [onD_s,wx_nil,wd_cons,wd_e,put_some,setP,nthO]
 refine PDE.ev (Nat.le_of_ble_eq_true rfl) ?_
 simp only [pv_t,put_some,onDE_s,pevE,getP,setP,look,List.drop_zero,Option.map_some,Option.bind_some,Int.toNat_natCast,↓reduceIte,Bool.false_eq_true,killO,Bool.or_self,gt_iff_lt,r1,r2,r3,r4,bne_self_eq_false]
 refine PDraw.last (Nat.le_of_ble_eq_true rfl) rfl ?_
 try dsimp only
 simp only [onX_s,onXI_s,wx_nil,wx_cons,wx_p,pv_t,put_some,pevP,getP,setP,nthO]
 repeat (refine PRun.wpn rfl ?_;simp only [wp,or_true,true_and,reduceCtorEq])
 exact .refl ⟨_,rfl,rfl⟩
theorem show_ok {itS:Nat→ByteArray} (hI:∀ i:Nat,i < 2 ^ 40→PFun C 58 [.lit (.int .i64 (i:Nat))] (.lit (.string (itS i)))) (hIs:∀ i:Nat,i < 2 ^ 40→(itS i).size≤20) (hIn:∀ i:Nat,i < 2 ^ 40→digs itS i ≠ [])
  (stem loop:List Nat) (hl:loop ≠ []) (h1:stem.length < 2 ^ 28) (h2:loop.length < 2 ^ 28) (b1:∀ n∈stem,n < 65536) (b2:∀ n∈loop,n < 65536) :
  PFun C 34 [.agg [.sz (N16 stem) stem.length,.sz (N16 loop) loop.length]] (.lit (.string ⟨⟨outS itS stem++[40]++oL itS true loop++[41]⟩⟩)):=by
 have hdl:∀ n,n < 65536→(digs itS n).length≤20:=fun n hn=>by
  have:=hIs n (by omega)
  unfold digs
  rw [show (itS n).data.toList.length=(itS n).size from Array.length_toList];exact this
 have lenS:∀ l:List Nat,(∀ n∈l,n < 65536)→(outS itS l).length≤21 * l.length:=by
  intro l hb
  induction l with
  | nil=>simp [outS]
  | cons n l ih=>
   have:=hdl n (hb n (by simp))
   have:=ih (fun m hm=>hb m (by simp [hm]))
   simp only [outS,List.length_append,List.length_cons,List.length_nil];omega
 have lenL:∀ (l:List Nat) (f:Bool),(∀ n∈l,n < 65536)→(oL itS f l).length≤21 * l.length:=by
  intro l
  induction l with
  | nil=>intro f hb;simp [oL]
  | cons n l ih=>
   intro f hb
   have:=hdl n (hb n (by simp))
   have:=ih false (fun m hm=>hb m (by simp [hm]))
   have:(if f=true then ([]:List UInt8) else [32]).length≤1:=by split <;> simp
   simp only [oL,List.length_append,List.length_cons];omega
 have hl0:¬ ((loop.length:Nat):Int)=0:=by
  have:loop.length ≠ 0:=fun e=>hl (List.length_eq_zero_iff.1 e)
  omega
 have hwc:pureL [PV.sz (N16 stem) stem.length,PV.sz (N16 loop) loop.length]=true:=rfl
 refine PFun.body hm hC (show Tryd.tab.get 34=some Tryd.c34 from rfl) rfl ?_
 simp only [Tryd.c34,startP,List.length_cons,List.length_nil,Nat.reduceAdd,Nat.reduceSub,List.replicate,List.cons_append,List.nil_append]
 repeat (refine PRun.wpn rfl ?_;simp only [wp,wo_nil,wo_p,wo_r,wo_n,onO_s,onN_s,ble_self,ble_succ,pv_t,pv_int,pv_str,ov_nil,ov_cons,ov_nilS,ov_nilP,put_some,bi_eql,pevP,pevR,pevN,getP,setP,boxP,look,PW.cs?,PW.push,PW.none,nthP,Option.map_some,Option.bind_some,Bool.and_true,↓reduceIte,reduceCtorEq,ltL,lt,Nat.reduceAdd,Bool.false_eq_true,Nat.add_zero,Nat.zero_add,resPs,resP,tupP,eqB_f hl0])
 refine PRun.gh (Gh.mask (false::true::false::true::false::false::false::false::false::false::false::false::false::true::true::true::false::false::false::false::false::false::false::false::false::false::false::false::false::false::false::false::false::false::false::false::false::false::false::false::false::false::false::false::[]) ?_)
 simp only [↓reduceIte,Bool.false_eq_true,maskP]
 refine PRun.loopG (fun m t π=>∃ i:Nat,t=(.junk::.ptr 0 0::.junk::.ptr 1 0::.junk::.junk::.junk::.junk::.junk::.junk::.junk::.junk::.junk::.sz (N16 stem) stem.length::.lit (.int .i64 (stem.length:Nat))::.lit (.int .i64 (i:Nat))::.junk::.junk::.junk::.junk::.junk::.junk::.junk::.junk::.junk::.junk::.junk::.junk::.junk::.junk::.junk::.junk::.junk::.junk::.junk::.junk::.junk::.junk::.junk::.junk::.junk::.junk::.junk::.junk::[])∧i≤stem.length∧m=stem.length - i∧BSt [.sz (N16 stem) stem.length,.sz (N16 loop) loop.length] (outS itS (stem.take i)) π) ?_ stem.length _ _ ⟨0,rfl,by omega,rfl,.inl ⟨rfl,rfl⟩⟩
 rintro m t π ⟨i,rfl,hi,rfl,hπ⟩
 by_cases hlt:(i:Int) < (stem.length:Nat)
 ·obtain ⟨n,hn⟩:∃ n,stem[i]? = some n:=⟨stem[i]'(by omega),List.getElem?_eq_getElem (by omega)⟩
  have hcut:=N16_at hn
  have hnb:=b1 n (List.mem_of_getElem? hn)
  have w1:IntKind.i64.wrap ((n:Nat):Int)=((n:Nat):Int):=wrap64 (by omega) (by omega)
  have w2:IntKind.i64.wrap (((i:Nat):Int) + 1)=((i + 1:Nat):Int):=by rw [wrap64 (by omega) (by omega)];omega
  have hit:=hI n (by omega)
  have hsz:=hIs n (by omega)
  have hsz1:(⟨#[32]⟩:ByteArray).size=1:=rfl
  have a1:(itS n).size + (⟨#[32]⟩:ByteArray).size < 9223372036854775808:=by omega
  have hbl:=lenS (stem.take i) (fun m hm=>b1 m (List.mem_of_mem_take hm))
  have htl:(stem.take i).length≤stem.length:=by rw [List.length_take];omega
  have hw:=wstr_ok hm hC _ (outS itS (stem.take i)) (itS n++⟨#[32]⟩) (by rw [ba_app_list];simp) (by rw [ba_append_size'];omega) (by omega) hwc π hπ
  rw [ba_app_list,show (⟨#[32]⟩:ByteArray).data.toList=[32] from rfl,show (itS n).data.toList=digs itS n from rfl,← outS_snoc,show stem.take i++[n]=stem.take (i + 1) by rw [List.take_add_one,hn];rfl] at hw
  repeat (refine PRun.wpn rfl ?_;simp only [wp,wo_nil,wo_p,wo_r,wo_call,onO_s,pv_t,put_some,bi_lss,pevP,pevR,getP,setP,evsP,Option.map_some,Nat.zero_le,Nat.mul_one,Int.natCast_nonneg,Int.toNat_natCast,and_self,true_and,↓reduceIte,ltB_t hlt,hlt,hcut,w1])
  refine .refl (PFun.to (hit) rfl (POps.wp ?_))
  simp only [wo_p,wo_call,onO_s,pv_t,pv_str,put_some,pevP,getP,setP,evsP,Option.map_some,Nat.zero_le,true_and,bi_addS a1]
  refine .refl (PToE.mono (PToB.toE hw rfl (Nat.zero_le _)) ?_)
  rintro r π' hπ'
  refine POps.wp ?_
  simp only [wo_nil,setP]
  repeat (refine PRun.wpn rfl ?_;simp only [wp,wo_nil,wo_p,onO_s,pv_t,pv_int,put_some,bi_add,pevP,getP,setP,Option.map_some,w2])
  refine Gh.mask (false::true::false::true::false::false::false::false::false::false::false::false::false::true::true::true::false::false::false::false::false::false::false::false::false::false::false::false::false::false::false::false::false::false::false::false::false::false::false::false::false::false::false::false::[]) ?_
  exact ⟨stem.length - (i + 1),by omega,i + 1,rfl,by omega,rfl,hπ'⟩
 ·have hil:i=stem.length:=by omega
  subst hil
  rw [List.take_length] at hπ
  have hbl:=lenS stem b1
  have hw:=wbyte_ok hm hC _ (outS itS stem) 40 (by omega) hwc π hπ
  rw [show ((40:UInt8).toNat:Int)=40 from rfl] at hw
  repeat (refine PRun.wpn rfl ?_;simp only [wp,wo_nil,wo_p,wo_call,onO_s,pv_t,pv_int,put_some,bi_lss,pevP,getP,setP,evsP,Option.map_some,Nat.zero_le,true_and,↓reduceIte,Bool.false_eq_true,ltB_f hlt])
  refine .refl (PToE.mono (PToB.toE hw rfl (Nat.zero_le _)) ?_)
  rintro r π' (⟨h0,_⟩ | ⟨_,rfl⟩)
  ·simp at h0
  refine POps.wp ?_
  simp only [wo_nil,setP,bst]
  repeat (refine PRun.wpn rfl ?_;simp only [wp,wo_nil,wo_p,wo_r,onO_s,pv_t,pv_int,put_some,pevP,pevR,getP,setP,look,PW.cs?,nthP,Option.bind_some,↓reduceIte,reduceCtorEq,Nat.zero_add])
  refine PRun.gh (Gh.mask (false::false::false::true::false::false::false::false::false::false::false::false::false::false::false::false::false::false::false::false::false::false::false::false::false::false::false::true::true::true::false::false::false::false::false::false::false::false::false::false::false::false::false::false::[]) ?_)
  simp only [↓reduceIte,Bool.false_eq_true,maskP]
  refine PRun.loopG (fun m t π=>∃ i:Nat,t=(.junk::.junk::.junk::.ptr 1 0::.junk::.junk::.junk::.junk::.junk::.junk::.junk::.junk::.junk::.junk::.junk::.junk::.junk::.junk::.junk::.junk::.junk::.junk::.junk::.junk::.junk::.junk::.junk::.sz (N16 loop) loop.length::.lit (.int .i64 (loop.length:Nat))::.lit (.int .i64 (i:Nat))::.junk::.junk::.junk::.junk::.junk::.junk::.junk::.junk::.junk::.junk::.junk::.junk::.junk::.junk::[])∧i≤loop.length∧m=loop.length - i∧BSt [.sz (N16 stem) stem.length,.sz (N16 loop) loop.length] (outS itS stem++[40]++oL itS true (loop.take i)) π) ?_ loop.length _ _ ⟨0,rfl,by omega,rfl,.inr ⟨by simp,by simp only [List.take_zero,oL,List.append_nil];rfl⟩⟩
  rintro m t π ⟨i,rfl,hi,rfl,hπ⟩
  have hbl2:=lenL (loop.take i) true (fun m hm=>b2 m (List.mem_of_mem_take hm))
  have htl:(loop.take i).length≤loop.length:=by rw [List.length_take];omega
  by_cases hlt:(i:Int) < (loop.length:Nat)
  ·obtain ⟨n,hn⟩:∃ n,loop[i]? = some n:=⟨loop[i]'(by omega),List.getElem?_eq_getElem (by omega)⟩
   have hcut:=N16_at hn
   have hnb:=b2 n (List.mem_of_getElem? hn)
   have w1:IntKind.i64.wrap ((n:Nat):Int)=((n:Nat):Int):=wrap64 (by omega) (by omega)
   have w2:IntKind.i64.wrap (((i:Nat):Int) + 1)=((i + 1:Nat):Int):=by rw [wrap64 (by omega) (by omega)];omega
   have hit:=hI n (by omega)
   have hsz:=hIs n (by omega)
   have hne:=hIn n (by omega)
   have htk:loop.take (i + 1)=loop.take i++[n]:=by rw [List.take_add_one,hn];rfl
   by_cases hi0:i=0
   ·have hw:=wstr_ok hm hC _ (outS itS stem++[40]++oL itS true (loop.take i)) (itS n) hne (by omega) (by simp only [List.length_append,List.length_cons,List.length_nil];omega) hwc π hπ
    rw [show (itS n).data.toList=digs itS n from rfl,show outS itS stem++[40]++oL itS true (loop.take i)++digs itS n=outS itS stem++[40]++oL itS true (loop.take (i + 1)) by rw [htk,oL_snoc,hi0];simp [oL]] at hw
    repeat (refine PRun.wpn rfl ?_;simp only [wp,wo_nil,wo_p,wo_r,wo_call,onO_s,pv_t,pv_int,put_some,bi_lss,bi_gtr,pevP,pevR,getP,setP,evsP,Option.map_some,Nat.zero_le,Nat.mul_one,Int.natCast_nonneg,Int.toNat_natCast,and_self,true_and,↓reduceIte,Bool.false_eq_true,ltB_t hlt,hlt,hcut,w1,ltB_f (show ¬ (0:Int) < ((i:Nat):Int) by omega)])
    refine .refl (PFun.to (hit) rfl (POps.wp ?_))
    simp only [wo_call,pv_t,put_some,setP,evsP,Nat.zero_le,true_and]
    refine .refl (PToE.mono (PToB.toE hw rfl (Nat.zero_le _)) ?_)
    rintro r π' hπ'
    refine POps.wp ?_
    simp only [wo_nil,setP]
    repeat (refine PRun.wpn rfl ?_;simp only [wp,wo_nil,wo_p,onO_s,pv_t,pv_int,put_some,bi_add,pevP,getP,setP,Option.map_some,w2])
    refine Gh.mask (false::false::false::true::false::false::false::false::false::false::false::false::false::false::false::false::false::false::false::false::false::false::false::false::false::false::false::true::true::true::false::false::false::false::false::false::false::false::false::false::false::false::false::false::[]) ?_
    exact ⟨loop.length - (i + 1),by omega,i + 1,rfl,by omega,rfl,hπ'⟩
   ·have hw0:=wbyte_ok hm hC _ (outS itS stem++[40]++oL itS true (loop.take i)) 32 (by simp only [List.length_append,List.length_cons,List.length_nil];omega) hwc π hπ
    rw [show ((32:UInt8).toNat:Int)=32 from rfl] at hw0
    have hnil:¬ (loop.take i=[]):=fun e=>by
     have h3:(loop.take i).length=i:=by rw [List.length_take];omega
     rw [e] at h3
     exact hi0 h3.symm
    have hw:=fun π' hπ'=>wstr_ok hm hC _ (outS itS stem++[40]++oL itS true (loop.take i)++[32]) (itS n) hne (by omega) (by simp only [List.length_append,List.length_cons,List.length_nil];omega) hwc π' hπ'
    rw [show (itS n).data.toList=digs itS n from rfl,show outS itS stem++[40]++oL itS true (loop.take i)++[32]++digs itS n=outS itS stem++[40]++oL itS true (loop.take (i + 1)) by rw [htk,oL_snoc];simp [hnil]] at hw
    repeat (refine PRun.wpn rfl ?_;simp only [wp,wo_nil,wo_p,wo_r,wo_call,onO_s,pv_t,pv_int,put_some,bi_lss,bi_gtr,pevP,pevR,getP,setP,evsP,Option.map_some,Nat.zero_le,Nat.mul_one,Int.natCast_nonneg,Int.toNat_natCast,and_self,true_and,↓reduceIte,ltB_t hlt,hlt,hcut,ltB_t (show (0:Int) < ((i:Nat):Int) by omega)])
    refine .refl (PToE.mono (PToB.toE hw0 rfl (Nat.zero_le _)) ?_)
    rintro r π' hπ'
    refine POps.wp ?_
    simp only [wo_nil,setP]
    refine PRun.gh (Gh.mask (false::false::false::true::false::false::false::true::false::false::false::false::false::false::false::false::false::false::false::false::false::false::false::false::false::false::false::true::true::true::false::false::false::false::false::false::false::false::false::false::false::false::false::false::[]) ?_)
    simp only [↓reduceIte,Bool.false_eq_true,maskP]
    repeat (refine PRun.wpn rfl ?_;simp only [wp,wo_p,wo_call,onO_s,pv_t,put_some,pevP,getP,setP,evsP,Nat.zero_le,true_and,w1])
    refine .refl (PFun.to (hit) rfl (POps.wp ?_))
    simp only [wo_call,pv_t,put_some,setP,evsP,Nat.zero_le,true_and]
    refine .refl (PToE.mono (PToB.toE (hw _ hπ') rfl (Nat.zero_le _)) ?_)
    rintro r π' hπ'
    refine POps.wp ?_
    simp only [wo_nil,setP]
    repeat (refine PRun.wpn rfl ?_;simp only [wp,wo_nil,wo_p,onO_s,pv_t,pv_int,put_some,bi_add,pevP,getP,setP,Option.map_some,w2])
    refine Gh.mask (false::false::false::true::false::false::false::false::false::false::false::false::false::false::false::false::false::false::false::false::false::false::false::false::false::false::false::true::true::true::false::false::false::false::false::false::false::false::false::false::false::false::false::false::[]) ?_
    exact ⟨loop.length - (i + 1),by omega,i + 1,rfl,by omega,rfl,hπ'⟩
  ·have hil:i=loop.length:=by omega
   subst hil
   rw [List.take_length] at hπ hbl2
   have hw:=wbyte_ok hm hC _ (outS itS stem++[40]++oL itS true loop) 41 (by simp only [List.length_append,List.length_cons,List.length_nil];omega) hwc π hπ
   rw [show ((41:UInt8).toNat:Int)=41 from rfl] at hw
   have hst:=strb_ok hm hC [.sz (N16 stem) stem.length,.sz (N16 loop) loop.length] (outS itS stem++[40]++oL itS true loop++[41]) (by simp) (by simp only [List.length_append,List.length_cons,List.length_nil];omega)
   repeat (refine PRun.wpn rfl ?_;simp only [wp,wo_nil,wo_p,wo_call,onO_s,pv_t,pv_int,put_some,bi_lss,pevP,getP,setP,evsP,Option.map_some,Nat.zero_le,true_and,↓reduceIte,Bool.false_eq_true,ltB_f hlt])
   refine .refl (PToE.mono (PToB.toE hw rfl (Nat.zero_le _)) ?_)
   rintro r π' (⟨h0,_⟩ | ⟨_,rfl⟩)
   ·simp at h0
   refine POps.wp ?_
   simp only [wo_nil,setP]
   refine PRun.gh (Gh.mask (false::false::false::true::false::false::false::false::false::false::false::false::false::false::false::false::false::false::false::false::false::false::false::false::false::false::false::false::false::false::false::false::false::false::false::false::false::false::false::false::false::false::false::false::[]) ?_)
   simp only [↓reduceIte,Bool.false_eq_true,maskP]
   repeat (refine PRun.wpn rfl ?_;simp only [wp,wo_call,pv_t,put_some,evsP,Nat.zero_le,true_and])
   refine .refl (PToE.mono (PToB.toE hst rfl (Nat.zero_le _)) ?_)
   rintro r π' rfl
   refine POps.wp ?_
   simp only [wo_nil,wo_p,onO_s,pv_t,put_some,pevP,getP,setP]
   repeat (refine PRun.wpn rfl ?_;simp only [wp,or_true,true_and,reduceCtorEq])
   exact .refl ⟨_,rfl,.refl _⟩
end
end Go.Proofs.YtkldgoapompinaaDoor.Ai
namespace Go.Proofs.YtkldgoapompinaaDoor.Ai
open Go
set_option linter.unusedVariables false
set_option linter.unusedSectionVars false
set_option maxRecDepth 10000
set_option maxHeartbeats 4000000
def rdM:Nat→Nat→List UInt8→List Nat→List Nat→Bool→Bool→Bool→(List Nat × List Nat) × Nat × Nat
 | 0,i,_,_,_,_,_,_=>(([],[]),51,i)
 | k + 1,i,[],st,lp,o,sh,p=>if sh=true then ((st,lp),0,0) else (([],[]),51,i)
 | k + 1,i,c::l,st,lp,o,sh,p=>
  if c.toNat=32 then rdM k (i + 1) l st lp o sh true
  else if c.toNat=40∧o=false then rdM k (i + 1) l st lp true sh true
  else if c.toNat=41∧o=true∧sh=false∧lp ≠ [] then rdM k (i + 1) l st lp o true p
  else if (48≤c.toNat∧c.toNat≤57)∧p=true∧sh=false then
   rdM k (i + (numL 0 0 (c::l)).2) ((c::l).drop (numL 0 0 (c::l)).2) (if o=true then st else st++[(numL 0 0 (c::l)).1]) (if o=true then lp++[(numL 0 0 (c::l)).1] else lp) o sh false
  else (([],[]),51,i)
theorem numL_ge:∀ (l:List UInt8) (v n:Nat),n≤(numL v n l).2
 | [],v,n=>Nat.le_refl _
 | c::l,v,n=>by
  unfold numL
  split
  ·split
   ·exact Nat.le_refl _
   ·exact Nat.le_trans (Nat.le_succ n) (numL_ge l _ _)
  ·exact Nat.le_refl _
theorem numL_one {c:UInt8} {l:List UInt8} (h:48≤c.toNat∧c.toNat≤57):1≤(numL 0 0 (c::l)).2:=by
 have hc:=c.toNat_lt
 simp only [numL]
 rw [if_pos h,if_neg (by omega)]
 exact numL_ge l _ _
theorem rdM_fuel:∀ (k k' i:Nat) (l:List UInt8) (st lp:List Nat) (o sh p:Bool),l.length < k→l.length < k'→rdM k i l st lp o sh p=rdM k' i l st lp o sh p
 | 0,_,_,_,_,_,_,_,_,h,_=>by omega
 | _,0,_,_,_,_,_,_,_,_,h=>by omega
 | k + 1,k' + 1,i,[],st,lp,o,sh,p,_,_=>rfl
 | k + 1,k' + 1,i,c::l,st,lp,o,sh,p,h,h'=>by
  simp only [List.length_cons] at h h'
  unfold rdM
  rw [rdM_fuel k k' (i + 1) l st lp o sh true (by omega) (by omega),rdM_fuel k k' (i + 1) l st lp true sh true (by omega) (by omega),rdM_fuel k k' (i + 1) l st lp o true p (by omega) (by omega)]
  split
  ·rfl
  split
  ·rfl
  split
  ·rfl
  split
  ·rename_i hd
   have h1:=numL_one (l:=l) hd.1
   exact rdM_fuel k k' _ _ _ _ _ _ _ (by simp only [List.length_drop,List.length_cons];omega) (by simp only [List.length_drop,List.length_cons];omega)
  ·rfl
noncomputable def readM (s:ByteArray):(List Nat × List Nat) × Nat × Nat:=if ltB 65536 (s.size:Nat)=true then (([],[]),51,65536) else rdM (s.size + 1) 0 s.data.toList [] [] false false true
def rz:PObj:=.cells [.lit (.slice none 0 0),.lit (.slice none 0 0)] 25 2 true false []
def RSt (st lp:List Nat) (π:PW):Prop:=
 (st=[]∧lp=[]∧π=⟨4,[(1,.cells [.lit (.slice none 0 0),.lit (.slice none 0 0)] 25 2 true false []),(0,.cells [.lit (.slice none 0 0),.lit (.slice none 0 0)] 25 2 true false [])]⟩)∨
 (st ≠ []∧lp=[]∧π=⟨4,[(2,.cells (N16 st) 54 1 false false []),(1,.cells [.loc 2 0 st.length st.length,.lit (.slice none 0 0)] 25 2 true false []),(0,.cells [.lit (.slice none 0 0),.lit (.slice none 0 0)] 25 2 true false [])]⟩)∨
 (st=[]∧lp ≠ []∧π=⟨4,[(3,.cells (N16 lp) 54 1 false false []),(1,.cells [.lit (.slice none 0 0),.loc 3 0 lp.length lp.length] 25 2 true false []),(0,.cells [.lit (.slice none 0 0),.lit (.slice none 0 0)] 25 2 true false [])]⟩)∨
 (st ≠ []∧lp ≠ []∧π=⟨4,[(3,.cells (N16 lp) 54 1 false false []),(2,.cells (N16 st) 54 1 false false []),(1,.cells [.loc 2 0 st.length st.length,.loc 3 0 lp.length lp.length] 25 2 true false []),(0,.cells [.lit (.slice none 0 0),.lit (.slice none 0 0)] 25 2 true false [])]⟩)
theorem N16_len (l:List Nat):(N16 l).length=l.length:=by simp [N16]
theorem N16_app (a b:List Nat):N16 (a++b)=N16 a++N16 b:=by simp [N16]
theorem pure_N16:∀ l:List Nat,pureL (N16 l)=true
 | []=>rfl
 | b::l=>by have:=pure_N16 l;simp only [N16,List.map_cons,pureL,pureP,Bool.true_and] at this ⊢;exact this
theorem renL_N16 (ρ:List (Nat × Nat)) (l:List Nat):renL ρ (N16 l)=N16 l:=renL_pure ρ _ (pure_N16 l)
theorem ext_data {s:ByteArray} {i:Nat} (h:i≤s.size):(s.extract i s.size).data.toList=s.data.toList.drop i:=by
 rw [ByteArray.data_extract,Array.toList_extract]
 simp only [List.extract_eq_take_drop]
 rw [List.take_of_length_le]
 rw [List.length_drop,show s.data.toList.length=s.size from Array.length_toList]
 exact Nat.le_refl _
theorem rd_sp {K i:Nat} {c:UInt8} {l:List UInt8} {st lp:List Nat} {o sh p:Bool} (hK:l.length < K) (h:c.toNat=32):rdM (K + 1) i (c::l) st lp o sh p=rdM (K + 1) (i + 1) l st lp o sh true:=by
 rw [rdM,if_pos h];exact rdM_fuel _ _ _ _ _ _ _ _ _ hK (by omega)
theorem rd_op {K i:Nat} {c:UInt8} {l:List UInt8} {st lp:List Nat} {sh p:Bool} (hK:l.length < K) (h:c.toNat=40):rdM (K + 1) i (c::l) st lp false sh p=rdM (K + 1) (i + 1) l st lp true sh true:=by
 rw [rdM,if_neg (by omega),if_pos ⟨h,rfl⟩];exact rdM_fuel _ _ _ _ _ _ _ _ _ hK (by omega)
theorem rd_cl {K i:Nat} {c:UInt8} {l:List UInt8} {st lp:List Nat} {p:Bool} (hK:l.length < K) (h:c.toNat=41) (hl:lp ≠ []):rdM (K + 1) i (c::l) st lp true false p=rdM (K + 1) (i + 1) l st lp true true p:=by
 rw [rdM,if_neg (by omega),if_neg (by rintro ⟨h1,_⟩;omega),if_pos ⟨h,rfl,rfl,hl⟩];exact rdM_fuel _ _ _ _ _ _ _ _ _ hK (by omega)
theorem rd_num {K i:Nat} {c:UInt8} {l:List UInt8} {st lp:List Nat} {o:Bool} (hK:l.length < K) (h:48≤c.toNat∧c.toNat≤57):rdM (K + 1) i (c::l) st lp o false true =
  rdM (K + 1) (i + (numL 0 0 (c::l)).2) ((c::l).drop (numL 0 0 (c::l)).2) (if o=true then st else st++[(numL 0 0 (c::l)).1]) (if o=true then lp++[(numL 0 0 (c::l)).1] else lp) o false false:=by
 rw [rdM,if_neg (by omega),if_neg (by rintro ⟨h1,_⟩;omega),if_neg (by rintro ⟨h1,_⟩;omega),if_pos ⟨h,rfl,rfl⟩]
 have h1:=numL_one (l:=l) h
 exact rdM_fuel _ _ _ _ _ _ _ _ _ (by simp only [List.length_drop,List.length_cons];omega) (by simp only [List.length_drop,List.length_cons];omega)
theorem rd_err {K i:Nat} {c:UInt8} {l:List UInt8} {st lp:List Nat} {o sh p:Bool} (h1:c.toNat ≠ 32) (h2:¬ (c.toNat=40∧o=false)) (h3:¬ (c.toNat=41∧o=true∧sh=false∧lp ≠ [])) (h4:¬ ((48≤c.toNat∧c.toNat≤57)∧p=true∧sh=false)) :
  rdM (K + 1) i (c::l) st lp o sh p=(([],[]),51,i):=by
 rw [rdM,if_neg h1,if_neg h2,if_neg h3,if_neg h4]
section
variable {C:Ctx} (hm:C.P.follows .mixedOrders=true) (hC:TabOK C.P C.ng C.ts Tryd.tab)
include hm hC
end
end Go.Proofs.YtkldgoapompinaaDoor.Ai
namespace Go.Proofs.YtkldgoapompinaaDoor.Ai
open Go
set_option linter.unusedSimpArgs false
set_option linter.unusedVariables false
set_option linter.unusedSectionVars false
set_option maxRecDepth 10000
theorem dig_byte {k:Nat} (h:k < 10):(UInt8.ofNat (48 + k)).toNat=48 + k:=by
 rw [UInt8.toNat_ofNat'];omega
theorem dec_digits:∀ (u:Nat),∀ c∈Lib.decDigits u,48≤c.toNat∧c.toNat≤57:=by
 intro u
 induction u using Nat.strongRecOn with
 | _ u ih=>
  intro c hc
  by_cases h:u < 10
  ·rw [Lib.decDigits,dif_pos h] at hc
   simp only [List.mem_singleton] at hc
   subst hc
   rw [dig_byte h];omega
  ·rw [Lib.decDigits,dif_neg h] at hc
   rcases List.mem_append.1 hc with hc | hc
   ·exact ih (u / 10) (by omega) c hc
   ·simp only [List.mem_singleton] at hc
    subst hc
    rw [dig_byte (by omega)];omega
theorem dec_ne (u:Nat):Lib.decDigits u ≠ []:=fun e=>by
 have h:=Lib.decDigits_length u
 rw [e] at h
 have:=Lib.nDigits_pos u
 simp at h;omega
theorem numL_dec (u:Nat):u≤65535→∀ rest,numL 0 0 (Lib.decDigits u++rest)=numL u (Lib.decDigits u).length rest:=by
 induction u using Nat.strongRecOn with
 | _ u ih=>
  intro hu rest
  by_cases h:u < 10
  ·rw [Lib.decDigits,dif_pos h]
   simp only [List.cons_append,List.nil_append,numL,List.length_cons,List.length_nil]
   rw [dig_byte h,if_pos (by omega),if_neg (by omega),show 10 * 0 + (48 + u - 48)=u by omega]
  ·have hl:=dec_ne (u / 10)
   have hl':0 < (Lib.decDigits (u / 10)).length:=List.length_pos_iff.2 hl
   rw [Lib.decDigits,dif_neg h,List.append_assoc,ih (u / 10) (by omega) (by omega)]
   simp only [List.cons_append,List.nil_append,numL,List.length_cons,List.length_nil,List.length_append]
   rw [dig_byte (by omega),if_pos (by omega),if_neg (by omega),show 10 * (u / 10) + (48 + u % 10 - 48)=u by omega]
theorem numL_stop {u n:Nat} {l:List UInt8} (h:∀ c l',l=c::l'→¬ (48≤c.toNat∧c.toNat≤57)):numL u n l=(u,n):=by
 cases l with
 | nil=>rfl
 | cons c l=>simp only [numL];rw [if_neg (h c l rfl)]
theorem rd_dec {K i u:Nat} {rest:List UInt8} {st lp:List Nat} {o:Bool} (hu:u≤65535) (h:∀ c l',rest=c::l'→¬ (48≤c.toNat∧c.toNat≤57)) (hK:(Lib.decDigits u++rest).length≤K) :
  rdM (K + 1) i (Lib.decDigits u++rest) st lp o false true=rdM (K + 1) (i + (Lib.decDigits u).length) rest (if o=true then st else st++[u]) (if o=true then lp++[u] else lp) o false false:=by
 have hn:numL 0 0 (Lib.decDigits u++rest)=(u,(Lib.decDigits u).length):=by rw [numL_dec u hu,numL_stop h]
 have hd:(Lib.decDigits u++rest).drop (Lib.decDigits u).length=rest:=List.drop_left
 have hdig:=dec_digits u
 cases hc:Lib.decDigits u with
 | nil=>exact absurd hc (dec_ne u)
 | cons c l=>
  rw [hc] at hn hd hK hdig
  rw [List.cons_append] at hn hd hK ⊢
  rw [rd_num (by simp only [List.length_cons] at hK;omega) (hdig c (by simp)),hn]
  simp only
  rw [hd]
theorem rd_stem {itS:Nat→ByteArray} (hD:∀ n,digs itS n=Lib.decDigits n):∀ (stem:List Nat) (K i:Nat) (rest:List UInt8) (st:List Nat),(∀ n∈stem,n < 65536)→(outS itS stem++rest).length≤K→
  ∃ j,rdM (K + 1) i (outS itS stem++rest) st [] false false true=rdM (K + 1) j rest (st++stem) [] false false true
 | [],K,i,rest,st,_,_=>⟨i,by simp [outS]⟩
 | n::l,K,i,rest,st,hb,hK=>by
  have hl:(Lib.decDigits n++(32::(outS itS l++rest))).length≤K:=by
   simp only [outS,hD,List.length_append,List.length_cons,List.length_nil] at hK ⊢;omega
  have hl2:(outS itS l++rest).length < K:=by
   simp only [List.length_append,List.length_cons] at hl ⊢;omega
  obtain ⟨j,hj⟩:=rd_stem hD l K (i + (Lib.decDigits n).length + 1) rest (st++[n]) (fun m hm=>hb m (by simp [hm])) (by omega)
  refine ⟨j,?_⟩
  rw [show outS itS (n::l)++rest=Lib.decDigits n++(32::(outS itS l++rest)) by simp [outS,hD],rd_dec (by have:=hb n (by simp);omega) (fun c l' h=>by obtain ⟨rfl,_⟩:=List.cons.inj h;decide) hl]
  simp only [Bool.false_eq_true,if_false]
  rw [rd_sp hl2 (by rfl),hj]
  simp
theorem rd_loop {itS:Nat→ByteArray} (hD:∀ n,digs itS n=Lib.decDigits n):∀ (loop:List Nat) (K i:Nat) (rest:List UInt8) (st lp:List Nat),(∀ n∈loop,n < 65536)→(oL itS false loop++(41::rest)).length≤K→
  ∃ j p,rdM (K + 1) i (oL itS false loop++(41::rest)) st lp true false false=rdM (K + 1) j (41::rest) st (lp++loop) true false p
 | [],K,i,rest,st,lp,_,_=>⟨i,false,by simp [oL]⟩
 | n::l,K,i,rest,st,lp,hb,hK=>by
  have hl:(Lib.decDigits n++(oL itS false l++(41::rest))).length < K:=by
   simp only [oL,hD,List.length_append,List.length_cons,List.length_nil,Bool.false_eq_true,if_false] at hK ⊢;omega
  have hl2:(oL itS false l++(41::rest)).length < K:=by
   simp only [List.length_append,List.length_cons] at hl ⊢;omega
  obtain ⟨j,p,hj⟩:=rd_loop hD l K (i + 1 + (Lib.decDigits n).length) rest st (lp++[n]) (fun m hm=>hb m (by simp [hm])) (by omega)
  refine ⟨j,p,?_⟩
  rw [show oL itS false (n::l)++(41::rest)=32::(Lib.decDigits n++(oL itS false l++(41::rest))) by simp [oL,hD],rd_sp hl (by rfl),rd_dec (by have:=hb n (by simp);omega) (fun c l' h=>by
   cases l with
   | nil=>simp only [oL,List.nil_append] at h;obtain ⟨rfl,_⟩:=List.cons.inj h;decide
   | cons m l=>simp only [oL,Bool.false_eq_true,if_false,List.cons_append,List.nil_append] at h;obtain ⟨rfl,_⟩:=List.cons.inj h;decide) (by omega)]
  simp only [if_true]
  rw [hj]
  simp
theorem read_showL {itS:Nat→ByteArray} (hD:∀ n,digs itS n=Lib.decDigits n) (stem loop:List Nat) (hl:loop ≠ []) (b1:∀ n∈stem,n < 65536) (b2:∀ n∈loop,n < 65536) (hz2:(outS itS stem++[40]++oL itS true loop++[41]).length≤65536) :
  readM ⟨⟨outS itS stem++[40]++oL itS true loop++[41]⟩⟩=((stem,loop),0,0):=by
 unfold readM
 have hz:(⟨⟨outS itS stem++[40]++oL itS true loop++[41]⟩⟩:ByteArray).size=(outS itS stem++[40]++oL itS true loop++[41]).length:=rfl
 rw [hz]
 rw [ltB_f (by omega),if_neg (by decide)]
 show rdM ((outS itS stem++[40]++oL itS true loop++[41]).length + 1) 0 (outS itS stem++[40]++oL itS true loop++[41]) [] [] false false true=_
 generalize hK:(outS itS stem++[40]++oL itS true loop++[41]).length=K
 obtain ⟨n,l,rfl⟩:∃ n l,loop=n::l:=by
  cases loop with
  | nil=>exact absurd rfl hl
  | cons n l=>exact ⟨n,l,rfl⟩
 have e:outS itS stem++[40]++oL itS true (n::l)++[41]=outS itS stem++(40::(Lib.decDigits n++(oL itS false l++(41::[])))):=by simp [oL,hD]
 rw [e] at hK ⊢
 obtain ⟨j,hj⟩:=rd_stem hD stem K 0 (40::(Lib.decDigits n++(oL itS false l++(41::[])))) [] b1 (by omega)
 rw [hj]
 have k1:(Lib.decDigits n++(oL itS false l++(41::[]))).length < K:=by simp only [List.length_append,List.length_cons] at hK ⊢;omega
 have k2:(oL itS false l++(41::[])).length≤K:=by simp only [List.length_append,List.length_cons] at hK ⊢;omega
 rw [rd_op k1 (by rfl),rd_dec (by have:=b2 n (by simp);omega) (fun c l' h=>by
   cases l with
   | nil=>simp only [oL,List.nil_append] at h;obtain ⟨rfl,_⟩:=List.cons.inj h;decide
   | cons m l=>simp only [oL,Bool.false_eq_true,if_false,List.cons_append,List.nil_append] at h;obtain ⟨rfl,_⟩:=List.cons.inj h;decide) (by omega)]
 simp only [if_true,List.nil_append]
 obtain ⟨j2,p,hj2⟩:=rd_loop hD l K (j + 1 + (Lib.decDigits n).length) [] stem [n] (fun m hm=>b2 m (by simp [hm])) k2
 rw [hj2,rd_cl (by simp only [List.length_nil];omega) (by rfl) (by simp)]
 rw [rdM,if_pos rfl]
 simp
end Go.Proofs.YtkldgoapompinaaDoor.Ai
namespace Go.Proofs.YtkldgoapompinaaDoor.Ai
open Go
set_option linter.unusedVariables false
set_option linter.unusedSectionVars false
set_option maxRecDepth 10000
set_option maxHeartbeats 1000000
section
variable {C:Ctx} (hm:C.P.follows .mixedOrders=true) (hC:TabOK C.P C.ng C.ts Tryd.tab)
include hm hC
end
end Go.Proofs.YtkldgoapompinaaDoor.Ai
