/- A PART OF THE PROOF: a step of the proof that the law's code does what its contracts say, by an interpreter of the program's functions that is proved to be sound. -/
import Derived.Test.YtkldgoapompinaaDoorPv5
import Derived.Test.YtkldgoapompinaaDoorIrT
import Derived.Lib.ItoaMem
import Derived.Lib.ItoaLen
import Derived.Test.YtkldgoapompinaaDoorPv2
namespace Go.Proofs.YtkldgoapompinaaDoor.Ai
set_option linter.unusedSimpArgs false
open Go
set_option linter.unusedVariables false
set_option linter.unusedSectionVars false
set_option maxRecDepth 10000
set_option maxHeartbeats 1000000
def mkWtA1:List Bool:=(false::true::false::true::false::false::false::false::false::false::false::false::false::true::true::true::false::false::false::false::false::false::false::false::false::false::false::false::false::false::false::false::false::false::false::false::false::false::false::false::false::false::false::false::[])
def mkWtA2:List Bool:=(false::false::false::true::false::false::false::false::false::false::false::false::false::false::false::false::false::false::false::false::false::false::false::false::false::false::false::true::true::true::false::false::false::false::false::false::false::false::false::false::false::false::false::false::[])
def mkWtA3:List Bool:=(true::false::false::true::false::false::false::false::false::false::false::false::false::false::false::false::false::false::false::false::false::false::false::false::false::false::false::false::false::false::false::false::false::false::false::false::false::false::false::false::false::false::false::false::false::false::false::false::false::false::false::false::false::false::false::false::false::false::false::false::false::false::false::false::false::false::false::false::false::false::false::false::false::false::false::false::false::false::false::false::false::false::false::false::false::false::false::false::false::false::false::false::false::false::false::false::false::false::false::false::false::false::false::false::false::false::false::false::false::false::false::false::false::false::false::false::false::false::false::false::false::false::false::false::false::false::false::false::false::false::false::false::false::false::false::false::false::false::false::false::false::false::false::false::false::false::false::false::false::false::[])
def L8 (l:List UInt8):List PV:=l.map fun b=>.lit (.int .u8 (b.toNat:Int))
def N16 (l:List Nat):List PV:=l.map fun n:Nat=>.lit (.int .u16 ((n:Nat):Int))
theorem L8_len (l:List UInt8):(L8 l).length=l.length:=by simp [L8]
theorem L8_app (a b:List UInt8):L8 (a++b)=L8 a++L8 b:=by simp [L8]
theorem pure_L8:∀ l:List UInt8,pureL (L8 l)=true
 | []=>rfl
 | b::l=>by have:=pure_L8 l;simp only [SW,L8,List.map_cons] at this ⊢;exact this
theorem plain_L8:∀ l:List UInt8,allPlain (L8 l)=true
 | []=>rfl
 | b::l=>by have:=plain_L8 l;simp only [SW,L8,List.map_cons] at this ⊢;exact this
theorem renL_L8 (ρ:List (Nat × Nat)) (l:List UInt8):renL ρ (L8 l)=L8 l:=renL_pure ρ _ (pure_L8 l)
theorem bytes_L8:∀ l:List UInt8,bytesP (L8 l)=some l
 | []=>rfl
 | b::l=>by
  have h:=bytes_L8 l
  have e:byteOf (.int .u8 (b.toNat:Int))=some b:=by
   simp only [byteOf]
   rw [if_pos ⟨by omega,by have:=b.toNat_lt;omega⟩,Int.toNat_natCast,UInt8.ofNat_toNat]
  simp only [L8,List.map_cons,bytesP,e] at h ⊢
  rw [h]
theorem str_L8 (s:ByteArray):ofVs ((strCells s).take s.size)=L8 s.data.toList:=by
 have h:(strCells s).length=s.size:=by unfold strCells;rw [List.length_map];exact Array.length_toList
 rw [List.take_of_length_le (by omega)]
 unfold strCells
 generalize s.data.toList=l
 induction l with
 | nil=>rfl
 | cons b l ih=>simp only [List.map_cons,ofVs,ofV,L8] at ih ⊢;rw [ih]
theorem N16_at {l:List Nat} {i n:Nat} (h:l[i]? = some n):(N16 l).drop i = .lit (.int .u16 ((n:Nat):Int))::N16 (l.drop (i + 1)):=by
 obtain ⟨hi,rfl⟩:=List.getElem?_eq_some_iff.1 h
 unfold N16
 rw [← List.map_drop,List.drop_eq_getElem_cons hi];rfl
theorem cutB {l:List PV} {n:Nat} (h:l.length=n):cutP n l=some l:=by subst h;simp [cutP]
def bst0 (wc:List PV):PW:=⟨2,[(1,.cells [.lit (.pointer none),.lit (.slice none 0 0)] 82 2 true false []),(0,.cells wc 25 2 true false [])]⟩
def bst (wc:List PV) (bs:List UInt8):PW:=⟨3,[(2,.cells (L8 bs) 5 1 false false []),(1,.cells [.ptr 1 0,.loc 2 0 bs.length bs.length] 82 2 true false []),(0,.cells wc 25 2 true false [])]⟩
def BSt (wc:List PV) (bs:List UInt8) (π:PW):Prop:=(bs=[]∧π=bst0 wc)∨(bs ≠ []∧π=bst wc bs)
section
variable {C:Ctx} (hm:C.P.follows .mixedOrders=true) (hC:TabOK C.P C.ng C.ts Tryd.tab)
include hm hC
theorem chk0 (wc:List PV):PToB C 2 84 [.ptr 1 0] (bst0 wc) fun r π'=>π'=⟨2,[(1,.cells [.ptr 1 0,.lit (.slice none 0 0)] 82 2 true false []),(0,.cells wc 25 2 true false [])]⟩:=by
 refine PToB.of_body hm hC (show Tryd.tab.get 84=some Tryd.c84 from rfl) ?_
 simp only [SW,Tryd.c84,startP,Nat.reduceAdd,Nat.reduceSub,List.replicate,bst0]
 have b2:Nat.ble 2 2=true:=rfl
 repeat (refine PRun.wpn rfl ?_;simp only [SW,↓reduceIte,reduceCtorEq,Nat.reduceAdd,Nat.reduceLT])
 exact .refl ⟨_,rfl,rfl⟩
theorem chk1 (wc:List PV) (bs:List UInt8):PToB C 2 84 [.ptr 1 0] (bst wc bs) fun r π'=>π'=bst wc bs:=by
 refine PToB.of_body hm hC (show Tryd.tab.get 84=some Tryd.c84 from rfl) ?_
 simp only [SW,Tryd.c84,startP,Nat.reduceAdd,Nat.reduceSub,List.replicate,bst]
 have b3:Nat.ble 2 3=true:=rfl
 repeat (refine PRun.wpn rfl ?_;simp only [SW,↓reduceIte,reduceCtorEq,Nat.reduceEqDiff])
 exact .refl ⟨_,rfl,rfl⟩
theorem wstr_ok (wc:List PV) (bs:List UInt8) (s:ByteArray) (hs:s.data.toList ≠ []) (hz:s.size < 2 ^ 36) (hb:bs.length < 2 ^ 36) (hwc:pureL wc=true) (π:PW) (h:BSt wc bs π):PToB C 2 57 [.ptr 1 0,.lit (.string s)] π fun r π'=>BSt wc (bs++s.data.toList) π':=by
 have hls:s.data.toList.length=s.size:=Array.length_toList
 have hne:s.size ≠ 0:=fun e=>hs (List.length_eq_zero_iff.1 (by omega))
 have b2:Nat.ble 2 2=true:=rfl
 have b3:Nat.ble 2 3=true:=rfl
 have b4:Nat.ble 2 4=true:=rfl
 have hr:∀ ρ,renL ρ wc=wc:=fun ρ=>renL_pure ρ _ hwc
 have q1:¬ s.size≤0:=by omega
 have q2:¬ 140737488355328 < 2 * s.size + 768:=by omega
 have q3:(s.size != 0)=true:=by simpa using hne
 rcases h with ⟨rfl,rfl⟩ | ⟨h0,rfl⟩
 ·have c1:=chk0 hm hC wc
  refine PToB.of_body hm hC (show Tryd.tab.get 57=some Tryd.c57 from rfl) ?_
  simp only [SW,Tryd.c57,startP,Nat.reduceAdd,Nat.reduceSub,List.replicate]
  refine PRun.wpn rfl ?_
  simp only [SW]
  refine PRun.wpn rfl ?_
  simp only [SW]
  refine .refl ⟨Nat.le_of_ble_eq_true rfl,?_⟩
  refine PToE.mono (PToB.toE c1 rfl (Nat.le_refl 2)) ?_
  rintro r π' rfl
  refine POps.wp ?_
  simp only [wo_nil,setP]
  repeat (refine PRun.wpn rfl ?_;simp only [SW,↓reduceIte,reduceCtorEq,Nat.reduceAdd,Nat.reduceEqDiff,str_L8,plain_L8,q1,q2,bne_self_eq_false])
  exact .refl ⟨_,rfl,.inr ⟨hs,by unfold bst;rw [hls]⟩⟩
 ·have c1:=chk1 hm hC wc bs
  have hn0:bs.length ≠ 0:=fun e=>h0 (List.length_eq_zero_iff.1 e)
  have r1:¬ bs.length + s.size≤bs.length:=by omega
  have r2:¬ 140737488355328 < 2 * (bs.length + s.size) + 768:=by omega
  have r3:=cutB (L8_len bs)
  have r4:=L8_len bs
  refine PToB.of_body hm hC (show Tryd.tab.get 57=some Tryd.c57 from rfl) ?_
  simp only [SW,Tryd.c57,startP,Nat.reduceAdd,Nat.reduceSub,List.replicate]
  refine PRun.wpn rfl ?_
  simp only [SW]
  refine PRun.wpn rfl ?_
  simp only [SW]
  refine .refl ⟨Nat.le_of_ble_eq_true rfl,?_⟩
  refine PToE.mono (PToB.toE c1 rfl (Nat.le_refl 2)) ?_
  rintro r π' rfl
  refine POps.wp ?_
  simp only [wo_nil,setP,bst]
  repeat (refine PRun.wpn rfl ?_;simp only [SW,↓reduceIte,reduceCtorEq,Nat.reduceAdd,Nat.reduceEqDiff,b4,str_L8,plain_L8,r1,r2,r3,r4,bne_self_eq_false])
  refine Gh.mr (false::false::false::false::true::true::false::false::false::false::false::false::false::false::false::false::false::false::false::[]) [(0,0),(1,1),(3,2)] 3 rfl ?_
  refine ⟨_,rfl,.inr ⟨by simp [h0],?_⟩⟩
  simp only [SW,↓reduceIte,reduceCtorEq,Nat.reduceEqDiff,hr]
  rw [← L8_app,renL_L8]
  unfold bst
  rw [List.length_append,hls]
theorem wbyte_ok (wc:List PV) (bs:List UInt8) (c:UInt8) (hb:bs.length < 2 ^ 36) (hwc:pureL wc=true) (π:PW) (h:BSt wc bs π):PToB C 2 59 [.ptr 1 0,.lit (.int .u8 (c.toNat:Int))] π fun r π'=>BSt wc (bs++[c]) π':=by
 have b2:Nat.ble 2 2=true:=rfl
 have b3:Nat.ble 2 3=true:=rfl
 have b4:Nat.ble 2 4=true:=rfl
 have b5:Nat.ble 2 5=true:=rfl
 have hr:∀ ρ,renL ρ wc=wc:=fun ρ=>renL_pure ρ _ hwc
 rcases h with ⟨rfl,rfl⟩ | ⟨h0,rfl⟩
 ·have c1:=chk0 hm hC wc
  refine PToB.of_body hm hC (show Tryd.tab.get 59=some Tryd.c59 from rfl) ?_
  simp only [SW,Tryd.c59,startP,Nat.reduceAdd,Nat.reduceSub,List.replicate]
  refine PRun.wpn rfl ?_
  simp only [SW]
  refine PRun.wpn rfl ?_
  simp only [SW]
  refine .refl ⟨Nat.le_of_ble_eq_true rfl,?_⟩
  refine PToE.mono (PToB.toE c1 rfl (Nat.le_refl 2)) ?_
  rintro r π' rfl
  refine POps.wp ?_
  simp only [wo_nil,setP]
  repeat (refine PRun.wpn rfl ?_;simp only [SW,↓reduceIte,reduceCtorEq,Nat.reduceAdd,Nat.reduceLeDiff,Nat.reduceLT,Nat.reduceEqDiff,b4,bne_self_eq_false])
  refine Gh.mr (false::false::false::false::true::false::false::false::false::false::false::false::false::false::false::false::false::[]) [(0,0),(1,1),(3,2)] 3 rfl ?_
  refine ⟨_,rfl,.inr ⟨by simp,?_⟩⟩
  simp only [SW,↓reduceIte,reduceCtorEq,Nat.reduceEqDiff,hr]
  rfl
 ·have c1:=chk1 hm hC wc bs
  have hn0:bs.length ≠ 0:=fun e=>h0 (List.length_eq_zero_iff.1 e)
  have r1:¬ bs.length + 1≤bs.length:=by omega
  have r2:¬ 140737488355328 < 2 * (bs.length + 1) + 768:=by omega
  have r3:=cutB (L8_len bs)
  have r4:=L8_len bs
  refine PToB.of_body hm hC (show Tryd.tab.get 59=some Tryd.c59 from rfl) ?_
  simp only [SW,Tryd.c59,startP,Nat.reduceAdd,Nat.reduceSub,List.replicate]
  refine PRun.wpn rfl ?_
  simp only [SW]
  refine PRun.wpn rfl ?_
  simp only [SW]
  refine .refl ⟨Nat.le_of_ble_eq_true rfl,?_⟩
  refine PToE.mono (PToB.toE c1 rfl (Nat.le_refl 2)) ?_
  rintro r π' rfl
  refine POps.wp ?_
  simp only [wo_nil,setP,bst]
  repeat (refine PRun.wpn rfl ?_;simp only [SW,↓reduceIte,reduceCtorEq,Nat.reduceAdd,Nat.reduceEqDiff,b4,b5,r1,r2,r3,r4,bne_self_eq_false])
  refine Gh.mr (false::false::false::false::true::false::false::false::false::false::false::false::false::false::false::false::false::[]) [(0,0),(1,1),(4,2)] 3 rfl ?_
  refine ⟨_,rfl,.inr ⟨by simp,?_⟩⟩
  simp only [SW,↓reduceIte,reduceCtorEq,Nat.reduceEqDiff,hr]
  rw [show L8 bs++[PV.lit (.int .u8 (c.toNat:Int))]=L8 (bs++[c]) by rw [L8_app];rfl,renL_L8]
  unfold bst
  rw [List.length_append];rfl
end
end Go.Proofs.YtkldgoapompinaaDoor.Ai
namespace Go.Proofs.YtkldgoapompinaaDoor.Ai
set_option linter.unusedSimpArgs false
open Go
set_option linter.unusedVariables false
set_option linter.unusedSectionVars false
set_option maxRecDepth 10000
set_option maxHeartbeats 1000000
def numL:Nat→Nat→List UInt8→Nat × Nat
 | v,n,[]=>(v,n)
 | v,n,c::l=>if 48≤c.toNat∧c.toNat≤57 then (if (0 < n∧v=0)∨65535 < 10 * v + (c.toNat - 48) then (v,n) else numL (10 * v + (c.toNat - 48)) (n + 1) l) else (v,n)
section
variable {C:Ctx} (hm:C.P.follows .mixedOrders=true) (hC:TabOK C.P C.ng C.ts Tryd.tab)
include hm hC
end
end Go.Proofs.YtkldgoapompinaaDoor.Ai
namespace Go.Proofs.YtkldgoapompinaaDoor.Ai
set_option linter.unusedSimpArgs false
open Go
set_option linter.unusedVariables false
set_option linter.unusedSectionVars false
set_option maxRecDepth 10000
set_option maxHeartbeats 1000000
theorem PDE.sdata {C:Ctx} {b:Nat} {l:List IOper} {fin:DStage} {st:List DStage} {S:List Nat} {e:List PV} {π:PW} {Q:List PV→PW→Prop} {x:Opd} {d:Option Nat} {i off n c:Nat} (hx:x.pv C.G e = .loc i off n c) (hc:c ≠ 0)
  (h:PDraw C b l fin st (S.filter (freeJ l d)) (putP e d (.ptr i off)) π Q):PDE C b l fin st S (.sdata x) d e π Q:=by
 intro F I η σ env hG hs hr hy
 have hv:=rd_opd (hG.any η) hr x
 rw [hx] at hv
 simp only [Rd] at hv
 obtain ⟨ai,hai,hxe⟩:=hv
 obtain ⟨M,env',σ',I',η',e',π',k1,k2,k3,k4,k5⟩:=h F I η σ (put env d (.pointer (some ⟨ai,off,none⟩))) hG hs (rdL_putP hr _ (by simp only [Rd];exact ⟨ai,hai,rfl⟩)) (hy.put d _)
 refine ⟨M,_,σ,env',σ',I',η',e',π',k1,k2,?_,k3,k4,k5⟩
 simp only [runE,hxe]
 rw [if_neg hc]
noncomputable def digs (itS:Nat→ByteArray) (n:Nat):List UInt8:=(itS n).data.toList
noncomputable def outS (itS:Nat→ByteArray):List Nat→List UInt8
 | []=>[]
 | n::l=>digs itS n++[32]++outS itS l
noncomputable def oL (itS:Nat→ByteArray):Bool→List Nat→List UInt8
 | _,[]=>[]
 | f,n::l=>(if f=true then [] else [32])++digs itS n++oL itS false l
theorem outS_snoc (itS:Nat→ByteArray) (n:Nat):∀ l:List Nat,outS itS (l++[n])=outS itS l++(digs itS n++[32])
 | []=>by simp [outS]
 | m::l=>by simp [outS,outS_snoc itS n l]
theorem oL_snoc (itS:Nat→ByteArray) (n:Nat):∀ (f:Bool) (l:List Nat),oL itS f (l++[n])=oL itS f l++((if f=true∧l=[] then [] else [32])++digs itS n)
 | f,[]=>by cases f <;> simp [oL]
 | f,m::l=>by simp [oL,oL_snoc itS n false l]
theorem ba_append_size' (a b:ByteArray):(a++b).size=a.size + b.size:=by simp
theorem ba_app_list (a b:ByteArray):(a++b).data.toList=a.data.toList++b.data.toList:=by rw [ByteArray.data_append,Array.toList_append]
section
variable {C:Ctx} (hm:C.P.follows .mixedOrders=true) (hC:TabOK C.P C.ng C.ts Tryd.tab)
include hm hC
theorem strb_ok (wc:List PV) (bs:List UInt8) (h0:bs ≠ []) (hb:bs.length < 2 ^ 40):PToB C 2 60 [.ptr 1 0] (bst wc bs) fun r π'=>r = .lit (.string ⟨⟨bs⟩⟩):=by
 have hn0:bs.length ≠ 0:=fun e=>h0 (List.length_eq_zero_iff.1 e)
 have b3:Nat.ble 2 3=true:=rfl
 have r1:¬ ((bs.length:Nat):Int)=0:=by omega
 have r2:¬ (((bs.length:Nat):Int) < 0∨((bs.length:Nat):Int) > 140737488355328):=by omega
 have r3:=cutB (L8_len bs)
 have r4:=bytes_L8 bs
 refine PToB.of_body hm hC (show Tryd.tab.get 60=some Tryd.c60 from rfl) ?_
 simp only [SW,Tryd.c60,startP,Nat.reduceAdd,Nat.reduceSub,List.replicate,bst]
 repeat (refine PRun.wpn rfl ?_;simp only [SW])
 refine PDraw.stage (Nat.le_of_ble_eq_true rfl) rfl ?_
 try dsimp only
 simp only [SW,↓reduceIte,Nat.reduceAdd,Nat.reduceEqDiff]
 refine PDE.sdata rfl hn0 ?_
 refine PDraw.stage (Nat.le_of_ble_eq_true rfl) rfl ?_
 try dsimp only
 simp only [SW]
 refine PDE.ev (Nat.le_of_ble_eq_true rfl) ?_
 simp only [SW,↓reduceIte,r1,r2,r3,r4,bne_self_eq_false]
 refine PDraw.last (Nat.le_of_ble_eq_true rfl) rfl ?_
 try dsimp only
 simp only [SW]
 repeat (refine PRun.wpn rfl ?_;simp only [wp,or_true,true_and,reduceCtorEq])
 exact .refl ⟨_,rfl,rfl⟩
theorem show_ok {itS:Nat→ByteArray} (hI:∀ i:Nat,i < 2 ^ 40→PFun C 58 [.lit (.int .i64 (i:Nat))] (.lit (.string (itS i)))) (hIs:∀ i:Nat,i < 2 ^ 40→(itS i).size≤20) (hIn:∀ i:Nat,i < 2 ^ 40→digs itS i ≠ [])
  (stem loop:List Nat) (hl:loop ≠ []) (h1:stem.length < 2 ^ 28) (h2:loop.length < 2 ^ 28) (b1:∀ n∈stem,n < 65536) (b2:∀ n∈loop,n < 65536) :
  PFun C 34 [.agg [.sz (N16 stem) stem.length,.sz (N16 loop) loop.length]] (.lit (.string ⟨⟨outS itS stem++[40]++oL itS true loop++[41]⟩⟩)):=by
 have hdl:∀ n,n < 65536→(digs itS n).length≤20:=fun n hn=>by
  have:=hIs n (by omega)
  unfold digs
  rw [show (itS n).data.toList.length=(itS n).size from Array.length_toList];exact this
 have lenS:∀ l:List Nat,(∀ n∈l,n < 65536)→(outS itS l).length≤21 * l.length:=by
  intro l hb
  induction l with
  | nil=>simp [outS]
  | cons n l ih=>
   have:=hdl n (hb n (by simp))
   have:=ih (fun m hm=>hb m (by simp [hm]))
   simp only [SW,outS,List.length_append];omega
 have lenL:∀ (l:List Nat) (f:Bool),(∀ n∈l,n < 65536)→(oL itS f l).length≤21 * l.length:=by
  intro l
  induction l with
  | nil=>intro f hb;simp [oL]
  | cons n l ih=>
   intro f hb
   have:=hdl n (hb n (by simp))
   have:=ih false (fun m hm=>hb m (by simp [hm]))
   have:(if f=true then ([]:List UInt8) else [32]).length≤1:=by split <;> simp
   simp only [oL,List.length_append,List.length_cons];omega
 have hl0:¬ ((loop.length:Nat):Int)=0:=by
  have:loop.length ≠ 0:=fun e=>hl (List.length_eq_zero_iff.1 e)
  omega
 have hwc:pureL [PV.sz (N16 stem) stem.length,PV.sz (N16 loop) loop.length]=true:=rfl
 refine PFun.body hm hC (show Tryd.tab.get 34=some Tryd.c34 from rfl) rfl ?_
 simp only [SW,Tryd.c34,startP,Nat.reduceAdd,Nat.reduceSub,List.replicate]
 repeat (refine PRun.wpn rfl ?_;simp only [SW,↓reduceIte,reduceCtorEq,Nat.reduceAdd,eqB_f hl0])
 refine PRun.gh (Gh.mask mkWtA1 ?_)
 simp only [mkWtA1,↓reduceIte,Bool.false_eq_true,maskP]
 refine PRun.loopG (fun m t π=>∃ i:Nat,t=(.junk::.ptr 0 0::.junk::.ptr 1 0::.junk::.junk::.junk::.junk::.junk::.junk::.junk::.junk::.junk::.sz (N16 stem) stem.length::.lit (.int .i64 (stem.length:Nat))::.lit (.int .i64 (i:Nat))::.junk::.junk::.junk::.junk::.junk::.junk::.junk::.junk::.junk::.junk::.junk::.junk::.junk::.junk::.junk::.junk::.junk::.junk::.junk::.junk::.junk::.junk::.junk::.junk::.junk::.junk::.junk::.junk::[])∧i≤stem.length∧m=stem.length - i∧BSt [.sz (N16 stem) stem.length,.sz (N16 loop) loop.length] (outS itS (stem.take i)) π) ?_ stem.length _ _ ⟨0,rfl,by omega,rfl,.inl ⟨rfl,rfl⟩⟩
 rintro m t π ⟨i,rfl,hi,rfl,hπ⟩
 by_cases hlt:(i:Int) < (stem.length:Nat)
 ·obtain ⟨n,hn⟩:∃ n,stem[i]? = some n:=⟨stem[i]'(by omega),List.getElem?_eq_getElem (by omega)⟩
  have hcut:=N16_at hn
  have hnb:=b1 n (List.mem_of_getElem? hn)
  have w1:IntKind.i64.wrap ((n:Nat):Int)=((n:Nat):Int):=wrap64 (by omega) (by omega)
  have w2:IntKind.i64.wrap (((i:Nat):Int) + 1)=((i + 1:Nat):Int):=by rw [wrap64 (by omega) (by omega)];omega
  have hit:=hI n (by omega)
  have hsz:=hIs n (by omega)
  have hsz1:(⟨#[32]⟩:ByteArray).size=1:=rfl
  have a1:(itS n).size + (⟨#[32]⟩:ByteArray).size < 9223372036854775808:=by omega
  have hbl:=lenS (stem.take i) (fun m hm=>b1 m (List.mem_of_mem_take hm))
  have htl:(stem.take i).length≤stem.length:=by rw [List.length_take];omega
  have hw:=wstr_ok hm hC _ (outS itS (stem.take i)) (itS n++⟨#[32]⟩) (by rw [ba_app_list];simp) (by rw [ba_append_size'];omega) (by omega) hwc π hπ
  rw [ba_app_list,show (⟨#[32]⟩:ByteArray).data.toList=[32] from rfl,show (itS n).data.toList=digs itS n from rfl,← outS_snoc,show stem.take i++[n]=stem.take (i + 1) by rw [List.take_add_one,hn];rfl] at hw
  repeat (refine PRun.wpn rfl ?_;simp only [SW,↓reduceIte,ltB_t hlt,hlt,hcut,w1])
  refine .refl (PFun.to (hit) rfl (POps.wp ?_))
  simp only [SW,bi_addS a1]
  refine .refl (PToE.mono (PToB.toE hw rfl (Nat.zero_le _)) ?_)
  rintro r π' hπ'
  refine POps.wp ?_
  simp only [wo_nil,setP]
  repeat (refine PRun.wpn rfl ?_;simp only [SW,w2])
  refine Gh.mask mkWtA1 ?_
  exact ⟨stem.length - (i + 1),by omega,i + 1,rfl,by omega,rfl,hπ'⟩
 ·have hil:i=stem.length:=by omega
  subst hil
  rw [List.take_length] at hπ
  have hbl:=lenS stem b1
  have hw:=wbyte_ok hm hC _ (outS itS stem) 40 (by omega) hwc π hπ
  rw [show ((40:UInt8).toNat:Int)=40 from rfl] at hw
  repeat (refine PRun.wpn rfl ?_;simp only [SW,↓reduceIte,ltB_f hlt])
  refine .refl (PToE.mono (PToB.toE hw rfl (Nat.zero_le _)) ?_)
  rintro r π' (⟨h0,_⟩ | ⟨_,rfl⟩)
  ·simp at h0
  refine POps.wp ?_
  simp only [wo_nil,setP,bst]
  repeat (refine PRun.wpn rfl ?_;simp only [SW,↓reduceIte,reduceCtorEq])
  refine PRun.gh (Gh.mask mkWtA2 ?_)
  simp only [mkWtA2,↓reduceIte,Bool.false_eq_true,maskP]
  refine PRun.loopG (fun m t π=>∃ i:Nat,t=(.junk::.junk::.junk::.ptr 1 0::.junk::.junk::.junk::.junk::.junk::.junk::.junk::.junk::.junk::.junk::.junk::.junk::.junk::.junk::.junk::.junk::.junk::.junk::.junk::.junk::.junk::.junk::.junk::.sz (N16 loop) loop.length::.lit (.int .i64 (loop.length:Nat))::.lit (.int .i64 (i:Nat))::.junk::.junk::.junk::.junk::.junk::.junk::.junk::.junk::.junk::.junk::.junk::.junk::.junk::.junk::[])∧i≤loop.length∧m=loop.length - i∧BSt [.sz (N16 stem) stem.length,.sz (N16 loop) loop.length] (outS itS stem++[40]++oL itS true (loop.take i)) π) ?_ loop.length _ _ ⟨0,rfl,by omega,rfl,.inr ⟨by simp,by simp only [SW,oL];rfl⟩⟩
  rintro m t π ⟨i,rfl,hi,rfl,hπ⟩
  have hbl2:=lenL (loop.take i) true (fun m hm=>b2 m (List.mem_of_mem_take hm))
  have htl:(loop.take i).length≤loop.length:=by rw [List.length_take];omega
  by_cases hlt:(i:Int) < (loop.length:Nat)
  ·obtain ⟨n,hn⟩:∃ n,loop[i]? = some n:=⟨loop[i]'(by omega),List.getElem?_eq_getElem (by omega)⟩
   have hcut:=N16_at hn
   have hnb:=b2 n (List.mem_of_getElem? hn)
   have w1:IntKind.i64.wrap ((n:Nat):Int)=((n:Nat):Int):=wrap64 (by omega) (by omega)
   have w2:IntKind.i64.wrap (((i:Nat):Int) + 1)=((i + 1:Nat):Int):=by rw [wrap64 (by omega) (by omega)];omega
   have hit:=hI n (by omega)
   have hsz:=hIs n (by omega)
   have hne:=hIn n (by omega)
   have htk:loop.take (i + 1)=loop.take i++[n]:=by rw [List.take_add_one,hn];rfl
   by_cases hi0:i=0
   ·have hw:=wstr_ok hm hC _ (outS itS stem++[40]++oL itS true (loop.take i)) (itS n) hne (by omega) (by simp only [SW,List.length_append];omega) hwc π hπ
    rw [show (itS n).data.toList=digs itS n from rfl,show outS itS stem++[40]++oL itS true (loop.take i)++digs itS n=outS itS stem++[40]++oL itS true (loop.take (i + 1)) by rw [htk,oL_snoc,hi0];simp [oL]] at hw
    repeat (refine PRun.wpn rfl ?_;simp only [SW,↓reduceIte,ltB_t hlt,hlt,hcut,w1,ltB_f (show ¬ (0:Int) < ((i:Nat):Int) by omega)])
    refine .refl (PFun.to (hit) rfl (POps.wp ?_))
    simp only [SW]
    refine .refl (PToE.mono (PToB.toE hw rfl (Nat.zero_le _)) ?_)
    rintro r π' hπ'
    refine POps.wp ?_
    simp only [wo_nil,setP]
    repeat (refine PRun.wpn rfl ?_;simp only [SW,w2])
    refine Gh.mask mkWtA2 ?_
    exact ⟨loop.length - (i + 1),by omega,i + 1,rfl,by omega,rfl,hπ'⟩
   ·have hw0:=wbyte_ok hm hC _ (outS itS stem++[40]++oL itS true (loop.take i)) 32 (by simp only [SW,List.length_append];omega) hwc π hπ
    rw [show ((32:UInt8).toNat:Int)=32 from rfl] at hw0
    have hnil:¬ (loop.take i=[]):=fun e=>by
     have h3:(loop.take i).length=i:=by rw [List.length_take];omega
     rw [e] at h3
     exact hi0 h3.symm
    have hw:=fun π' hπ'=>wstr_ok hm hC _ (outS itS stem++[40]++oL itS true (loop.take i)++[32]) (itS n) hne (by omega) (by simp only [SW,List.length_append];omega) hwc π' hπ'
    rw [show (itS n).data.toList=digs itS n from rfl,show outS itS stem++[40]++oL itS true (loop.take i)++[32]++digs itS n=outS itS stem++[40]++oL itS true (loop.take (i + 1)) by rw [htk,oL_snoc];simp [hnil]] at hw
    repeat (refine PRun.wpn rfl ?_;simp only [SW,↓reduceIte,ltB_t hlt,hlt,hcut,ltB_t (show (0:Int) < ((i:Nat):Int) by omega)])
    refine .refl (PToE.mono (PToB.toE hw0 rfl (Nat.zero_le _)) ?_)
    rintro r π' hπ'
    refine POps.wp ?_
    simp only [wo_nil,setP]
    refine PRun.gh (Gh.mask (false::false::false::true::false::false::false::true::false::false::false::false::false::false::false::false::false::false::false::false::false::false::false::false::false::false::false::true::true::true::false::false::false::false::false::false::false::false::false::false::false::false::false::false::[]) ?_)
    simp only [↓reduceIte,Bool.false_eq_true,maskP]
    repeat (refine PRun.wpn rfl ?_;simp only [SW,w1])
    refine .refl (PFun.to (hit) rfl (POps.wp ?_))
    simp only [SW]
    refine .refl (PToE.mono (PToB.toE (hw _ hπ') rfl (Nat.zero_le _)) ?_)
    rintro r π' hπ'
    refine POps.wp ?_
    simp only [wo_nil,setP]
    repeat (refine PRun.wpn rfl ?_;simp only [SW,w2])
    refine Gh.mask mkWtA2 ?_
    exact ⟨loop.length - (i + 1),by omega,i + 1,rfl,by omega,rfl,hπ'⟩
  ·have hil:i=loop.length:=by omega
   subst hil
   rw [List.take_length] at hπ hbl2
   have hw:=wbyte_ok hm hC _ (outS itS stem++[40]++oL itS true loop) 41 (by simp only [SW,List.length_append];omega) hwc π hπ
   rw [show ((41:UInt8).toNat:Int)=41 from rfl] at hw
   have hst:=strb_ok hm hC [.sz (N16 stem) stem.length,.sz (N16 loop) loop.length] (outS itS stem++[40]++oL itS true loop++[41]) (by simp) (by simp only [SW,List.length_append];omega)
   repeat (refine PRun.wpn rfl ?_;simp only [SW,↓reduceIte,ltB_f hlt])
   refine .refl (PToE.mono (PToB.toE hw rfl (Nat.zero_le _)) ?_)
   rintro r π' (⟨h0,_⟩ | ⟨_,rfl⟩)
   ·simp at h0
   refine POps.wp ?_
   simp only [wo_nil,setP]
   refine PRun.gh (Gh.mask (false::false::false::true::false::false::false::false::false::false::false::false::false::false::false::false::false::false::false::false::false::false::false::false::false::false::false::false::false::false::false::false::false::false::false::false::false::false::false::false::false::false::false::false::[]) ?_)
   simp only [↓reduceIte,Bool.false_eq_true,maskP]
   repeat (refine PRun.wpn rfl ?_;simp only [SW])
   refine .refl (PToE.mono (PToB.toE hst rfl (Nat.zero_le _)) ?_)
   rintro r π' rfl
   refine POps.wp ?_
   simp only [SW]
   repeat (refine PRun.wpn rfl ?_;simp only [wp,or_true,true_and,reduceCtorEq])
   exact .refl ⟨_,rfl,.refl _⟩
theorem show_nil (stem:List Nat):PFun C 34 [.agg [.sz (N16 stem) stem.length,.sz (N16 []) 0]] (.lit (.string ⟨#[]⟩)):=by
 refine PFun.body hm hC (show Tryd.tab.get 34=some Tryd.c34 from rfl) rfl ?_
 simp only [SW,Tryd.c34,startP,Nat.reduceAdd,Nat.reduceSub,List.replicate]
 repeat (refine PRun.wpn rfl ?_;simp only [SW,↓reduceIte,reduceCtorEq,eqB_t (show (0:Int)=0 from rfl)])
 exact .refl ⟨_,rfl,.refl _⟩
end
end Go.Proofs.YtkldgoapompinaaDoor.Ai
namespace Go.Proofs.YtkldgoapompinaaDoor.Ai
set_option linter.unusedSimpArgs false
open Go
set_option linter.unusedVariables false
set_option linter.unusedSectionVars false
set_option maxRecDepth 10000
set_option maxHeartbeats 4000000
def rdM:Nat→Nat→List UInt8→List Nat→List Nat→Bool→Bool→Bool→(List Nat × List Nat) × Nat × Nat
 | 0,i,_,_,_,_,_,_=>(([],[]),51,i)
 | k + 1,i,[],st,lp,o,sh,p=>if sh=true then ((st,lp),0,0) else (([],[]),51,i)
 | k + 1,i,c::l,st,lp,o,sh,p=>
  if c.toNat=32 then rdM k (i + 1) l st lp o sh true
  else if c.toNat=40∧o=false then rdM k (i + 1) l st lp true sh true
  else if c.toNat=41∧o=true∧sh=false∧lp ≠ [] then rdM k (i + 1) l st lp o true p
  else if (48≤c.toNat∧c.toNat≤57)∧p=true∧sh=false then
   rdM k (i + (numL 0 0 (c::l)).2) ((c::l).drop (numL 0 0 (c::l)).2) (if o=true then st else st++[(numL 0 0 (c::l)).1]) (if o=true then lp++[(numL 0 0 (c::l)).1] else lp) o sh false
  else (([],[]),51,i)
noncomputable def readM (s:ByteArray):(List Nat × List Nat) × Nat × Nat:=if ltB 65536 (s.size:Nat)=true then (([],[]),51,65536) else rdM (s.size + 1) 0 s.data.toList [] [] false false true
def rz:PObj:=.cells [.lit (.slice none 0 0),.lit (.slice none 0 0)] 25 2 true false []
def RSt (st lp:List Nat) (π:PW):Prop:=
 (st=[]∧lp=[]∧π=⟨4,[(1,.cells [.lit (.slice none 0 0),.lit (.slice none 0 0)] 25 2 true false []),(0,.cells [.lit (.slice none 0 0),.lit (.slice none 0 0)] 25 2 true false [])]⟩)∨
 (st ≠ []∧lp=[]∧π=⟨4,[(2,.cells (N16 st) 54 1 false false []),(1,.cells [.loc 2 0 st.length st.length,.lit (.slice none 0 0)] 25 2 true false []),(0,.cells [.lit (.slice none 0 0),.lit (.slice none 0 0)] 25 2 true false [])]⟩)∨
 (st=[]∧lp ≠ []∧π=⟨4,[(3,.cells (N16 lp) 54 1 false false []),(1,.cells [.lit (.slice none 0 0),.loc 3 0 lp.length lp.length] 25 2 true false []),(0,.cells [.lit (.slice none 0 0),.lit (.slice none 0 0)] 25 2 true false [])]⟩)∨
 (st ≠ []∧lp ≠ []∧π=⟨4,[(3,.cells (N16 lp) 54 1 false false []),(2,.cells (N16 st) 54 1 false false []),(1,.cells [.loc 2 0 st.length st.length,.loc 3 0 lp.length lp.length] 25 2 true false []),(0,.cells [.lit (.slice none 0 0),.lit (.slice none 0 0)] 25 2 true false [])]⟩)
theorem pure_N16:∀ l:List Nat,pureL (N16 l)=true
 | []=>rfl
 | b::l=>by have:=pure_N16 l;simp only [SW,N16,List.map_cons] at this ⊢;exact this
section
variable {C:Ctx} (hm:C.P.follows .mixedOrders=true) (hC:TabOK C.P C.ng C.ts Tryd.tab)
include hm hC
end
end Go.Proofs.YtkldgoapompinaaDoor.Ai
namespace Go.Proofs.YtkldgoapompinaaDoor.Ai
set_option linter.unusedSimpArgs false
open Go
set_option linter.unusedSimpArgs false
set_option linter.unusedVariables false
set_option linter.unusedSectionVars false
set_option maxRecDepth 10000
theorem dig_byte {k:Nat} (h:k < 10):(UInt8.ofNat (48 + k)).toNat=48 + k:=by
 rw [UInt8.toNat_ofNat'];omega
theorem dec_ne (u:Nat):Lib.decDigits u ≠ []:=fun e=>by
 have h:=Lib.decDigits_length u
 rw [e] at h
 have:=Lib.nDigits_pos u
 simp at h;omega
theorem nDigits_le5 (u:Nat) (h:u < 65536):Lib.nDigits u≤5:=by
 by_cases h1:u < 10
 ·rw [Lib.nDigits_small h1];omega
 rw [Lib.nDigits_big h1]
 by_cases h2:u / 10 < 10
 ·rw [Lib.nDigits_small h2];omega
 rw [Lib.nDigits_big h2]
 by_cases h3:u / 10 / 10 < 10
 ·rw [Lib.nDigits_small h3];omega
 rw [Lib.nDigits_big h3]
 by_cases h4:u / 10 / 10 / 10 < 10
 ·rw [Lib.nDigits_small h4];omega
 rw [Lib.nDigits_big h4,Lib.nDigits_small (by omega)];omega
end Go.Proofs.YtkldgoapompinaaDoor.Ai
namespace Go.Proofs.YtkldgoapompinaaDoor.Ai
set_option linter.unusedSimpArgs false
open Go
set_option linter.unusedVariables false
set_option linter.unusedSectionVars false
set_option maxRecDepth 10000
set_option maxHeartbeats 1000000
section
variable {C:Ctx} (hm:C.P.follows .mixedOrders=true) (hC:TabOK C.P C.ng C.ts Tryd.tab)
include hm hC
end
end Go.Proofs.YtkldgoapompinaaDoor.Ai
namespace Go.Proofs.YtkldgoapompinaaDoor.Ai
set_option linter.unusedSimpArgs false
open Go
set_option linter.unusedVariables false
set_option linter.unusedSectionVars false
set_option maxRecDepth 10000
set_option maxHeartbeats 4000000
def slotP (p:Nat × Nat):PV:=if p.2=0 then .lit (.slice none 0 0) else .loc p.1 0 p.2 p.2
theorem slotP_nil {p:Nat × Nat} (h:p.2=0):slotP p = .lit (.slice none 0 0):=by unfold slotP;rw [if_pos h]
theorem slotP_loc {p:Nat × Nat} (h:p.2 ≠ 0):slotP p = .loc p.1 0 p.2 p.2:=by unfold slotP;rw [if_neg h]
def w1 (i k:Nat):Int:=IntKind.u16.wrap (IntKind.i64.wrap (IntKind.i64.wrap ((i:Int) * 1009) + IntKind.i64.wrap ((k:Int) * 31)))
def w2 (i k:Nat):Int:=IntKind.u16.wrap (IntKind.i64.wrap (IntKind.i64.wrap (IntKind.i64.wrap (-1 - (i:Int)) * 1009) + IntKind.i64.wrap ((k:Int) * 31)))
def mk1 (i k:Nat):PV:=.lit (.int .u16 (w1 i k))
def mk2 (i k:Nat):PV:=.lit (.int .u16 (w2 i k))
def Rdb (H:List (Nat × PObj)) (nx id:Nat) (cs:List PV):Prop:=id < nx∧∃ ty esz ex ret al,look H id=some (.cells cs ty esz ex ret al)
theorem Rdb.push {H:List (Nat × PObj)} {nx id:Nat} {cs:List PV} (h:Rdb H nx id cs) (o:PObj):Rdb ((nx,o)::H) (nx + 1) id cs:=by
 obtain ⟨h1,ty,esz,ex,ret,al,h2⟩:=h
 refine ⟨by omega,ty,esz,ex,ret,al,?_⟩
 simp only [look]
 rw [if_neg (by omega)];exact h2
theorem Rdb.retire {H:List (Nat × PObj)} {nx id c:Nat} {cs cs0:List PV} {ty esz:Nat} {ex r r':Bool} {al al':List Nat} (hc:look H c=some (.cells cs0 ty esz ex r al)) (h:Rdb H nx id cs):Rdb (setO H c (.cells cs0 ty esz ex r' al')) nx id cs:=by
 obtain ⟨h1,ty',esz',ex',ret,al2,h2⟩:=h
 refine ⟨h1,?_⟩
 rw [look_setO]
 split
 ·rename_i e;subst e
  rw [hc] at h2;cases h2
  exact ⟨_,_,_,_,_,by rw [hc];rfl⟩
 ·exact ⟨_,_,_,_,_,h2⟩
theorem look_push {H:List (Nat × PObj)} {nx id:Nat} {o x:PObj} (h:look H id=some x) (hl:id < nx):look ((nx,o)::H) id=some x:=by
 simp only [look];rw [if_neg (by omega)];exact h
theorem look_set_ne {H:List (Nat × PObj)} {id c:Nat} {o x:PObj} (h:look H id=some x) (hl:id ≠ c):look (setO H c o) id=some x:=by
 rw [look_setO,if_neg hl];exact h
structure Lists (H:List (Nat × PObj)) (nx b j:Nat) (ps:List (Nat × Nat)) (Mk:Nat→Nat→Prop):Prop where
 arr:Rdb H nx j (ps.map slotP)
 lst:∀ (i:Nat) (p:Nat × Nat),ps[i]? = some p→p.2 ≠ 0→b≤p.1∧p.1 < nx∧∃ cs,cs.length=p.2∧look H p.1=some (.cells cs 54 1 false false [])∧∀ k,k < p.2→Mk i k→cs[k]? = some (mk1 i k)
def Distinct (j:Nat) (ps:List (Nat × Nat)):Prop:=(∀ (i i':Nat) (p p':Nat × Nat),ps[i]? = some p→ps[i']? = some p'→p.2 ≠ 0→p'.2 ≠ 0→p.1=p'.1→i=i')∧∀ (i:Nat) (p:Nat × Nat),ps[i]? = some p→p.2 ≠ 0→p.1 ≠ j
theorem nth_slot {ps:List (Nat × Nat)} {i:Nat} {p:Nat × Nat} (h:ps[i]? = some p):nthP (ps.map slotP) i=some (slotP p):=by
 rw [nthP_eq,List.getElem?_map,h];rfl
theorem splice1 {cs:List PV} {k:Nat} (v:PV) (h:k < cs.length):spliceP cs k [v]=some (cs.set k v):=by
 rw [spliceP_eq cs k [v] (by simp only [SW];omega),List.set_eq_take_append_cons_drop,if_pos h];rfl
theorem Lists.mark {H:List (Nat × PObj)} {nx b j:Nat} {ps:List (Nat × Nat)} (hd:Distinct j ps) {i k:Nat} {p:Nat × Nat} (hp:ps[i]? = some p) (hp0:p.2 ≠ 0) (hk:k < p.2) {cs:List PV}
  (hc:look H p.1=some (.cells cs 54 1 false false [])) (hcl:cs.length=p.2) (h:Lists H nx b j ps fun i' k'=>i' < i∨(i'=i∧k' < k)) :
  Lists (setO H p.1 (.cells (cs.set k (mk1 i k)) 54 1 false false [])) nx b j ps fun i' k'=>i' < i∨(i'=i∧k' < k + 1):=by
 constructor
 ·obtain ⟨h1,ty,esz,ex,ret,al,h2⟩:=h.arr
  exact ⟨h1,ty,esz,ex,ret,al,look_set_ne h2 fun e=>hd.2 i p hp hp0 e.symm⟩
 ·intro i' p' hp' h0
  obtain ⟨g1,g2,cs',g3,g4,g5⟩:=h.lst i' p' hp' h0
  refine ⟨g1,g2,?_⟩
  by_cases he:i'=i
  ·subst he
   rw [hp] at hp';cases hp'
   rw [hc] at g4;cases g4
   refine ⟨cs.set k (mk1 i' k),by rw [List.length_set];exact hcl,by rw [look_setO,if_pos rfl,hc];rfl,fun k' hk' hm=>?_⟩
   by_cases hkk:k'=k
   ·subst hkk;rw [List.getElem?_set_self (by omega)]
   ·rw [List.getElem?_set_ne (fun e=>hkk e.symm)]
    exact g5 k' hk' (hm.imp id fun h=>⟨rfl,by have:=h.2;omega⟩)
  ·refine ⟨cs',g3,look_set_ne g4 fun e=>he (hd.1 i' i p' p hp' hp h0 hp0 e),fun k' hk' hm=>g5 k' hk' ?_⟩
   rcases hm with hm | ⟨hm,_⟩
   ·exact .inl hm
   ·exact absurd hm he
theorem Lists.done {H:List (Nat × PObj)} {nx b j:Nat} {ps:List (Nat × Nat)} {i:Nat} {p:Nat × Nat} (hp:ps[i]? = some p) (h:Lists H nx b j ps fun i' k'=>i' < i∨(i'=i∧k' < p.2)):Lists H nx b j ps fun i' _=>i' < i + 1:=
 ⟨h.arr,fun i' p' hp' h0=>by
  obtain ⟨g1,g2,cs,g3,g4,g5⟩:=h.lst i' p' hp' h0
  refine ⟨g1,g2,cs,g3,g4,fun k hk hm=>g5 k hk ?_⟩
  by_cases he:i'=i
  ·subst he;rw [hp] at hp';cases hp';exact .inr ⟨rfl,hk⟩
  ·exact .inl (by omega)⟩
theorem Lists.none {H:List (Nat × PObj)} {nx b j:Nat} {ps:List (Nat × Nat)} {i:Nat} {p:Nat × Nat} (hp:ps[i]? = some p) (h0:p.2=0) (h:Lists H nx b j ps fun i' _=>i' < i):Lists H nx b j ps fun i' _=>i' < i + 1:=
 ⟨h.arr,fun i' p' hp' h0'=>by
  obtain ⟨g1,g2,cs,g3,g4,g5⟩:=h.lst i' p' hp' h0'
  refine ⟨g1,g2,cs,g3,g4,fun k hk hm=>g5 k hk ?_⟩
  by_cases he:i'=i
  ·subst he;rw [hp] at hp';cases hp';exact absurd h0 h0'
  ·show i' < i;omega⟩
structure Long (H:List (Nat × PObj)) (nx b j lv i:Nat) (ps xs:List (Nat × Nat)):Prop where
 bn:b≤nx
 arr:Rdb H nx j (ps.map slotP)
 old:∀ (i':Nat) (p:Nat × Nat),ps[i']? = some p→p.2 ≠ 0→b≤p.1∧∃ cs,Rdb H nx p.1 cs∧cs.length=p.2∧∀ k,k < p.2→cs[k]? = some (mk1 i' k)
 live:∀ (i':Nat) (p:Nat × Nat),ps[i']? = some p→p.2 ≠ 0→lv≤i'→∃ cs,look H p.1=some (.cells cs 54 1 false false [])
 xl:xs.length=i
 new:∀ (i':Nat) (p:Nat × Nat),i' < i→ps[i']? = some p→∃ x cs,xs[i']? = some (x,p.2 + 16)∧Rdb H nx x cs∧cs.length=p.2 + 16∧(∀ k,k < p.2→cs[k]? = some (mk1 i' k))∧∀ k,k < 16→cs[p.2 + k]? = some (mk2 i' k)
theorem Long.push {H:List (Nat × PObj)} {nx b j lv i:Nat} {ps xs:List (Nat × Nat)} (h:Long H nx b j lv i ps xs) (o:PObj):Long ((nx,o)::H) (nx + 1) b j lv i ps xs:=
 ⟨by have:=h.bn;omega,h.arr.push o,fun i' p hp h0=>by
  obtain ⟨g0,cs,g1,g2,g3⟩:=h.old i' p hp h0
  exact ⟨g0,cs,g1.push o,g2,g3⟩,fun i' p hp h0 hl=>by
  obtain ⟨cs,g1⟩:=h.live i' p hp h0 hl
  obtain ⟨_,_,g2,_⟩:=h.old i' p hp h0
  exact ⟨cs,look_push g1 g2.1⟩,h.xl,fun i' p hi hp=>by
  obtain ⟨x,cs,g1,g2,g3⟩:=h.new i' p hi hp
  exact ⟨x,cs,g1,g2.push o,g3⟩⟩
theorem Long.retire {H:List (Nat × PObj)} {nx b j lv i c:Nat} {ps xs:List (Nat × Nat)} (h:Long H nx b j lv i ps xs) {cs0:List PV} {ty esz:Nat} {ex r r':Bool} {al al':List Nat} (hc:look H c=some (.cells cs0 ty esz ex r al))
  (hl:∀ (i':Nat) (p:Nat × Nat),ps[i']? = some p→p.2 ≠ 0→lv≤i'→p.1 ≠ c):Long (setO H c (.cells cs0 ty esz ex r' al')) nx b j lv i ps xs:=
 ⟨h.bn,h.arr.retire hc,fun i' p hp h0=>by
  obtain ⟨g0,cs,g1,g2,g3⟩:=h.old i' p hp h0
  exact ⟨g0,cs,g1.retire hc,g2,g3⟩,fun i' p hp h0 hv=>by
  obtain ⟨cs,g1⟩:=h.live i' p hp h0 hv
  exact ⟨cs,look_set_ne g1 (hl i' p hp h0 hv)⟩,h.xl,fun i' p hi hp=>by
  obtain ⟨x,cs,g1,g2,g3⟩:=h.new i' p hi hp
  exact ⟨x,cs,g1,g2.retire hc,g3⟩⟩
theorem Long.later {H:List (Nat × PObj)} {nx b j lv i:Nat} {ps xs:List (Nat × Nat)} (h:Long H nx b j lv i ps xs):Long H nx b j (lv + 1) i ps xs:=
 ⟨h.bn,h.arr,h.old,fun i' p hp h0 hv=>h.live i' p hp h0 (by omega),h.xl,h.new⟩
def Cur (H:List (Nat × PObj)) (nx b c n k i:Nat) (ps:List (Nat × Nat)):Prop:=
 n + k=0∨(b≤c∧c < nx∧∃ cs al,cs.length=n + k∧look H c=some (.cells cs 54 1 false false al)∧(∀ k',k' < n→cs[k']? = some (mk1 i k'))∧(∀ k',k' < k→cs[n + k']? = some (mk2 i k'))∧∀ (i':Nat) (p:Nat × Nat),ps[i']? = some p→p.2 ≠ 0→i + 1≤i'→p.1 ≠ c)
def Lg (H:List (Nat × PObj)) (nx b jl i:Nat) (xs:List (Nat × Nat)):Prop:=
 i=0∨(b≤jl∧jl < nx∧∃ al,look H jl=some (.cells (xs.map slotP) 23 1 false false al))
theorem Lg.push {H:List (Nat × PObj)} {nx b jl i:Nat} {xs:List (Nat × Nat)} (h:Lg H nx b jl i xs) (o:PObj):Lg ((nx,o)::H) (nx + 1) b jl i xs:=by
 rcases h with h | ⟨h1,h2,al,h3⟩
 ·exact .inl h
 ·exact .inr ⟨h1,by omega,al,look_push h3 h2⟩
theorem Lg.retire {H:List (Nat × PObj)} {nx b jl i c:Nat} {xs:List (Nat × Nat)} (h:Lg H nx b jl i xs) {cs0:List PV} {esz:Nat} {ex r r':Bool} {al al':List Nat} (hc:look H c=some (.cells cs0 54 esz ex r al)):Lg (setO H c (.cells cs0 54 esz ex r' al')) nx b jl i xs:=by
 rcases h with h | ⟨h1,h2,al,h3⟩
 ·exact .inl h
 ·exact .inr ⟨h1,h2,al,look_set_ne h3 fun e=>by subst e;rw [hc] at h3;cases h3⟩
def Keep (b:Nat) (H0 H:List (Nat × PObj)):Prop:=∀ id o,id < b→look H0 id=some o→look H id=some o
theorem Keep.push {b nx:Nat} {H0 H:List (Nat × PObj)} (h:Keep b H0 H) (hb:b≤nx) (o:PObj):Keep b H0 ((nx,o)::H):=fun id x hi hx=>look_push (h id x hi hx) (by omega)
theorem Keep.set {b c:Nat} {H0 H:List (Nat × PObj)} (h:Keep b H0 H) (hb:b≤c) (o:PObj):Keep b H0 (setO H c o):=fun id x hi hx=>look_set_ne (h id x hi hx) (by omega)
structure KeepB (b B nx:Nat) (H0 H:List (Nat × PObj)):Prop where
 keep:Keep b H0 H
 nx:B≤nx
theorem KeepB.push {b B nx:Nat} {H0 H:List (Nat × PObj)} (h:KeepB b B nx H0 H) (hb:b≤nx) (o:PObj):KeepB b B (nx + 1) H0 ((nx,o)::H):=⟨h.keep.push hb o,Nat.le_succ_of_le h.nx⟩
theorem KeepB.set {b B nx c:Nat} {H0 H:List (Nat × PObj)} (h:KeepB b B nx H0 H) (hb:b≤c) (o:PObj):KeepB b B nx H0 (setO H c o):=⟨h.keep.set hb o,h.nx⟩
theorem Long.snoc {H:List (Nat × PObj)} {nx b j lv i c:Nat} {ps xs:List (Nat × Nat)} {p:Nat × Nat} {cs:List PV} (h:Long H nx b j lv i ps xs) (hp:ps[i]? = some p) (hc:Rdb H nx c cs) (hl:cs.length=p.2 + 16)
  (h1:∀ k,k < p.2→cs[k]? = some (mk1 i k)) (h2:∀ k,k < 16→cs[p.2 + k]? = some (mk2 i k)):Long H nx b j lv (i + 1) ps (xs++[(c,p.2 + 16)]):=
 ⟨h.bn,h.arr,h.old,h.live,by rw [List.length_append,h.xl];rfl,fun i' p' hi hp'=>by
  by_cases he:i'=i
  ·subst he
   rw [hp] at hp';cases hp'
   exact ⟨c,cs,by rw [List.getElem?_append_right (by rw [h.xl];omega),h.xl,Nat.sub_self];rfl,hc,hl,h1,h2⟩
  ·obtain ⟨x,cs',g1,g2⟩:=h.new i' p' (by omega) hp'
   exact ⟨x,cs',by rw [List.getElem?_append_left (by rw [h.xl];omega)];exact g1,g2⟩⟩
theorem mark_more {cs:List PV} {n k i:Nat} (hl:cs.length=n + k) (h1:∀ k',k' < n→cs[k']? = some (mk1 i k')) (h2:∀ k',k' < k→cs[n + k']? = some (mk2 i k')) :
  (∀ k',k' < n→(cs++[mk2 i k])[k']? = some (mk1 i k'))∧∀ k',k' < k + 1→(cs++[mk2 i k])[n + k']? = some (mk2 i k'):=by
 refine ⟨fun k' hk=>?_,fun k' hk=>?_⟩
 ·rw [List.getElem?_append_left (by omega)];exact h1 k' hk
 ·by_cases he:k'=k
  ·subst he;rw [List.getElem?_append_right (by omega),show n + k' - cs.length=0 by omega];rfl
  ·rw [List.getElem?_append_left (by omega)];exact h2 k' (by omega)
section
variable {C:Ctx} (hm:C.P.follows .mixedOrders=true) (hC:TabOK C.P C.ng C.ts Tryd.tab)
include hm hC
end
end Go.Proofs.YtkldgoapompinaaDoor.Ai
namespace Go.Proofs.YtkldgoapompinaaDoor.Ai
set_option linter.unusedSimpArgs false
open Go
set_option linter.unusedVariables false
set_option linter.unusedSectionVars false
set_option maxRecDepth 10000
set_option maxHeartbeats 4000000
section
variable {C:Ctx} (hm:C.P.follows .mixedOrders=true) (hC:TabOK C.P C.ng C.ts Tryd.tab)
include hm hC
theorem own62:PFun C 62 [.lit (.slice none 0 0)] (.lit (.bool true)):=by
 have z0:=ltB_f (show ¬ (0:Int) < 0 by omega)
 refine PFun.body hm hC (show Tryd.tab.get 62=some Tryd.c62 from rfl) rfl ?_
 simp only [SW,Tryd.c62,startP,Nat.reduceAdd,Nat.reduceSub,List.replicate]
 repeat (refine PRun.wpn rfl ?_;simp only [SW,reduceCtorEq])
 refine PRun.loopG (fun m t π=>t=_∧π=_) ?_ 0 _ _ ⟨rfl,rfl⟩
 rintro m t π ⟨rfl,rfl⟩
 repeat (refine PRun.wpn rfl ?_;simp only [SW,↓reduceIte,reduceCtorEq,z0])
 refine PRun.loopG (fun m t π=>t=_∧π=_) ?_ 0 _ _ ⟨rfl,rfl⟩
 rintro m t π ⟨rfl,rfl⟩
 repeat (refine PRun.wpn rfl ?_;simp only [SW,↓reduceIte,reduceCtorEq,z0])
 refine PRun.loopG (fun m t π=>t=_∧π=_) ?_ 0 _ _ ⟨rfl,rfl⟩
 rintro m t π ⟨rfl,rfl⟩
 repeat (refine PRun.wpn rfl ?_;simp only [SW,↓reduceIte,reduceCtorEq,z0])
 exact .refl ⟨_,rfl,.refl _⟩
theorem own63:PFun C 63 [.lit (.slice none 0 0)] (.lit (.bool true)):=by
 have z0:=ltB_f (show ¬ (0:Int) < 0 by omega)
 refine PFun.body hm hC (show Tryd.tab.get 63=some Tryd.c63 from rfl) rfl ?_
 simp only [SW,Tryd.c63,startP,Nat.reduceAdd,Nat.reduceSub,List.replicate]
 repeat (refine PRun.wpn rfl ?_;simp only [SW,reduceCtorEq])
 refine PRun.loopG (fun m t π=>t=_∧π=_) ?_ 0 _ _ ⟨rfl,rfl⟩
 rintro m t π ⟨rfl,rfl⟩
 repeat (refine PRun.wpn rfl ?_;simp only [SW,↓reduceIte,reduceCtorEq,z0])
 refine PRun.loopG (fun m t π=>t=_∧π=_) ?_ 0 _ _ ⟨rfl,rfl⟩
 rintro m t π ⟨rfl,rfl⟩
 repeat (refine PRun.wpn rfl ?_;simp only [SW,↓reduceIte,reduceCtorEq,z0])
 refine PRun.loopG (fun m t π=>t=_∧π=_) ?_ 0 _ _ ⟨rfl,rfl⟩
 rintro m t π ⟨rfl,rfl⟩
 repeat (refine PRun.wpn rfl ?_;simp only [SW,↓reduceIte,reduceCtorEq,z0])
 exact .refl ⟨_,rfl,.refl _⟩
theorem own64:PFun C 64 [.lit (.slice none 0 0)] (.lit (.bool true)):=by
 have z0:=ltB_f (show ¬ (0:Int) < 0 by omega)
 refine PFun.body hm hC (show Tryd.tab.get 64=some Tryd.c64 from rfl) rfl ?_
 simp only [SW,Tryd.c64,startP,Nat.reduceAdd,Nat.reduceSub,List.replicate]
 repeat (refine PRun.wpn rfl ?_;simp only [SW,reduceCtorEq])
 refine PRun.loopG (fun m t π=>t=_∧π=_) ?_ 0 _ _ ⟨rfl,rfl⟩
 rintro m t π ⟨rfl,rfl⟩
 repeat (refine PRun.wpn rfl ?_;simp only [SW,↓reduceIte,reduceCtorEq,z0])
 refine PRun.loopG (fun m t π=>t=_∧π=_) ?_ 0 _ _ ⟨rfl,rfl⟩
 rintro m t π ⟨rfl,rfl⟩
 repeat (refine PRun.wpn rfl ?_;simp only [SW,↓reduceIte,reduceCtorEq,z0])
 refine PRun.loopG (fun m t π=>t=_∧π=_) ?_ 0 _ _ ⟨rfl,rfl⟩
 rintro m t π ⟨rfl,rfl⟩
 repeat (refine PRun.wpn rfl ?_;simp only [SW,↓reduceIte,reduceCtorEq,z0])
 exact .refl ⟨_,rfl,.refl _⟩
theorem own65:PFun C 65 [.lit (.slice none 0 0)] (.lit (.bool true)):=by
 have z0:=ltB_f (show ¬ (0:Int) < 0 by omega)
 refine PFun.body hm hC (show Tryd.tab.get 65=some Tryd.c65 from rfl) rfl ?_
 simp only [SW,Tryd.c65,startP,Nat.reduceAdd,Nat.reduceSub,List.replicate]
 repeat (refine PRun.wpn rfl ?_;simp only [SW,reduceCtorEq])
 refine PRun.gh (Gh.mask mkWtA3 ?_)
 simp only [mkWtA3,↓reduceIte,Bool.false_eq_true,maskP]
 refine PRun.loopG (fun m t π=>∃ i:Nat,t=(.lit (.slice none 0 0)::.junk::.junk::.lit (.int .i64 (i:Nat))::.junk::.junk::.junk::.junk::.junk::.junk::.junk::.junk::.junk::.junk::.junk::.junk::.junk::.junk::.junk::.junk::.junk::.junk::.junk::.junk::.junk::.junk::.junk::.junk::.junk::.junk::.junk::.junk::.junk::.junk::.junk::.junk::.junk::.junk::.junk::.junk::.junk::.junk::.junk::.junk::.junk::.junk::.junk::.junk::.junk::.junk::.junk::.junk::.junk::.junk::.junk::.junk::.junk::.junk::.junk::.junk::.junk::.junk::.junk::.junk::.junk::.junk::.junk::.junk::.junk::.junk::.junk::.junk::.junk::.junk::.junk::.junk::.junk::.junk::.junk::.junk::.junk::.junk::.junk::.junk::.junk::.junk::.junk::.junk::.junk::.junk::.junk::.junk::.junk::.junk::.junk::.junk::.junk::.junk::.junk::.junk::.junk::.junk::.junk::.junk::.junk::.junk::.junk::.junk::.junk::.junk::.junk::.junk::.junk::.junk::.junk::.junk::.junk::.junk::.junk::.junk::.junk::.junk::.junk::.junk::.junk::.junk::.junk::.junk::.junk::.junk::.junk::.junk::.junk::.junk::.junk::.junk::.junk::.junk::.junk::.junk::.junk::.junk::.junk::.junk::.junk::.junk::.junk::.junk::.junk::.junk::[])∧m=1 - i∧i≤1∧π=⟨0,[]⟩) ?_ 1 _ _ ⟨0,rfl,rfl,by omega,rfl⟩
 rintro m t π ⟨i,rfl,rfl,hi,rfl⟩
 by_cases h0:((i:Nat):Int)=0
 ·have hw:IntKind.i64.wrap (((i:Nat):Int) + 1)=((i + 1:Nat):Int):=by rw [wrap64 (by omega) (by omega)];omega
  repeat (refine PRun.wpn rfl ?_;simp only [SW,↓reduceIte,eqB_t h0])
  refine PRun.loopG (fun m t π=>t=_∧π=_) ?_ 0 _ _ ⟨rfl,rfl⟩
  rintro m t π ⟨rfl,rfl⟩
  repeat (refine PRun.wpn rfl ?_;simp only [SW,↓reduceIte,z0])
  refine PRun.loopG (fun m t π=>t=_∧π=_) ?_ 0 _ _ ⟨rfl,rfl⟩
  rintro m t π ⟨rfl,rfl⟩
  repeat (refine PRun.wpn rfl ?_;simp only [SW,↓reduceIte,z0])
  refine PRun.loopG (fun m t π=>t=_∧π=_) ?_ 0 _ _ ⟨rfl,rfl⟩
  rintro m t π ⟨rfl,rfl⟩
  repeat (refine PRun.wpn rfl ?_;simp only [SW,↓reduceIte,z0,hw])
  refine Gh.mask mkWtA3 ?_
  exact ⟨0,by omega,i + 1,rfl,by omega,by omega,rfl⟩
 ·obtain rfl:i=1:=by omega
  repeat (refine PRun.wpn rfl ?_;simp only [SW,↓reduceIte,reduceCtorEq,Nat.reduceSub,eqB_f (show ¬ (1:Int)=0 by omega)])
  skip
  exact .refl ⟨_,rfl,.refl _⟩
theorem own67:PFun C 67 [.lit (.slice none 0 0)] (.lit (.bool true)):=by
 have z0:=ltB_f (show ¬ (0:Int) < 0 by omega)
 refine PFun.body hm hC (show Tryd.tab.get 67=some Tryd.c67 from rfl) rfl ?_
 simp only [SW,Tryd.c67,startP,Nat.reduceAdd,Nat.reduceSub,List.replicate]
 repeat (refine PRun.wpn rfl ?_;simp only [SW,reduceCtorEq])
 refine PRun.loopG (fun m t π=>t=_∧π=_) ?_ 0 _ _ ⟨rfl,rfl⟩
 rintro m t π ⟨rfl,rfl⟩
 repeat (refine PRun.wpn rfl ?_;simp only [SW,↓reduceIte,reduceCtorEq,z0])
 refine PRun.loopG (fun m t π=>t=_∧π=_) ?_ 0 _ _ ⟨rfl,rfl⟩
 rintro m t π ⟨rfl,rfl⟩
 repeat (refine PRun.wpn rfl ?_;simp only [SW,↓reduceIte,reduceCtorEq,z0])
 refine PRun.loopG (fun m t π=>t=_∧π=_) ?_ 0 _ _ ⟨rfl,rfl⟩
 rintro m t π ⟨rfl,rfl⟩
 repeat (refine PRun.wpn rfl ?_;simp only [SW,↓reduceIte,reduceCtorEq,z0])
 exact .refl ⟨_,rfl,.refl _⟩
theorem own68:PFun C 68 [.lit (.slice none 0 0)] (.lit (.bool true)):=by
 have z0:=ltB_f (show ¬ (0:Int) < 0 by omega)
 refine PFun.body hm hC (show Tryd.tab.get 68=some Tryd.c68 from rfl) rfl ?_
 simp only [SW,Tryd.c68,startP,Nat.reduceAdd,Nat.reduceSub,List.replicate]
 repeat (refine PRun.wpn rfl ?_;simp only [SW,reduceCtorEq])
 refine PRun.loopG (fun m t π=>t=_∧π=_) ?_ 0 _ _ ⟨rfl,rfl⟩
 rintro m t π ⟨rfl,rfl⟩
 repeat (refine PRun.wpn rfl ?_;simp only [SW,↓reduceIte,reduceCtorEq,z0])
 refine PRun.loopG (fun m t π=>t=_∧π=_) ?_ 0 _ _ ⟨rfl,rfl⟩
 rintro m t π ⟨rfl,rfl⟩
 repeat (refine PRun.wpn rfl ?_;simp only [SW,↓reduceIte,reduceCtorEq,z0])
 refine PRun.loopG (fun m t π=>t=_∧π=_) ?_ 0 _ _ ⟨rfl,rfl⟩
 rintro m t π ⟨rfl,rfl⟩
 repeat (refine PRun.wpn rfl ?_;simp only [SW,↓reduceIte,reduceCtorEq,z0])
 exact .refl ⟨_,rfl,.refl _⟩
theorem own69:PFun C 69 [.lit (.slice none 0 0)] (.lit (.bool true)):=by
 have z0:=ltB_f (show ¬ (0:Int) < 0 by omega)
 refine PFun.body hm hC (show Tryd.tab.get 69=some Tryd.c69 from rfl) rfl ?_
 simp only [SW,Tryd.c69,startP,Nat.reduceAdd,Nat.reduceSub,List.replicate]
 repeat (refine PRun.wpn rfl ?_;simp only [SW,reduceCtorEq])
 refine PRun.loopG (fun m t π=>t=_∧π=_) ?_ 0 _ _ ⟨rfl,rfl⟩
 rintro m t π ⟨rfl,rfl⟩
 repeat (refine PRun.wpn rfl ?_;simp only [SW,↓reduceIte,reduceCtorEq,z0])
 refine PRun.loopG (fun m t π=>t=_∧π=_) ?_ 0 _ _ ⟨rfl,rfl⟩
 rintro m t π ⟨rfl,rfl⟩
 repeat (refine PRun.wpn rfl ?_;simp only [SW,↓reduceIte,reduceCtorEq,z0])
 refine PRun.loopG (fun m t π=>t=_∧π=_) ?_ 0 _ _ ⟨rfl,rfl⟩
 rintro m t π ⟨rfl,rfl⟩
 repeat (refine PRun.wpn rfl ?_;simp only [SW,↓reduceIte,reduceCtorEq,z0])
 exact .refl ⟨_,rfl,.refl _⟩
theorem own70:PFun C 70 [.lit (.slice none 0 0)] (.lit (.bool true)):=by
 have z0:=ltB_f (show ¬ (0:Int) < 0 by omega)
 refine PFun.body hm hC (show Tryd.tab.get 70=some Tryd.c70 from rfl) rfl ?_
 simp only [SW,Tryd.c70,startP,Nat.reduceAdd,Nat.reduceSub,List.replicate]
 repeat (refine PRun.wpn rfl ?_;simp only [SW,reduceCtorEq])
 refine PRun.loopG (fun m t π=>t=_∧π=_) ?_ 0 _ _ ⟨rfl,rfl⟩
 rintro m t π ⟨rfl,rfl⟩
 repeat (refine PRun.wpn rfl ?_;simp only [SW,↓reduceIte,reduceCtorEq,z0])
 refine PRun.loopG (fun m t π=>t=_∧π=_) ?_ 0 _ _ ⟨rfl,rfl⟩
 rintro m t π ⟨rfl,rfl⟩
 repeat (refine PRun.wpn rfl ?_;simp only [SW,↓reduceIte,reduceCtorEq,z0])
 refine PRun.loopG (fun m t π=>t=_∧π=_) ?_ 0 _ _ ⟨rfl,rfl⟩
 rintro m t π ⟨rfl,rfl⟩
 repeat (refine PRun.wpn rfl ?_;simp only [SW,↓reduceIte,reduceCtorEq,z0])
 exact .refl ⟨_,rfl,.refl _⟩
theorem own71:PFun C 71 [.lit (.slice none 0 0)] (.lit (.bool true)):=by
 have z0:=ltB_f (show ¬ (0:Int) < 0 by omega)
 refine PFun.body hm hC (show Tryd.tab.get 71=some Tryd.c71 from rfl) rfl ?_
 simp only [SW,Tryd.c71,startP,Nat.reduceAdd,Nat.reduceSub,List.replicate]
 repeat (refine PRun.wpn rfl ?_;simp only [SW,reduceCtorEq])
 refine PRun.loopG (fun m t π=>t=_∧π=_) ?_ 0 _ _ ⟨rfl,rfl⟩
 rintro m t π ⟨rfl,rfl⟩
 repeat (refine PRun.wpn rfl ?_;simp only [SW,↓reduceIte,reduceCtorEq,z0])
 refine PRun.loopG (fun m t π=>t=_∧π=_) ?_ 0 _ _ ⟨rfl,rfl⟩
 rintro m t π ⟨rfl,rfl⟩
 repeat (refine PRun.wpn rfl ?_;simp only [SW,↓reduceIte,reduceCtorEq,z0])
 refine PRun.loopG (fun m t π=>t=_∧π=_) ?_ 0 _ _ ⟨rfl,rfl⟩
 rintro m t π ⟨rfl,rfl⟩
 repeat (refine PRun.wpn rfl ?_;simp only [SW,↓reduceIte,reduceCtorEq,z0])
 exact .refl ⟨_,rfl,.refl _⟩
theorem own72:PFun C 72 [.lit (.slice none 0 0)] (.lit (.bool true)):=by
 have z0:=ltB_f (show ¬ (0:Int) < 0 by omega)
 refine PFun.body hm hC (show Tryd.tab.get 72=some Tryd.c72 from rfl) rfl ?_
 simp only [SW,Tryd.c72,startP,Nat.reduceAdd,Nat.reduceSub,List.replicate]
 repeat (refine PRun.wpn rfl ?_;simp only [SW,reduceCtorEq])
 refine PRun.loopG (fun m t π=>t=_∧π=_) ?_ 0 _ _ ⟨rfl,rfl⟩
 rintro m t π ⟨rfl,rfl⟩
 repeat (refine PRun.wpn rfl ?_;simp only [SW,↓reduceIte,reduceCtorEq,z0])
 refine PRun.loopG (fun m t π=>t=_∧π=_) ?_ 0 _ _ ⟨rfl,rfl⟩
 rintro m t π ⟨rfl,rfl⟩
 repeat (refine PRun.wpn rfl ?_;simp only [SW,↓reduceIte,reduceCtorEq,z0])
 refine PRun.loopG (fun m t π=>t=_∧π=_) ?_ 0 _ _ ⟨rfl,rfl⟩
 rintro m t π ⟨rfl,rfl⟩
 repeat (refine PRun.wpn rfl ?_;simp only [SW,↓reduceIte,reduceCtorEq,z0])
 exact .refl ⟨_,rfl,.refl _⟩
theorem own73:PFun C 73 [.lit (.slice none 0 0)] (.lit (.bool true)):=by
 have z0:=ltB_f (show ¬ (0:Int) < 0 by omega)
 refine PFun.body hm hC (show Tryd.tab.get 73=some Tryd.c73 from rfl) rfl ?_
 simp only [SW,Tryd.c73,startP,Nat.reduceAdd,Nat.reduceSub,List.replicate]
 repeat (refine PRun.wpn rfl ?_;simp only [SW,reduceCtorEq])
 refine PRun.loopG (fun m t π=>t=_∧π=_) ?_ 0 _ _ ⟨rfl,rfl⟩
 rintro m t π ⟨rfl,rfl⟩
 repeat (refine PRun.wpn rfl ?_;simp only [SW,↓reduceIte,reduceCtorEq,z0])
 refine PRun.loopG (fun m t π=>t=_∧π=_) ?_ 0 _ _ ⟨rfl,rfl⟩
 rintro m t π ⟨rfl,rfl⟩
 repeat (refine PRun.wpn rfl ?_;simp only [SW,↓reduceIte,reduceCtorEq,z0])
 refine PRun.loopG (fun m t π=>t=_∧π=_) ?_ 0 _ _ ⟨rfl,rfl⟩
 rintro m t π ⟨rfl,rfl⟩
 repeat (refine PRun.wpn rfl ?_;simp only [SW,↓reduceIte,reduceCtorEq,z0])
 exact .refl ⟨_,rfl,.refl _⟩
theorem own74:PFun C 74 [.lit (.slice none 0 0)] (.lit (.bool true)):=by
 have z0:=ltB_f (show ¬ (0:Int) < 0 by omega)
 refine PFun.body hm hC (show Tryd.tab.get 74=some Tryd.c74 from rfl) rfl ?_
 simp only [SW,Tryd.c74,startP,Nat.reduceAdd,Nat.reduceSub,List.replicate]
 repeat (refine PRun.wpn rfl ?_;simp only [SW,reduceCtorEq])
 refine PRun.loopG (fun m t π=>t=_∧π=_) ?_ 0 _ _ ⟨rfl,rfl⟩
 rintro m t π ⟨rfl,rfl⟩
 repeat (refine PRun.wpn rfl ?_;simp only [SW,↓reduceIte,reduceCtorEq,z0])
 refine PRun.loopG (fun m t π=>t=_∧π=_) ?_ 0 _ _ ⟨rfl,rfl⟩
 rintro m t π ⟨rfl,rfl⟩
 repeat (refine PRun.wpn rfl ?_;simp only [SW,↓reduceIte,reduceCtorEq,z0])
 refine PRun.loopG (fun m t π=>t=_∧π=_) ?_ 0 _ _ ⟨rfl,rfl⟩
 rintro m t π ⟨rfl,rfl⟩
 repeat (refine PRun.wpn rfl ?_;simp only [SW,↓reduceIte,reduceCtorEq,z0])
 exact .refl ⟨_,rfl,.refl _⟩
end
end Go.Proofs.YtkldgoapompinaaDoor.Ai
namespace Go.Proofs.YtkldgoapompinaaDoor.Ai
set_option linter.unusedSimpArgs false
open Go
set_option linter.unusedSimpArgs false
set_option linter.unusedVariables false
set_option linter.unusedSectionVars false
set_option maxRecDepth 10000
set_option maxHeartbeats 4000000
section
variable {C:Ctx} (hm:C.P.follows .mixedOrders=true) (hC:TabOK C.P C.ng C.ts Tryd.tab)
include hm hC
end
end Go.Proofs.YtkldgoapompinaaDoor.Ai
namespace Go.Proofs.YtkldgoapompinaaDoor.Ai
set_option linter.unusedSimpArgs false
open Go
set_option linter.unusedVariables false
set_option linter.unusedSectionVars false
set_option maxRecDepth 10000
set_option maxHeartbeats 4000000
def objs (i:Nat) (l:List Nat):List (Nat × PObj):=if l=[] then [] else [(i,.cells (N16 l) 54 1 false false [])]
def gheap (st lp:List Nat):PW:=⟨4,objs 3 lp++(objs 2 st++[(0,.cells [slotP (2,st.length),slotP (3,lp.length)] 25 2 true false [])])⟩
theorem slot_z (i:Nat):slotP (i,0) = .lit (.slice none 0 0):=rfl
section
variable {C:Ctx} (hm:C.P.follows .mixedOrders=true) (hC:TabOK C.P C.ng C.ts Tryd.tab)
include hm hC
end
end Go.Proofs.YtkldgoapompinaaDoor.Ai
namespace Go.Proofs.YtkldgoapompinaaDoor.Ai
set_option linter.unusedSimpArgs false
open Go
set_option linter.unusedVariables false
set_option linter.unusedSectionVars false
set_option maxRecDepth 10000
set_option maxHeartbeats 4000000
def isD (c:UInt8):Prop:=48≤c.toNat∧c.toNat≤57
instance (c:UInt8):Decidable (isD c):=inferInstanceAs (Decidable (_∧_))
def sk:List UInt8→Nat
 | []=>0
 | c::l=>if c.toNat=32 then sk l + 1 else 0
def refNum (z:Bool):Nat→List UInt8→Nat × Nat × Bool
 | v,[]=>(v,0,false)
 | v,c::l=>if isD c then (if z=true∨65535 < 10 * v + (c.toNat - 48) then (v,0,true) else ((refNum z (10 * v + (c.toNat - 48)) l).1,(refNum z (10 * v + (c.toNat - 48)) l).2.1 + 1,(refNum z (10 * v + (c.toNat - 48)) l).2.2)) else (v,0,false)
def refLet:Nat→Nat→List UInt8→List Nat→List Nat × Nat × Bool
 | 0,i,_,out=>(out,i,false)
 | k + 1,i,l,out=>
  match l.drop (sk l) with
  | []=>(out,i + sk l,false)
  | c::l2=>
   if isD c then
    (if (refNum (c.toNat == 48) (c.toNat - 48) l2).2.2=true then (out,i + sk l + 1 + (refNum (c.toNat == 48) (c.toNat - 48) l2).2.1,true)
    else refLet k (i + sk l + 1 + (refNum (c.toNat == 48) (c.toNat - 48) l2).2.1) (l2.drop (refNum (c.toNat == 48) (c.toNat - 48) l2).2.1) (out++[(refNum (c.toNat == 48) (c.toNat - 48) l2).1]))
   else (out,i + sk l,false)
def rErr (i:Nat):(List Nat × List Nat) × Nat × Nat:=(([],[]),51,i)
def refR (l:List UInt8):(List Nat × List Nat) × Nat × Nat:=
 if (refLet (l.length + 1) 0 l []).2.2=true then rErr (refLet (l.length + 1) 0 l []).2.1 else
  match l.drop (refLet (l.length + 1) 0 l []).2.1 with
  | []=>rErr (refLet (l.length + 1) 0 l []).2.1
  | c::l2=>if c.toNat=40 then
    (if (refLet (l.length + 1) ((refLet (l.length + 1) 0 l []).2.1 + 1) l2 []).2.2=true then rErr (refLet (l.length + 1) ((refLet (l.length + 1) 0 l []).2.1 + 1) l2 []).2.1 else
     match l2.drop ((refLet (l.length + 1) ((refLet (l.length + 1) 0 l []).2.1 + 1) l2 []).2.1 - ((refLet (l.length + 1) 0 l []).2.1 + 1)) with
     | []=>rErr (refLet (l.length + 1) ((refLet (l.length + 1) 0 l []).2.1 + 1) l2 []).2.1
     | c::l3=>if c.toNat=41∧(refLet (l.length + 1) ((refLet (l.length + 1) 0 l []).2.1 + 1) l2 []).1 ≠ [] then
       (if l3.drop (sk l3)=[] then (((refLet (l.length + 1) 0 l []).1,(refLet (l.length + 1) ((refLet (l.length + 1) 0 l []).2.1 + 1) l2 []).1),0,0) else rErr ((refLet (l.length + 1) ((refLet (l.length + 1) 0 l []).2.1 + 1) l2 []).2.1 + 1 + sk l3))
       else rErr (refLet (l.length + 1) ((refLet (l.length + 1) 0 l []).2.1 + 1) l2 []).2.1)
   else rErr (refLet (l.length + 1) 0 l []).2.1
section
variable {C:Ctx} (hm:C.P.follows .mixedOrders=true) (hC:TabOK C.P C.ng C.ts Tryd.tab)
include hm hC
end
end Go.Proofs.YtkldgoapompinaaDoor.Ai
namespace Go.Proofs.YtkldgoapompinaaDoor.Ai
set_option linter.unusedSimpArgs false
open Go
set_option linter.unusedVariables false
set_option linter.unusedSectionVars false
set_option maxRecDepth 10000
set_option maxHeartbeats 4000000
section
variable {C:Ctx} (hm:C.P.follows .mixedOrders=true) (hC:TabOK C.P C.ng C.ts Tryd.tab)
include hm hC
end
end Go.Proofs.YtkldgoapompinaaDoor.Ai
namespace Go.Proofs.YtkldgoapompinaaDoor.Ai
set_option linter.unusedSimpArgs false
open Go
set_option linter.unusedSimpArgs false
set_option linter.unusedVariables false
set_option linter.unusedSectionVars false
set_option maxRecDepth 10000
noncomputable def sumD:List Nat→Nat
 | []=>0
 | n::l=>Lib.nDigits n + 1 + sumD l
structure Good (B:Nat) (r:(List Nat × List Nat) × Nat × Nat):Prop where
 err:r.1.2=[]→r.1.1=[]∧r.2.1=51
 ok:r.1.2 ≠ []→r.2.1=0∧r.2.2=0
 b1:∀ n∈r.1.1,n < 65536
 b2:∀ n∈r.1.2,n < 65536
 sum:sumD r.1.1 + sumD r.1.2≤B + 1
theorem Good.bad (B i:Nat):Good B (([],[]),51,i):=⟨fun _=>⟨rfl,rfl⟩,fun h=>absurd rfl h,by simp,by simp,Nat.zero_le _⟩
end Go.Proofs.YtkldgoapompinaaDoor.Ai
namespace Go.Proofs.YtkldgoapompinaaDoor.Ai
set_option linter.unusedSimpArgs false
open Go
set_option linter.unusedVariables false
set_option linter.unusedSectionVars false
set_option maxRecDepth 10000
set_option maxHeartbeats 4000000
theorem PFun.wkA' {C:Ctx} {f:FuncId} {a a':List PV} {r:PV} (h:PFun C f a r) (k:WkL a' a):PFun C f a' r:=by
 intro F I σ vargs hG hs hr
 exact h F I σ vargs hG hs (k _ _ _ hr)
def slP (l:List Nat):PV:=if l=[] then .lit (.slice none 0 0) else .sl (N16 l) l.length
def Wd (H:List (Nat × PObj)) (nx i:Nat) (l:List Nat):Prop:=l ≠ []→i < nx∧look H i=some (.cells (N16 l) 54 1 false false [])
theorem Wd.push {H:List (Nat × PObj)} {nx i:Nat} {l:List Nat} (h:Wd H nx i l) (o:PObj):Wd ((nx,o)::H) (nx + 1) i l:=fun hl=>⟨Nat.lt_succ_of_lt (h hl).1,look_push (h hl).2 (h hl).1⟩
theorem Wd.set {H:List (Nat × PObj)} {nx i c:Nat} {l:List Nat} (h:Wd H nx i l) (hc:i ≠ c) (o:PObj):Wd (setO H c o) nx i l:=fun hl=>⟨(h hl).1,look_set_ne (h hl).2 hc⟩
def ldH:List (Nat × List Nat)→List (Nat × PObj)
 | []=>[]
 | (i,l)::xs=>if l=[] then ldH xs else (i,.cells (N16 l) 54 1 false false [])::ldH xs
theorem look_ldH:∀ {xs:List (Nat × List Nat)} {j:Nat} {o:PObj},look (ldH xs) j=some o→∃ l,(j,l)∈xs∧l ≠ []∧o = .cells (N16 l) 54 1 false false []
 | [],j,o,h=>by simp [ldH,look] at h
 | (i,l)::xs,j,o,h=>by
  unfold ldH at h
  split at h
  ·obtain ⟨m,h1,h2⟩:=look_ldH h
   exact ⟨m,by simp [h1],h2⟩
  ·rename_i hl
   simp only [look] at h
   split at h
   ·rename_i e;subst e
    exact ⟨l,by simp,hl,(Option.some.inj h).symm⟩
   ·obtain ⟨m,h1,h2⟩:=look_ldH h
    exact ⟨m,by simp [h1],h2⟩
def Apart (xs:List (Nat × List Nat)):Prop:=xs.Pairwise fun x y=>x.2 ≠ []→y.2 ≠ []→x.1 ≠ y.1
theorem ldH_look:∀ {xs:List (Nat × List Nat)},Apart xs→∀ x∈xs,x.2 ≠ []→look (ldH xs) x.1=some (.cells (N16 x.2) 54 1 false false [])
 | [],_,x,hx,_=>by simp at hx
 | (i,l)::xs,hA,x,hx,h0=>by
  obtain ⟨h1,h2⟩:=List.pairwise_cons.1 hA
  unfold ldH
  rcases List.mem_cons.1 hx with rfl | hx
  ·rw [if_neg h0];simp only [look,if_true]
  ·split
   ·exact ldH_look h2 x hx h0
   ·rename_i hl
    simp only [look]
    rw [if_neg (fun e=>h1 x hx hl h0 e.symm)]
    exact ldH_look h2 x hx h0
def frS (i:Nat) (l:List Nat) (e:List PV):List PV:=if l=[] then e else frzL i (N16 l) e
def frSP (i:Nat) (l:List Nat) (p:PV):PV:=if l=[] then p else frzP i (N16 l) p
def lendP:List (Nat × List Nat)→List PV→List PV
 | [],e=>e
 | (i,l)::xs,e=>lendP xs (frS i l e)
theorem Gh.lend {C:Ctx} {b:Nat}:∀ (xs:List (Nat × List Nat)) (e:List PV) (π:PW),Apart xs→(∀ x∈xs,x.2 ≠ []→look π.heap x.1=some (.cells (N16 x.2) 54 1 false false []))→Gh C b e π fun e' _=>e'=lendP xs e
 | [],e,π,_,_=>.refl rfl
 | (i,l)::xs,e,π,hA,hx=>by
  obtain ⟨h1,h2⟩:=List.pairwise_cons.1 hA
  unfold lendP frS
  by_cases hl:l=[]
  ·rw [if_pos hl]
   exact Gh.lend xs e π h2 fun x hm=>hx x (by simp [hm])
  ·rw [if_neg hl]
   have h0:=hx (i,l) (by simp) hl
   refine (Gh.fzTop (A:=fun e' π'=>e'=frzL i (N16 l) e∧π'=⟨π.next,ldH xs⟩) (H:=ldH xs) i h0 (pure_N16 l) (fun j o hj=>?_) ⟨rfl,rfl⟩).trans ?_
   ·obtain ⟨m,g1,g2,rfl⟩:=look_ldH hj
    refine ⟨hx (j,m) (by simp [g1]) g2,fun e=>h1 (j,m) g1 hl g2 e.symm,fun _ _ _ _ _ al h=>?_⟩
    simp only [PObj.cells.injEq] at h
    rw [← h.2.2.2.2.2];simp
   ·rintro _ _ ⟨rfl,rfl⟩
    exact Gh.lend xs _ _ h2 (ldH_look h2)
theorem PFun.lend {C:Ctx} {b:Nat} {e:List PV} {f:FuncId} {args args0 args1:List PV} {u:Value} {π:PW} (h:PFun C f args0 (.lit u)) (xs:List (Nat × List Nat)) (hA:Apart xs)
  (hx:∀ x∈xs,x.2 ≠ []→look π.heap x.1=some (.cells (N16 x.2) 54 1 false false [])) (h1:lendP xs args=args1) (hw:WkL args1 args0) (hp:pureL args1=true) {A:PV→PW→Prop} (hA':A (.lit u) π) (hb:b≤π.next:=by exact Nat.zero_le _):PToE C b e f args π A:=
 (h.wkA' hw).lent hp ((Gh.lend xs args π hA hx).mono fun _ _ h=>h.trans h1) hA' hb
structure BookI (H:List (Nat × PObj)) (nx bk j:Nat) (ps:List (Nat × Nat)):Prop where
 hbk:bk < nx∧∃ ex,look H bk=some (.cells [.lit (.slice none 0 0),.lit (.slice none 0 0),.lit (.slice none 0 0),.lit (.slice none 0 0),slotP (j,ps.length),.lit (.slice none 0 0),.lit (.slice none 0 0),.lit (.slice none 0 0),.lit (.slice none 0 0),.lit (.slice none 0 0),.lit (.slice none 0 0),.lit (.slice none 0 0),.lit (.slice none 0 0)] 44 13 ex false [])
 arr:ps ≠ []→bk < j∧j < nx∧∃ al,look H j=some (.cells (ps.map slotP) 23 1 false false al)
 lst:∀ (i:Nat) (p:Nat × Nat),ps[i]? = some p→p.2 ≠ 0→bk < p.1∧p.1 < nx∧p.2 < 2 ^ 36∧∃ cs,cs.length=p.2∧look H p.1=some (.cells cs 54 1 false false [])
 dis:Distinct j ps
def Rest (nx bk j:Nat) (H H':List (Nat × PObj)):Prop:=∀ id o,id < nx→id ≠ bk→id ≠ j→look H id=some o→look H' id=some o
theorem BookI.push {H:List (Nat × PObj)} {nx bk j:Nat} {ps:List (Nat × Nat)} (h:BookI H nx bk j ps) (o:PObj):BookI ((nx,o)::H) (nx + 1) bk j ps:=
 ⟨⟨Nat.lt_succ_of_lt h.hbk.1,h.hbk.2.imp fun ex e=>look_push e h.hbk.1⟩,fun h0=>by
  obtain ⟨h1,h2,al,h3⟩:=h.arr h0
  exact ⟨h1,Nat.lt_succ_of_lt h2,al,look_push h3 h2⟩,fun i p hp h0=>by
  obtain ⟨h1,h2,h2',cs,h3,h4⟩:=h.lst i p hp h0
  exact ⟨h1,Nat.lt_succ_of_lt h2,h2',cs,h3,look_push h4 h2⟩,h.dis⟩
theorem BookI.keep {H H':List (Nat × PObj)} {nx nx' bk j:Nat} {ps:List (Nat × Nat)} (h:BookI H nx bk j ps) (hn:nx≤nx') (hk:∀ id o,id < nx→look H id=some o→look H' id=some o):BookI H' nx' bk j ps:=
 ⟨⟨Nat.lt_of_lt_of_le h.hbk.1 hn,h.hbk.2.imp fun ex e=>hk _ _ h.hbk.1 e⟩,fun h0=>by
  obtain ⟨h1,h2,al,h3⟩:=h.arr h0
  exact ⟨h1,Nat.lt_of_lt_of_le h2 hn,al,hk _ _ h2 h3⟩,fun i p hp h0=>by
  obtain ⟨h1,h2,h2',cs,h3,h4⟩:=h.lst i p hp h0
  exact ⟨h1,Nat.lt_of_lt_of_le h2 hn,h2',cs,h3,hk _ _ h2 h4⟩,h.dis⟩
theorem BookI.snoc {H H':List (Nat × PObj)} {nx nx' bk j j':Nat} {ps:List (Nat × Nat)} {p:Nat × Nat} {l:List PV} (h:BookI H nx bk j ps)
  (hp:p.2 ≠ 0→bk < p.1∧p.1 < nx∧p.2 < 2 ^ 36∧l.length=p.2∧look H p.1=some (.cells l 54 1 false false [])∧∀ q∈ps,q.2 ≠ 0→q.1 ≠ p.1)
  (hn:nx≤nx') (hj:nx≤j') (hj':j' < nx') (hb:∃ ex,look H' bk=some (.cells [.lit (.slice none 0 0),.lit (.slice none 0 0),.lit (.slice none 0 0),.lit (.slice none 0 0),slotP (j',(ps++[p]).length),.lit (.slice none 0 0),.lit (.slice none 0 0),.lit (.slice none 0 0),.lit (.slice none 0 0),.lit (.slice none 0 0),.lit (.slice none 0 0),.lit (.slice none 0 0),.lit (.slice none 0 0)] 44 13 ex false []))
  (ha:∃ al,look H' j'=some (.cells ((ps++[p]).map slotP) 23 1 false false al)) (hr:∀ id o,id < nx→id ≠ bk→(ps ≠ []→id ≠ j)→look H id=some o→look H' id=some o):BookI H' nx' bk j' (ps++[p]):=by
 have hbk:=h.hbk.1
 have hne:∀ (i:Nat) (q:Nat × Nat),(ps++[p])[i]? = some q→(i < ps.length∧ps[i]? = some q)∨(i=ps.length∧q=p):=fun i q hq=>by
  by_cases hi:i < ps.length
  ·rw [List.getElem?_append_left hi] at hq;exact .inl ⟨hi,hq⟩
  ·rw [List.getElem?_append_right (by omega)] at hq
   have:i - ps.length=0:=by
    cases hd:i - ps.length with
    | zero=>rfl
    | succ n=>rw [hd] at hq;simp at hq
   rw [this] at hq
   simp only [List.getElem?_cons_zero,Option.some.injEq] at hq
   exact .inr ⟨by omega,hq.symm⟩
 have hlt:∀ (i:Nat) (q:Nat × Nat),(ps++[p])[i]? = some q→q.2 ≠ 0→q.1 < nx:=fun i q hq h0=>by
  rcases hne i q hq with ⟨_,hq⟩ | ⟨_,rfl⟩
  ·exact (h.lst i q hq h0).2.1
  ·exact (hp h0).2.1
 refine ⟨⟨by omega,hb⟩,fun _=>⟨by omega,hj',ha⟩,fun i q hq h0=>?_,fun i i' q q' hq hq' h0 h0' e=>?_,fun i q hq h0=>?_⟩
 ·rcases hne i q hq with ⟨_,hq⟩ | ⟨_,rfl⟩
  ·obtain ⟨g1,g2,g2',cs,g3,g4⟩:=h.lst i q hq h0
   exact ⟨g1,by omega,g2',cs,g3,hr _ _ g2 (by omega) (fun hps e=>by
    have:=h.dis.2 i q hq h0;exact this e) g4⟩
  ·obtain ⟨g1,g2,g2',g3,g4,g5⟩:=hp h0
   refine ⟨g1,by omega,g2',l,g3,hr _ _ g2 (by omega) (fun hps e=>?_) g4⟩
   obtain ⟨_,_,al,h3⟩:=h.arr hps
   rw [e] at g4;rw [g4] at h3;cases h3
 ·rcases hne i q hq with ⟨hi,hq1⟩ | ⟨hi,rfl⟩ <;> rcases hne i' q' hq' with ⟨hi',hq1'⟩ | ⟨hi',rfl⟩
  ·exact h.dis.1 i i' q q' hq1 hq1' h0 h0' e
  ·exact absurd e ((hp h0').2.2.2.2.2 q (List.mem_iff_getElem?.2 ⟨i,hq1⟩) h0)
  ·exact absurd e.symm ((hp h0).2.2.2.2.2 q' (List.mem_iff_getElem?.2 ⟨i',hq1'⟩) h0')
  ·omega
 ·have:=hlt i q hq h0;omega
theorem look_shH_old {nx id:Nat} {H:List (Nat × PObj)} (h:id < nx):∀ l:List (Nat × PObj),look (shH nx H l) id=look H id
 | []=>rfl
 | (j,o)::l=>by simp only [shH,look];rw [if_neg (by omega)];exact look_shH_old h l
theorem look_shH_new {nx i:Nat} {H:List (Nat × PObj)} {o:PObj}:∀ {l:List (Nat × PObj)},look l i=some o→look (shH nx H l) (i + nx)=some (shO nx o)
 | [],h=>by simp [look] at h
 | (j,x)::l,h=>by
  simp only [shH,look] at h ⊢
  by_cases e:i=j
  ·subst e
   rw [if_pos rfl] at h ⊢
   rw [Option.some.inj h]
  ·rw [if_neg e] at h
   rw [if_neg (by omega)];exact look_shH_new h
section
variable {C:Ctx} (hm:C.P.follows .mixedOrders=true) (hC:TabOK C.P C.ng C.ts Tryd.tab)
include hm hC
end
end Go.Proofs.YtkldgoapompinaaDoor.Ai
namespace Go.Proofs.YtkldgoapompinaaDoor.Ai
set_option linter.unusedSimpArgs false
open Go
set_option linter.unusedVariables false
set_option linter.unusedSectionVars false
set_option maxRecDepth 10000
set_option maxHeartbeats 4000000
theorem BookI.off {H:List (Nat × PObj)} {nx bk j:Nat} {ps:List (Nat × Nat)} (h:BookI H nx bk j ps) {i:Nat} {l:List PV} (hi:look H i=some (.cells l 54 1 false false [])):i ≠ bk∧(ps ≠ []→i ≠ j):=by
 refine ⟨fun e=>?_,fun hp e=>?_⟩
 ·obtain ⟨_,ex,hb⟩:=h.hbk
  rw [← e,hi] at hb;cases hb
 ·obtain ⟨_,_,al,hj⟩:=h.arr hp
  rw [← e,hi] at hj;cases hj
theorem nm_ptr (b j o:Nat):nmP b (.ptr j o)=Nat.blt j b:=by simp only [nmP]
theorem nm_agg (b:Nat) (l:List PV):nmP b (.agg l)=nmL b l:=by simp only [nmP]
theorem nm_tup (b:Nat) (l:List PV):nmP b (.tup l)=nmL b l:=by simp only [nmP]
theorem nm_junk (b:Nat):nmP b .junk=true:=by simp only [nmP]
section
variable {C:Ctx} (hm:C.P.follows .mixedOrders=true) (hC:TabOK C.P C.ng C.ts Tryd.tab)
include hm hC
end
end Go.Proofs.YtkldgoapompinaaDoor.Ai
namespace Go.Proofs.YtkldgoapompinaaDoor.Ai
set_option linter.unusedSimpArgs false
open Go
set_option linter.unusedVariables false
set_option maxRecDepth 10000
def L16 (l:List Int):List PV:=l.map fun n=>.lit (.int .u16 n)
def szU (l:List Int):PV:=.sz (L16 l) l.length
theorem L16_drop {l:List Int} {i:Nat} (h:i < l.length):(L16 l).drop i = .lit (.int .u16 l[i])::L16 (l.drop (i + 1)):=by
 unfold L16
 rw [← List.map_drop,List.drop_eq_getElem_cons h];rfl
theorem take_next {l m:List Int} {i:Nat} (h:l.take i=m.take i) (h1:i < l.length) (h2:i < m.length):l.take (i + 1)=m.take (i + 1)↔l[i]=m[i]:=by
 have e1:l.take (i + 1)=m.take i++[l[i]]:=by rw [List.take_succ_eq_append_getElem h1,h]
 have e2:m.take (i + 1)=m.take i++[m[i]]:=by rw [List.take_succ_eq_append_getElem h2]
 rw [e1,e2]
 exact ⟨fun h=>by simpa using List.append_cancel_left h,fun h=>by rw [h]⟩
section
variable {C:Ctx} (hm:C.P.follows .mixedOrders=true) (hC:TabOK C.P C.ng C.ts Tryd.tab)
include hm hC
theorem equal_ok (l m:List Int) (hl:l.length < 2 ^ 62):PFun C 75 [szU l,szU m] (.lit (.bool (decide (l=m)))):=by
 refine PFun.of_body hm hC (show Tryd.tab.get 75=some Tryd.c75 from rfl) rfl ?_
 simp only [Tryd.c75,startP,szU,List.length_cons,List.length_nil,Nat.reduceAdd,Nat.reduceSub,List.replicate,List.cons_append,List.nil_append]
 repeat (refine PRun.wpn rfl ?_;simp only [wp,wo_nil,wo_p,onO_s,pv_t,pv_bool,put_some,bi_neq,  pevP,getP,setP,PW.none,Option.map_some,resPs,resP,tupP,neB_iff])
 split
 ·rename_i h
  repeat (refine PRun.wpn rfl ?_;simp only [wp,  getP,or_true,true_and,reduceCtorEq])
  have h':l ≠ m:=by intro e;subst e;simp at h
  simp [h']
 rename_i h
 have hlm:l.length=m.length:=by omega
 repeat (refine PRun.wpn rfl ?_;simp only [wp,wo_nil,wo_p,onO_s,pv_t,pv_int,put_some,  pevP,getP,setP,reduceCtorEq])
 refine PRun.loopG (fun n t π=>π=⟨0,[]⟩∧∃ (i:Nat) (x2 x3 x5 x6 x7 x8 x9 x10 x11 x14 x15 x16 x17 x18 x19 x20 x21 x22 x23 x24 x25:PV),t=(.sz (L16 l) l.length::.sz (L16 m) m.length::x2::x3::.lit (.bool false)::x5::x6::x7::x8::x9::x10::x11::.lit (.int .i64 l.length)::.lit (.int .i64 (i:Nat))::x14::x15::x16::x17::x18::x19::x20::x21::x22::x23::x24::x25::[])∧i≤l.length∧n=l.length - i∧l.take i=m.take i) ?_ l.length _ _ ⟨rfl,0,_,_,_,_,_,_,_,_,_,_,_,_,_,_,_,_,_,_,_,_,_,rfl,by omega,rfl,rfl⟩
 rintro n t π ⟨rfl,i,x2,x3,x5,x6,x7,x8,x9,x10,x11,x14,x15,x16,x17,x18,x19,x20,x21,x22,x23,x24,x25,rfl,hi,rfl,hp⟩
 repeat (refine PRun.wpn rfl ?_;simp only [wp,wo_nil,wo_p,onO_s,pv_t,put_some,  bi_lss,pevP,getP,setP,Option.map_some,↓reduceIte,ltB_iff])
 split
 ·rename_i hlt
  have h1:i < l.length:=by omega
  have h2:i < m.length:=by omega
  repeat (refine PRun.wpn rfl ?_;simp only [wp,wo_nil,wo_p,onO_s,pv_t,put_some,  pevP,getP,setP])
  refine PDraw.last (Nat.zero_le _) rfl ?_
  simp only [onX_s,onXI_s,rdX_e,ltN,ltD_s,wx_nil,wx_cons,wx_p,wx_r,pv_t,put_some,bi_neq,  pevP,pevR,getP,setP,nthO,baseP,ROp.base,List.length_cons,List.length_nil,Option.map_some,Nat.mul_one,Int.natCast_nonneg,Int.toNat_natCast,and_self,Bool.and_true,↓reduceIte,Nat.reduceAdd,Nat.zero_add,List.length_cons,List.length_nil,Int.natCast_nonneg,hlt,Int.toNat_natCast,Nat.mul_one,L16_drop h1,← hlm,L16_drop h2]
  repeat (refine PRun.wpn rfl ?_;simp only [wp,wo_nil,wo_p,onO_s,pv_t,pv_bool,put_some,  pevP,getP,setP,neB_iff])
  split
  ·rename_i hne
   repeat (refine PRun.wpn rfl ?_;simp only [wp,  getP,or_true,true_and,reduceCtorEq])
   have h':l ≠ m:=by intro e;subst e;simp at hne
   simp [h']
  ·rename_i heq
   repeat (refine PRun.wpn rfl ?_;simp only [wp,wo_nil,wo_p,onO_s,pv_t,pv_int,put_some,bi_add,  pevP,getP,setP,Option.map_some])
   rw [wrap64 (by omega) (by omega)]
   exact .refl ⟨l.length - (i + 1),by omega,rfl,i + 1,_,_,_,_,_,_,_,_,_,_,_,_,_,_,_,_,_,_,_,_,_,rfl,by omega,rfl,(take_next hp h1 h2).2 (by simpa using heq)⟩
 ·rename_i hge
  have hil:i=l.length:=by omega
  subst hil
  repeat (refine PRun.wpn rfl ?_;simp only [wp,wo_nil,wo_p,onO_s,pv_bool,put_some,  pevP,getP,setP,or_true,true_and,reduceCtorEq])
  have h':l=m:=by rw [List.take_length,hlm,List.take_length] at hp;exact hp
  simp [h']
end
end Go.Proofs.YtkldgoapompinaaDoor.Ai
namespace Go.Proofs.YtkldgoapompinaaDoor.Ai
set_option linter.unusedSimpArgs false
open Go
set_option linter.unusedVariables false
set_option maxRecDepth 10000
theorem tmod_nat (a b:Nat):Int.tmod (a:Int) (b:Int)=((a % b:Nat):Int):=rfl
theorem L16_len (l:List Int):(L16 l).length=l.length:=by simp [L16]
theorem wk_cut (l:List Int) (a k:Nat) (h:a + k≤l.length):Wk (.sz ((L16 l).drop a) k) (szU ((l.drop a).take k)):=by
 unfold szU
 have e:((l.drop a).take k).length=k:=by simp;omega
 rw [e]
 refine Wk.sz (ext:=(L16 l).drop (a + k)) ?_
 have:(L16 l).drop a=L16 ((l.drop a).take k)++(L16 l).drop (a + k):=by
  simp only [L16,← List.map_drop,← List.map_append]
  congr 1
  rw [← List.drop_drop,List.take_append_drop]
 rw [this]
 exact WkL.refl _
def perFrom (l:List Int) (n:Nat):Nat→Nat
 | 0=>l.length
 | k + 1=>if l.length % n=0∧l.drop n=l.take (l.length - n) then n else perFrom l (n + 1) k
def per (l:List Int):Nat:=perFrom l 1 (l.length - 1)
section
variable {C:Ctx} (hm:C.P.follows .mixedOrders=true) (hC:TabOK C.P C.ng C.ts Tryd.tab)
include hm hC
theorem period_ok (l:List Int) (hl:l.length < 2 ^ 40):PFun C 51 [szU l] (.lit (.int .i64 (per l:Nat))):=by
 refine PFun.of_body hm hC (show Tryd.tab.get 51=some Tryd.c51 from rfl) rfl ?_
 simp only [Tryd.c51,startP,szU,List.length_cons,List.length_nil,Nat.reduceAdd,Nat.reduceSub,List.replicate,List.cons_append,List.nil_append]
 repeat (refine PRun.wpn rfl ?_;simp only [wp,wo_nil,wo_p,onO_s,pv_int,put_some,  pevP,setP,PW.none,reduceCtorEq,resPs,resP,tupP])
 refine PRun.loopG (fun k t π=>π=⟨0,[]⟩∧∃ (n:Nat) (x1 x2 x4 x5 x6 x7 x8 x9 x10 x11 x12 x13 x14 x15 x16 x17 x18 x19 x20 x21 x22 x23 x24 x25 x26 x27 x28 x29:PV),t=(.sz (L16 l) l.length::x1::x2::.lit (.int .i64 (n:Nat))::x4::x5::x6::x7::x8::x9::x10::x11::x12::x13::x14::x15::x16::x17::x18::x19::x20::x21::x22::x23::x24::x25::x26::x27::x28::x29::[])∧1≤n∧(n≤l.length∨n=1)∧k=l.length - n∧per l=perFrom l n k) ?_ (l.length - 1) _ _ ⟨rfl,1,_,_,_,_,_,_,_,_,_,_,_,_,_,_,_,_,_,_,_,_,_,_,_,_,_,_,_,_,rfl,by omega,by omega,rfl,rfl⟩
 rintro k t π ⟨rfl,n,x1,x2,x4,x5,x6,x7,x8,x9,x10,x11,x12,x13,x14,x15,x16,x17,x18,x19,x20,x21,x22,x23,x24,x25,x26,x27,x28,x29,rfl,hn,hn',rfl,hp⟩
 repeat (refine PRun.wpn rfl ?_;simp only [wp,wo_nil,wo_p,onO_s,pv_t,put_some,  bi_lss,pevP,getP,setP,Option.map_some,↓reduceIte,ltB_iff])
 split
 ·rename_i hlt
  have h1:n < l.length:=by omega
  have hn0:(n:Int) ≠ 0:=by omega
  have hnl:(n:Int)≤(l.length:Nat):=by omega
  obtain ⟨k,hk⟩:∃ k,l.length - n=k + 1:=⟨l.length - n - 1,by omega⟩
  rw [hk,perFrom] at hp
  repeat (refine PRun.wpn rfl ?_;simp only [wp,  ])
  refine PDraw.stage (Nat.zero_le _) rfl ?_
  by_cases hd:l.length % n=0
  ·have hd':((l.length % n:Nat):Int)=0:=by omega
   have e1:((l.length:Nat):Int) - (n:Nat)=((l.length - n:Nat):Int):=by omega
   have e2:((l.length - n:Nat):Int)≤(l.length:Nat):=by omega
   simp only [beq_self_eq_true,wanted_g,wantB_b,onX_s,onXG_t,onXI_s,rdX_e,ltN,ltD_s,onD_s,onDG_t,wx_nil,wx_cons,wx_p,wx_r,wx_g,wd_cons,wd_e,wd_g,pv_t,pv_int,put_some,bi_sub,bi_eql,  pevP,pevR,getP,setP,nthO,boundP,baseP,ROp.base,List.length_cons,List.length_nil,List.drop_zero,Option.map_some,Option.bind_some,Option.isNone_none,true_or,or_true,Nat.mul_one,Nat.sub_zero,Int.natCast_nonneg,Int.toNat_natCast,and_self,true_and,Bool.and_true,↓reduceIte,Nat.reduceAdd,Nat.zero_add,List.length_cons,List.length_nil,bi_rem hn0,tmod_nat,eqB_t hd',hnl,h1,e1,e2,wrap64 (show (-9223372036854775808:Int)≤((l.length - n:Nat):Int) by omega) (by omega)]
   refine PDE.pure ((equal_ok hm hC (l.drop n) (l.take (l.length - n)) (by simp;omega)).args (WkL.cons ?_ (WkL.cons ?_ .nil))) rfl ?_
   ·have:=wk_cut l n (l.length - n) (by omega)
    rwa [List.take_of_length_le (by simp)] at this
   ·exact wk_cut l 0 (l.length - n) (by omega)
   refine PDraw.last (Nat.zero_le _) rfl ?_
   simp only [onX_s,onXI_s,wx_nil,wx_cons,wx_p,pv_t,put_some,  pevP,getP,setP,nthO]
   by_cases he:l.drop n=l.take (l.length - n)
   ·simp only [decide_eq_true he,  ]
    repeat (refine PRun.wpn rfl ?_;simp only [wp,wo_nil,wo_p,onO_s,pv_t,put_some,  pevP,getP,setP,or_true,true_and,↓reduceIte,reduceCtorEq])
    rw [if_pos ⟨hd,he⟩] at hp
    simp [hp]
   ·simp only [decide_eq_false he,  ]
    repeat (refine PRun.wpn rfl ?_;simp only [wp,wo_nil,wo_p,onO_s,pv_t,pv_int,put_some,bi_add,  pevP,getP,setP,Option.map_some,↓reduceIte,Bool.false_eq_true])
    rw [if_neg (fun h=>he h.2)] at hp
    rw [wrap64 (by omega) (by omega)]
    exact .refl ⟨k,by omega,rfl,n + 1,_,_,_,_,_,_,_,_,_,_,_,_,_,_,_,_,_,_,_,_,_,_,_,_,_,_,_,_,rfl,by omega,by omega,by omega,hp⟩
  ·have hd':¬ ((l.length % n:Nat):Int)=0:=by omega
   simp only [wanted_g,wantB_b,b_ft,onX_s,onXG_f,onXI_s,onD_s,onDG_f,wx_nil,wx_cons,wx_p,wx_g,wd_cons,wd_g,pv_t,pv_int,put_some,bi_eql,  pevP,getP,setP,nthO,Option.map_some,bi_rem hn0,tmod_nat,eqB_f hd']
   refine PDraw.last (Nat.zero_le _) rfl ?_
   simp only [onX_s,onXI_s,wx_nil,wx_cons,wx_p,pv_t,pv_bool,put_some,  pevP,getP,setP,nthO]
   repeat (refine PRun.wpn rfl ?_;simp only [wp,wo_nil,wo_p,onO_s,pv_t,pv_int,put_some,bi_add,  pevP,getP,setP,Option.map_some,↓reduceIte,Bool.false_eq_true])
   rw [if_neg (fun h=>hd h.1)] at hp
   rw [wrap64 (by omega) (by omega)]
   exact .refl ⟨k,by omega,rfl,n + 1,_,_,_,_,_,_,_,_,_,_,_,_,_,_,_,_,_,_,_,_,_,_,_,_,_,_,_,_,rfl,by omega,by omega,by omega,hp⟩
 ·rename_i hge
  have h0:l.length - n=0:=by omega
  rw [h0,perFrom] at hp
  repeat (refine PRun.wpn rfl ?_;simp only [wp,wo_nil,wo_p,onO_s,pv_t,put_some,  pevP,getP,setP,or_true,true_and,reduceCtorEq])
  simp [hp]
end
end Go.Proofs.YtkldgoapompinaaDoor.Ai
