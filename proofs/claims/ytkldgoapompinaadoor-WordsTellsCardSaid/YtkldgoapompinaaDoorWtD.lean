/- A PART OF THE PROOF: a step of the proof that the law's code does what its contracts say, by an interpreter of the program's functions that is proved to be sound. -/
import Derived.Test.YtkldgoapompinaaDoorPv5
import Derived.Test.YtkldgoapompinaaDoorWtC
import Derived.Test.YtkldgoapompinaaDoorWtA
import Derived.Lib.ItoaLen
namespace Go.Proofs.YtkldgoapompinaaDoor.Ai
set_option linter.unusedSimpArgs false
open Go
set_option linter.unusedVariables false
set_option linter.unusedSectionVars false
set_option maxRecDepth 10000
set_option maxHeartbeats 4000000
def mkWtD1:List Bool:=(true::false::false::true::false::false::false::false::false::false::false::false::false::false::false::false::false::false::false::false::false::false::false::[])
def mkWtD2:List Bool:=(false::true::false::true::true::false::false::false::false::false::false::false::false::false::false::false::false::false::false::false::false::false::false::false::false::false::false::false::false::false::false::false::false::false::false::false::false::false::false::false::false::false::false::false::false::false::false::false::false::false::false::false::false::false::false::false::false::[])
def mkWtD3:List Bool:=(false::true::false::true::false::true::false::false::false::false::false::false::false::false::false::false::false::false::false::false::false::false::false::false::false::false::false::false::false::false::false::false::false::false::false::false::false::false::false::false::false::false::false::false::false::false::false::false::false::false::false::false::false::false::false::false::false::[])
def mkWtD4:List Bool:=(true::true::false::false::false::true::false::false::false::false::false::false::false::false::false::false::false::false::false::false::false::false::false::false::false::false::[])
def mkWtD5:List Bool:=(false::true::true::true::true::true::false::false::false::false::false::true::false::true::true::true::true::false::false::false::false::false::false::false::false::false::false::false::false::false::false::false::false::false::false::false::false::false::false::false::false::false::false::false::false::false::false::false::false::false::false::false::false::false::false::false::false::false::false::false::false::false::false::false::false::false::false::false::false::false::false::false::false::false::false::false::false::false::false::false::false::false::false::false::false::false::false::false::false::false::false::false::false::false::false::false::false::false::false::false::false::false::false::false::false::false::false::false::false::false::false::false::false::false::false::false::false::false::false::false::false::false::false::false::false::false::false::false::false::false::false::false::false::false::false::false::false::false::false::false::false::false::false::false::false::false::false::false::false::false::false::false::false::false::false::false::false::false::false::false::false::false::false::false::false::false::false::false::false::false::false::false::false::false::false::false::false::false::false::false::false::false::false::false::false::false::false::false::false::false::false::false::false::false::false::false::false::false::false::false::false::false::false::false::false::[])
def mkWtD6:List Bool:=(false::true::true::true::true::true::false::false::false::false::false::true::false::true::true::true::true::true::true::true::true::false::false::false::false::false::false::false::false::false::false::false::false::false::false::false::false::false::false::false::false::false::false::false::false::false::false::false::false::false::false::false::false::false::false::false::false::false::false::false::false::false::false::false::false::false::false::false::false::false::false::false::false::false::false::false::false::false::false::false::false::false::false::false::false::false::false::false::false::false::false::false::false::false::false::false::false::false::false::false::false::false::false::false::false::false::false::false::false::false::false::false::false::false::false::false::false::false::false::false::false::false::false::false::false::false::false::false::false::false::false::false::false::false::false::false::false::false::false::false::false::false::false::false::false::false::false::false::false::false::false::false::false::false::false::false::false::false::false::false::false::false::false::false::false::false::false::false::false::false::false::false::false::false::false::false::false::false::false::false::false::false::false::false::false::false::false::false::false::false::false::false::false::false::false::false::false::false::false::false::false::false::false::false::false::[])
theorem bytes_one (d:Nat) (h:d < 10):bytesP [.lit (.int .u8 (48 + (d:Nat)))]=some [UInt8.ofNat (48 + d)]:=by
 have:=bytes_L8 [UInt8.ofNat (48 + d)]
 simp only [L8,List.map_cons,List.map_nil,dig_byte h] at this
 rw [show ((48 + d:Nat):Int)=48 + (d:Nat) by omega] at this
 exact this
theorem wrap8 {x:Int} (h0:0≤x) (h1:x < 256):IntKind.u8.wrap x=x:=by
 simp only [IntKind.wrap,IntKind.signed,IntKind.bits];simp;omega
section
variable {C:Ctx} (hm:C.P.follows .mixedOrders=true) (hC:TabOK C.P C.ng C.ts Tryd.tab)
include hm hC
theorem digits_61 (n:Nat) (hn:n < 65536):PFun C 61 [.lit (.int .i64 (n:Nat))] (.lit (.string ⟨⟨Lib.decDigits n⟩⟩)):=by
 have hlen:(Lib.decDigits n).length≤20:=by rw [Lib.decDigits_length];exact Lib.nDigits_le20 n (by omega)
 have t10:((10:Int) ≠ 0):=by decide
 refine PFun.body hm hC (show Tryd.tab.get 61=some Tryd.c61 from rfl) rfl ?_
 simp only [SW,Tryd.c61,startP,Nat.reduceAdd,Nat.reduceSub,List.replicate]
 repeat (refine PRun.wpn rfl ?_;simp only [SW,reduceCtorEq])
 refine PRun.gh (Gh.mask mkWtD1 ?_)
 simp only [mkWtD1,↓reduceIte,Bool.false_eq_true,maskP]
 refine PRun.loopG (fun k t π=>∃ (v:Nat) (s:ByteArray),t=(.lit (.int .i64 (v:Nat))::.junk::.junk::.lit (.string s)::.junk::.junk::.junk::.junk::.junk::.junk::.junk::.junk::.junk::.junk::.junk::.junk::.junk::.junk::.junk::.junk::.junk::.junk::.junk::[])∧v=k∧v≤n∧π=⟨0,[]⟩∧Lib.decDigits n=Lib.decDigits v++s.data.toList) ?_ n _ _ ⟨n,⟨#[]⟩,rfl,rfl,Nat.le_refl _,rfl,by simp⟩
 rintro k t π ⟨v,s,rfl,hk,hv,rfl,hd⟩
 subst hk
 have hsz:s.size≤20:=by
  have:=congrArg List.length hd
  rw [List.length_append,show s.data.toList.length=s.size from Array.length_toList] at this
  omega
 by_cases h9:(9:Int) < ((v:Nat):Int)
 ·have e1:Int.tmod ((v:Nat):Int) 10=((v % 10:Nat):Int):=rfl
  have e2:Int.tdiv ((v:Nat):Int) 10=((v / 10:Nat):Int):=rfl
  have hm10:v % 10 < 10:=Nat.mod_lt _ (by decide)
  have e3:IntKind.i64.wrap (48 + ((v % 10:Nat):Int))=48 + ((v % 10:Nat):Int):=wrap64 (by omega) (by omega)
  have e4:IntKind.u8.wrap (48 + ((v % 10:Nat):Int))=48 + ((v % 10:Nat):Int):=wrap8 (by omega) (by omega)
  have e5:IntKind.i64.wrap ((v / 10:Nat):Int)=((v / 10:Nat):Int):=wrap64 (by omega) (by omega)
  have e6:=bytes_one (v % 10) hm10
  have e7:=bi_addS (a:=⟨⟨[UInt8.ofNat (48 + v % 10)]⟩⟩) (b:=s) (by show 1 + s.size < _;omega)
  repeat (refine PRun.wpn rfl ?_;simp only [SW,↓reduceIte,ltB_t h9,bi_rem t10,bi_quo t10,e1,e2,e3,e4,e5,e6,e7])
  refine Gh.mr mkWtD1 [] 0 rfl ?_
  refine ⟨v / 10,by omega,v / 10,_,rfl,rfl,by omega,rfl,?_⟩
  rw [hd,Lib.decDigits,dif_neg (by omega),List.append_assoc]
  congr 1
 ·have e3:IntKind.i64.wrap (48 + ((v:Nat):Int))=48 + ((v:Nat):Int):=wrap64 (by omega) (by omega)
  have e4:IntKind.u8.wrap (48 + ((v:Nat):Int))=48 + ((v:Nat):Int):=wrap8 (by omega) (by omega)
  have e6:=bytes_one v (by omega)
  have e7:=bi_addS (a:=⟨⟨[UInt8.ofNat (48 + v)]⟩⟩) (b:=s) (by show 1 + s.size < _;omega)
  have fin:(⟨⟨[UInt8.ofNat (48 + v)]⟩⟩:ByteArray)++s=⟨⟨Lib.decDigits n⟩⟩:=by
   refine ba_ext ?_
   rw [ba_app_list,hd,Lib.decDigits_one (by omega)]
  rw [fin] at e7
  repeat (refine PRun.wpn rfl ?_;simp only [SW,↓reduceIte,reduceCtorEq,ltB_f h9,e3,e4,e6,e7])
  exact .refl ⟨_,rfl,.refl _⟩
end
end Go.Proofs.YtkldgoapompinaaDoor.Ai
namespace Go.Proofs.YtkldgoapompinaaDoor.Ai
set_option linter.unusedSimpArgs false
open Go
set_option linter.unusedVariables false
set_option linter.unusedSectionVars false
set_option maxRecDepth 10000
set_option maxHeartbeats 4000000
def itD (n:Nat):ByteArray:=⟨⟨Lib.decDigits n⟩⟩
theorem itD_digs (n:Nat):digs itD n=Lib.decDigits n:=rfl
theorem outS_congr {f g:Nat→ByteArray} (h:∀ n,digs f n=digs g n):∀ l:List Nat,outS f l=outS g l
 | []=>rfl
 | n::l=>by simp only [outS,h n,outS_congr h l]
theorem oL_congr {f g:Nat→ByteArray} (h:∀ n,digs f n=digs g n):∀ (b:Bool) (l:List Nat),oL f b l=oL g b l
 | _,[]=>rfl
 | b,n::l=>by simp only [oL,h n,oL_congr h false l]
noncomputable def showV (stem loop:List Int):ByteArray:=if loop=[] then ⟨#[]⟩ else ⟨⟨outS itD (stem.map Int.toNat)++[40]++oL itD true (loop.map Int.toNat)++[41]⟩⟩
theorem digs_len (n:Nat) (h:n < 65536):(digs itD n).length≤5:=by rw [itD_digs,Lib.decDigits_length];exact nDigits_le5 n h
theorem outS_len5:∀ l:List Nat,(∀ n∈l,n < 65536)→(outS itD l).length≤6 * l.length
 | [],_=>by simp [outS]
 | n::l,h=>by
  have:=digs_len n (h n (by simp))
  have:=outS_len5 l fun m hm=>h m (by simp [hm])
  simp only [SW,outS,List.length_append];omega
theorem oL_len5:∀ (l:List Nat) (f:Bool),(∀ n∈l,n < 65536)→(oL itD f l).length≤6 * l.length
 | [],f,_=>by simp [oL]
 | n::l,f,h=>by
  have:=digs_len n (h n (by simp))
  have:=oL_len5 l false fun m hm=>h m (by simp [hm])
  have:(if f=true then ([]:List UInt8) else [32]).length≤1:=by split <;> simp
  simp only [oL,List.length_append,List.length_cons];omega
theorem W16.nat {l:List Int} (h:W16 l):∀ n∈l.map Int.toNat,n < 65536:=by
 intro n hn
 obtain ⟨x,hx,rfl⟩:=List.mem_map.1 hn
 have:=h x hx;omega
theorem take_snoc {l:List Int} {i:Nat} (h:i < l.length):(l.map Int.toNat).take (i + 1)=(l.map Int.toNat).take i++[l[i].toNat]:=by
 rw [List.take_succ_eq_append_getElem (by rw [List.length_map];exact h)];simp
theorem L8_cut {bs:List UInt8} {n:Nat} (h:bs.length=n):cutP n (L8 bs)=some (L8 bs):=cutB (by rw [L8_len];exact h)
section
variable {C:Ctx} (hm:C.P.follows .mixedOrders=true) (hC:TabOK C.P C.ng C.ts Tryd.tab)
include hm hC
theorem show_35 (stem loop:List Int) (h1:stem.length < 2 ^ 37) (h2:loop.length < 2 ^ 37) (w1:W16 stem) (w2:W16 loop):PFun C 35 [wdP stem loop] (.lit (.string (showV stem loop))):=by
 by_cases h0:loop=[]
 ·have e:showV stem loop=⟨#[]⟩:=by unfold showV;rw [if_pos h0]
  rw [e]
  have hl:=eqB_t (show ((loop.length:Nat):Int)=0 by rw [h0];rfl)
  refine PFun.body hm hC (show Tryd.tab.get 35=some Tryd.c35 from rfl) rfl ?_
  simp only [SW,Tryd.c35,startP,Nat.reduceAdd,Nat.reduceSub,List.replicate,wdP,szU]
  repeat (refine PRun.wpn rfl ?_;simp only [SW,↓reduceIte,reduceCtorEq,hl])
  exact .refl ⟨_,rfl,.refl _⟩
 have hl0:loop.length ≠ 0:=fun e=>h0 (List.length_eq_zero_iff.1 e)
 have hl:=eqB_f (show ¬ ((loop.length:Nat):Int)=0 by omega)
 have e:showV stem loop=⟨⟨outS itD (stem.map Int.toNat)++[40]++oL itD true (loop.map Int.toNat)++[41]⟩⟩:=by unfold showV;rw [if_neg h0]
 rw [e]
 clear e
 have n1:=w1.nat
 have n2:=w2.nat
 have hdig:=fun (n:Nat) (hn:n < 65536)=>digits_61 hm hC n hn
 refine PFun.body hm hC (show Tryd.tab.get 35=some Tryd.c35 from rfl) rfl ?_
 simp only [SW,Tryd.c35,startP,Nat.reduceAdd,Nat.reduceSub,List.replicate,wdP,szU]
 repeat (refine PRun.wpn rfl ?_;simp only [SW,↓reduceIte,reduceCtorEq,hl])
 refine PRun.gh (Gh.mask mkWtD2 ?_)
 simp only [mkWtD2,↓reduceIte,Bool.false_eq_true,maskP]
 refine PRun.loopG (fun m t π=>∃ i:Nat,t=(.junk::.ptr 0 0::.junk::slotP (1,(outS itD ((stem.map Int.toNat).take i)).length)::.lit (.int .i64 (i:Nat))::.junk::.junk::.junk::.junk::.junk::.junk::.junk::.junk::.junk::.junk::.junk::.junk::.junk::.junk::.junk::.junk::.junk::.junk::.junk::.junk::.junk::.junk::.junk::.junk::.junk::.junk::.junk::.junk::.junk::.junk::.junk::.junk::.junk::.junk::.junk::.junk::.junk::.junk::.junk::.junk::.junk::.junk::.junk::.junk::.junk::.junk::.junk::.junk::.junk::.junk::.junk::.junk::[])∧i≤stem.length∧m=stem.length - i∧((outS itD ((stem.map Int.toNat).take i)=[]∧π=⟨1,[(0,.cells [.sz (L16 stem) stem.length,.sz (L16 loop) loop.length] 25 2 true false [])]⟩)∨(outS itD ((stem.map Int.toNat).take i) ≠ []∧π=⟨2,[(1,.cells (L8 (outS itD ((stem.map Int.toNat).take i))) 5 1 false false []),(0,.cells [.sz (L16 stem) stem.length,.sz (L16 loop) loop.length] 25 2 true false [])]⟩))) ?_ stem.length _ _ ⟨0,rfl,by omega,rfl,.inl ⟨rfl,rfl⟩⟩
 rintro m t π ⟨i,rfl,hi,rfl,hπ⟩
 by_cases hlt:((i:Nat):Int) < (stem.length:Nat)
 ·have i1:i < stem.length:=by omega
  have hx:=w1 _ (List.getElem_mem i1)
  obtain ⟨n,hn⟩:∃ n:Nat,stem[i]=n:=⟨stem[i].toNat,by omega⟩
  have hn5:n < 65536:=by omega
  have hd:=hdig n hn5
  have hdr:=L16_drop i1
  rw [hn] at hdr
  have c1:IntKind.i64.wrap ((n:Nat):Int)=((n:Nat):Int):=wrap64 (by omega) (by omega)
  have w3:IntKind.i64.wrap (((i:Nat):Int) + 1)=((i + 1:Nat):Int):=by rw [wrap64 (by omega) (by omega)];omega
  have hnext:outS itD ((stem.map Int.toNat).take (i + 1))=outS itD ((stem.map Int.toNat).take i)++(Lib.decDigits n++[32]):=by
   rw [take_snoc i1,outS_snoc,hn];rfl
  have hbl:=outS_len5 ((stem.map Int.toNat).take i) fun x hx=>n1 x (List.mem_of_mem_take hx)
  rw [List.length_take,List.length_map] at hbl
  generalize outS itD ((stem.map Int.toNat).take i)=bs at hπ hnext hbl ⊢
  have hdl:(Lib.decDigits n).length≤5:=digs_len n hn5
  have hdn:=dec_ne n
  generalize Lib.decDigits n=dg at hd hnext hdl hdn
  have hs1:(⟨⟨dg⟩⟩:ByteArray).size=dg.length:=rfl
  have hs2:=str_L8 ⟨⟨dg⟩⟩
  simp only [hs1] at hs2
  have hd0:dg.length ≠ 0:=fun e=>hdn (List.length_eq_zero_iff.1 e)
  have p1:=plain_L8 dg
  have q2:¬ 140737488355328 < 2 * dg.length + 768:=by omega
  have q3:¬ dg.length≤0:=by omega
  have q4:¬ dg.length + 1≤dg.length:=by omega
  have q5:¬ 140737488355328 < 2 * (dg.length + 1) + 768:=by omega
  have q6:=L8_cut (bs:=dg) rfl
  have q7:=L8_len dg
  have hu:IntKind.u8.wrap 32=32:=rfl
  rcases hπ with ⟨rfl,rfl⟩ | ⟨hb0,rfl⟩
  ·rw [List.nil_append] at hnext
   have r1:∀ ρ,renL ρ (L8 dg++[PV.lit (.int .u8 32)])=L8 (dg++[32]):=fun ρ=>by rw [show L8 dg++[PV.lit (.int .u8 32)]=L8 (dg++[32]) by rw [L8_app];rfl,renL_L8]
   repeat (refine PRun.wpn rfl ?_;simp only [SW,↓reduceIte,ltB_t hlt,hlt,hdr,c1,slot_z])
   refine .refl (PFun.to (hd) rfl (POps.wp ?_))
   simp only [SW,↓reduceIte,Nat.reduceAdd,hs1,hs2,p1,q2,q3,bne_self_eq_false]
   repeat (refine PRun.wpn rfl ?_;simp only [SW,↓reduceIte,Nat.reduceAdd,Nat.reduceEqDiff,q4,q5,q6,q7,bne_self_eq_false,w3])
   refine Gh.mr mkWtD2 [(0,0),(3,1)] 2 rfl ?_
   refine ⟨stem.length - (i + 1),by omega,i + 1,?_,by omega,rfl,.inr ⟨by rw [hnext];simp,?_⟩⟩
   ·rw [hnext,slotP_loc (by simp),List.length_append];rfl
   ·simp only [SW,↓reduceIte,reduceCtorEq,Nat.reduceEqDiff,r1,hnext]
  ·have hbn:bs.length ≠ 0:=fun e=>hb0 (List.length_eq_zero_iff.1 e)
   have sl:=slotP_loc (p:=(1,bs.length)) hbn
   have s1:¬ bs.length + dg.length≤bs.length:=by omega
   have s2:¬ 140737488355328 < 2 * (bs.length + dg.length) + 768:=by omega
   have s3:=L8_cut (bs:=bs) rfl
   have s4:=L8_len bs
   have s5:L8 bs++L8 dg=L8 (bs++dg):=(L8_app _ _).symm
   have s6:¬ bs.length + dg.length + 1≤bs.length + dg.length:=by omega
   have s7:¬ 140737488355328 < 2 * (bs.length + dg.length + 1) + 768:=by omega
   have s8:=L8_cut (bs:=bs++dg) (n:=bs.length + dg.length) List.length_append
   have s9:(L8 (bs++dg)).length=bs.length + dg.length:=by rw [L8_len,List.length_append]
   have r1:∀ ρ,renL ρ (L8 (bs++dg)++[PV.lit (.int .u8 32)])=L8 (bs++(dg++[32])):=fun ρ=>by rw [show L8 (bs++dg)++[PV.lit (.int .u8 32)]=L8 (bs++(dg++[32])) by rw [← List.append_assoc,L8_app (bs++dg)];rfl,renL_L8]
   repeat (refine PRun.wpn rfl ?_;simp only [SW,↓reduceIte,reduceCtorEq,ltB_t hlt,hlt,hdr,c1,sl])
   refine .refl (PFun.to (hd) rfl (POps.wp ?_))
   simp only [SW,↓reduceIte,Nat.reduceAdd,hs1,hs2,p1,s1,s2,s3,s4,s5,bne_self_eq_false]
   repeat (refine PRun.wpn rfl ?_;simp only [SW,↓reduceIte,Nat.reduceAdd,Nat.reduceEqDiff,s6,s7,s8,s9,bne_self_eq_false,w3])
   refine Gh.mr mkWtD2 [(0,0),(4,1)] 2 rfl ?_
   refine ⟨stem.length - (i + 1),by omega,i + 1,?_,by omega,rfl,.inr ⟨by rw [hnext];simp,?_⟩⟩
   ·rw [hnext,slotP_loc (by simp),List.length_append,List.length_append];rfl
   ·simp only [SW,↓reduceIte,reduceCtorEq,Nat.reduceEqDiff,r1,hnext]
 ·obtain rfl:i=stem.length:=by omega
  have ht:(stem.map Int.toNat).take stem.length=stem.map Int.toNat:=List.take_of_length_le (by rw [List.length_map];exact Nat.le_refl _)
  rw [ht] at hπ ⊢
  have hbl:=outS_len5 (stem.map Int.toNat) n1
  rw [List.length_map] at hbl
  generalize outS itD (stem.map Int.toNat)=bs0 at hπ hbl ⊢
  have key:∀ (bs:List UInt8),bs=bs0++[40]→True:=fun _ _=>trivial
  obtain ⟨bs,hbs⟩:∃ bs,bs=bs0++[40]:=⟨_,rfl⟩
  have hbn:bs ≠ []:=by rw [hbs];simp
  have hbl2:bs.length≤6 * stem.length + 1:=by rw [hbs,List.length_append];simp only [SW];omega
  rw [← hbs]
  have hu:IntKind.u8.wrap 40=40:=rfl
  rcases hπ with ⟨rfl,rfl⟩ | ⟨hb0,rfl⟩
  ·rw [List.nil_append] at hbs
   have hslot:slotP (1,bs.length) = .loc 1 0 bs.length bs.length:=slotP_loc fun e=>hbn (List.length_eq_zero_iff.1 e)
   repeat (refine PRun.wpn rfl ?_;simp only [SW,↓reduceIte,reduceCtorEq,Nat.reduceAdd,Nat.reduceLeDiff,Nat.reduceLT,ltB_f hlt,slot_z])
   refine PRun.gh (Gh.mr mkWtD3 [(0,0),(2,1)] 2 rfl ?_)
   simp only [mkWtD3,SW,↓reduceIte,reduceCtorEq,Nat.reduceEqDiff]
   rw [show [PV.lit (.int .u8 40)]=L8 bs by rw [hbs];rfl,show PV.loc 1 0 1 1=slotP (1,bs.length) by rw [hslot,hbs];rfl]
   refine PRun.loopG (fun m t π=>∃ i:Nat,t=(.junk::.ptr 0 0::.junk::slotP (1,(bs++oL itD true ((loop.map Int.toNat).take i)).length)::.junk::.lit (.int .i64 (i:Nat))::.junk::.junk::.junk::.junk::.junk::.junk::.junk::.junk::.junk::.junk::.junk::.junk::.junk::.junk::.junk::.junk::.junk::.junk::.junk::.junk::.junk::.junk::.junk::.junk::.junk::.junk::.junk::.junk::.junk::.junk::.junk::.junk::.junk::.junk::.junk::.junk::.junk::.junk::.junk::.junk::.junk::.junk::.junk::.junk::.junk::.junk::.junk::.junk::.junk::.junk::.junk::[])∧i≤loop.length∧m=loop.length - i∧π=⟨2,[(1,.cells (L8 (bs++oL itD true ((loop.map Int.toNat).take i))) 5 1 false false []),(0,.cells [.sz (L16 stem) stem.length,.sz (L16 loop) loop.length] 25 2 true false [])]⟩) ?_ loop.length _ _ ⟨0,by first | rfl | (simp only [List.take_zero,oL,List.append_nil,hslot];rfl),by omega,rfl,by simp only [List.take_zero,oL,List.append_nil]⟩
   clear hlt hi
   rintro m t π ⟨i,rfl,hi,rfl,rfl⟩
   by_cases hlt:((i:Nat):Int) < (loop.length:Nat)
   ·have i1:i < loop.length:=by omega
    have hx:=w2 _ (List.getElem_mem i1)
    obtain ⟨n,hn⟩:∃ n:Nat,loop[i]=n:=⟨loop[i].toNat,by omega⟩
    have hn5:n < 65536:=by omega
    have hd:=hdig n hn5
    have hdr:=L16_drop i1
    rw [hn] at hdr
    have c1:IntKind.i64.wrap ((n:Nat):Int)=((n:Nat):Int):=wrap64 (by omega) (by omega)
    have w3:IntKind.i64.wrap (((i:Nat):Int) + 1)=((i + 1:Nat):Int):=by rw [wrap64 (by omega) (by omega)];omega
    have hnext:oL itD true ((loop.map Int.toNat).take (i + 1))=oL itD true ((loop.map Int.toNat).take i)++((if true=true∧(loop.map Int.toNat).take i=[] then [] else [32])++Lib.decDigits n):=by
     rw [take_snoc i1,oL_snoc,hn];rfl
    have hbl3:=oL_len5 ((loop.map Int.toNat).take i) true fun x hx=>n2 x (List.mem_of_mem_take hx)
    rw [List.length_take,List.length_map] at hbl3
    have hdl:(Lib.decDigits n).length≤5:=digs_len n hn5
    have hdn:=dec_ne n
    generalize Lib.decDigits n=dg at hd hnext hdl hdn
    have hs1:(⟨⟨dg⟩⟩:ByteArray).size=dg.length:=rfl
    have hs2:=str_L8 ⟨⟨dg⟩⟩
    simp only [hs1] at hs2
    have hd0:dg.length ≠ 0:=fun e=>hdn (List.length_eq_zero_iff.1 e)
    have p1:=plain_L8 dg
    by_cases hi0:i=0
    ·subst hi0
     simp only [SW,oL] at hnext ⊢
     have s1:¬ bs.length + dg.length≤bs.length:=by omega
     have s2:¬ 140737488355328 < 2 * (bs.length + dg.length) + 768:=by omega
     have s3:=L8_cut (bs:=bs) rfl
     have s4:=L8_len bs
     have s5:L8 bs++L8 dg=L8 (bs++dg):=(L8_app _ _).symm
     have z0:=ltB_f (show ¬ (0:Int) < 0 by omega)
     have z1:=ltB_t (show (0:Int) < ((loop.length:Nat):Int) by omega)
     have z2:(0:Int) < ((loop.length:Nat):Int):=by omega
     have w4:IntKind.i64.wrap ((0:Int) + 1)=((1:Nat):Int):=rfl
     have hdr0:L16 loop = .lit (.int .u16 ((n:Nat):Int))::L16 (loop.drop 1):=by rw [← hdr];rfl
     repeat (refine PRun.wpn rfl ?_;simp only [SW,↓reduceIte,reduceCtorEq,z0,z1,z2,hdr0,c1,hslot])
     refine .refl (PFun.to (hd) rfl (POps.wp ?_))
     simp only [SW,↓reduceIte,Nat.reduceAdd,hs1,hs2,p1,s1,s2,s3,s4,s5,bne_self_eq_false]
     repeat (refine PRun.wpn rfl ?_;simp only [SW,w4])
     refine Gh.mr mkWtD3 [(0,0),(2,1)] 2 rfl ?_
     refine ⟨loop.length - 1,by omega,1,?_,by omega,rfl,?_⟩
     ·rw [hnext,slotP_loc (by simp [hdn]),List.length_append];rfl
     ·simp only [SW,↓reduceIte,reduceCtorEq,Nat.reduceEqDiff,renL_L8,hnext]
    ·have ht0:¬ (loop.map Int.toNat).take i=[]:=fun e=>by
      have:=congrArg List.length e
      rw [List.length_take,List.length_map,List.length_nil] at this;omega
     rw [if_neg (by rintro ⟨_,h⟩;exact ht0 h)] at hnext
     generalize oL itD true ((loop.map Int.toNat).take i)=ol at hnext hbl3 ⊢
     have hbl4:(bs++ol).length≤6 * stem.length + 1 + 6 * loop.length:=by rw [List.length_append];omega
     have hbn4:(bs++ol).length ≠ 0:=by rw [List.length_append];have:bs.length ≠ 0:=fun e=>hbn (List.length_eq_zero_iff.1 e);omega
     have hapn:bs++oL itD true ((loop.map Int.toNat).take (i + 1))=bs++ol++([32]++dg):=by rw [hnext,List.append_assoc]
     generalize bs++ol=xs at hbl4 hbn4 hapn ⊢
     have sl:=slotP_loc (p:=(1,xs.length)) hbn4
     have z0:=ltB_t (show (0:Int) < ((i:Nat):Int) by omega)
     have s1:¬ xs.length + 1≤xs.length:=by omega
     have s2:¬ 140737488355328 < 2 * (xs.length + 1) + 768:=by omega
     have s3:=L8_cut (bs:=xs) rfl
     have s4:=L8_len xs
     have s5:L8 xs++[PV.lit (.int .u8 32)]=L8 (xs++[32]):=by rw [L8_app];rfl
     have s6:¬ xs.length + 1 + dg.length≤xs.length + 1:=by omega
     have s7:¬ 140737488355328 < 2 * (xs.length + 1 + dg.length) + 768:=by omega
     have s8:=L8_cut (bs:=xs++[32]) (n:=xs.length + 1) (by rw [List.length_append];rfl)
     have s9:(L8 (xs++[32])).length=xs.length + 1:=by rw [L8_len,List.length_append];rfl
     have s10:L8 (xs++[32])++L8 dg=L8 (xs++([32]++dg)):=by rw [← L8_app,List.append_assoc]
     repeat (refine PRun.wpn rfl ?_;simp only [SW,↓reduceIte,reduceCtorEq,Nat.reduceAdd,Nat.reduceEqDiff,ltB_t hlt,hlt,hdr,c1,sl,z0,s1,s2,s3,s4,s5,bne_self_eq_false])
     refine .refl (PFun.to (hd) rfl (POps.wp ?_))
     simp only [SW,↓reduceIte,Nat.reduceAdd,hs1,hs2,p1,s6,s7,s8,s9,s10,bne_self_eq_false]
     repeat (refine PRun.wpn rfl ?_;simp only [SW,w3])
     refine Gh.mr mkWtD3 [(0,0),(4,1)] 2 rfl ?_
     refine ⟨loop.length - (i + 1),by omega,i + 1,?_,by omega,rfl,?_⟩
     ·rw [hapn,slotP_loc (by simp),List.length_append,List.length_append,← Nat.add_assoc];rfl
     ·simp only [SW,↓reduceIte,reduceCtorEq,Nat.reduceEqDiff,renL_L8,hapn]
   ·obtain rfl:i=loop.length:=by omega
    have ht2:(loop.map Int.toNat).take loop.length=loop.map Int.toNat:=List.take_of_length_le (by rw [List.length_map];exact Nat.le_refl _)
    rw [ht2]
    have hbl3:=oL_len5 (loop.map Int.toNat) true n2
    rw [List.length_map] at hbl3
    generalize oL itD true (loop.map Int.toNat)=ol at hbl3 ⊢
    have hbl4:(bs++ol).length≤6 * stem.length + 1 + 6 * loop.length:=by rw [List.length_append];omega
    have hbn4:(bs++ol).length ≠ 0:=by rw [List.length_append];have:bs.length ≠ 0:=fun e=>hbn (List.length_eq_zero_iff.1 e);omega
    generalize bs++ol=xs at hbl4 hbn4 ⊢
    have sl:=slotP_loc (p:=(1,xs.length)) hbn4
    have s1:¬ xs.length + 1≤xs.length:=by omega
    have s2:¬ 140737488355328 < 2 * (xs.length + 1) + 768:=by omega
    have s3:=L8_cut (bs:=xs) rfl
    have s4:=L8_len xs
    have s5:L8 xs++[PV.lit (.int .u8 41)]=L8 (xs++[41]):=by rw [L8_app];rfl
    have s8:=L8_cut (bs:=xs++[41]) (n:=xs.length + 1) (by rw [List.length_append];rfl)
    have s9:=bytes_L8 (xs++[41])
    repeat (refine PRun.wpn rfl ?_;simp only [SW,↓reduceIte,reduceCtorEq,Nat.reduceAdd,Nat.reduceEqDiff,ltB_f hlt,sl,s1,s2,s3,s4,s5,s8,s9,bne_self_eq_false])
    exact .refl ⟨_,rfl,.refl _⟩
  ·have hslot:slotP (1,bs.length) = .loc 1 0 bs.length bs.length:=slotP_loc fun e=>hbn (List.length_eq_zero_iff.1 e)
   have hb00:bs0.length ≠ 0:=fun e=>hb0 (List.length_eq_zero_iff.1 e)
   have sl:=slotP_loc (p:=(1,bs0.length)) hb00
   have s1:¬ bs0.length + 1≤bs0.length:=by omega
   have s2:¬ 140737488355328 < 2 * (bs0.length + 1) + 768:=by omega
   have s3:=L8_cut (bs:=bs0) rfl
   have s4:=L8_len bs0
   have s5:L8 bs0++[PV.lit (.int .u8 40)]=L8 bs:=by rw [hbs,L8_app];rfl
   have s6:PV.loc 1 0 (bs0.length + 1) (bs0.length + 1)=slotP (1,bs.length):=by rw [hslot,hbs,List.length_append];rfl
   repeat (refine PRun.wpn rfl ?_;simp only [SW,↓reduceIte,reduceCtorEq,Nat.reduceAdd,Nat.reduceEqDiff,ltB_f hlt,sl,s1,s2,s3,s4,s5,bne_self_eq_false])
   refine PRun.gh (Gh.mr mkWtD3 [(0,0),(3,1)] 2 rfl ?_)
   simp only [mkWtD3,SW,↓reduceIte,reduceCtorEq,Nat.reduceEqDiff,renL_L8,s6]
   refine PRun.loopG (fun m t π=>∃ i:Nat,t=(.junk::.ptr 0 0::.junk::slotP (1,(bs++oL itD true ((loop.map Int.toNat).take i)).length)::.junk::.lit (.int .i64 (i:Nat))::.junk::.junk::.junk::.junk::.junk::.junk::.junk::.junk::.junk::.junk::.junk::.junk::.junk::.junk::.junk::.junk::.junk::.junk::.junk::.junk::.junk::.junk::.junk::.junk::.junk::.junk::.junk::.junk::.junk::.junk::.junk::.junk::.junk::.junk::.junk::.junk::.junk::.junk::.junk::.junk::.junk::.junk::.junk::.junk::.junk::.junk::.junk::.junk::.junk::.junk::.junk::[])∧i≤loop.length∧m=loop.length - i∧π=⟨2,[(1,.cells (L8 (bs++oL itD true ((loop.map Int.toNat).take i))) 5 1 false false []),(0,.cells [.sz (L16 stem) stem.length,.sz (L16 loop) loop.length] 25 2 true false [])]⟩) ?_ loop.length _ _ ⟨0,by first | rfl | (simp only [List.take_zero,oL,List.append_nil,hslot];rfl),by omega,rfl,by simp only [List.take_zero,oL,List.append_nil]⟩
   clear hlt hi
   rintro m t π ⟨i,rfl,hi,rfl,rfl⟩
   by_cases hlt:((i:Nat):Int) < (loop.length:Nat)
   ·have i1:i < loop.length:=by omega
    have hx:=w2 _ (List.getElem_mem i1)
    obtain ⟨n,hn⟩:∃ n:Nat,loop[i]=n:=⟨loop[i].toNat,by omega⟩
    have hn5:n < 65536:=by omega
    have hd:=hdig n hn5
    have hdr:=L16_drop i1
    rw [hn] at hdr
    have c1:IntKind.i64.wrap ((n:Nat):Int)=((n:Nat):Int):=wrap64 (by omega) (by omega)
    have w3:IntKind.i64.wrap (((i:Nat):Int) + 1)=((i + 1:Nat):Int):=by rw [wrap64 (by omega) (by omega)];omega
    have hnext:oL itD true ((loop.map Int.toNat).take (i + 1))=oL itD true ((loop.map Int.toNat).take i)++((if true=true∧(loop.map Int.toNat).take i=[] then [] else [32])++Lib.decDigits n):=by
     rw [take_snoc i1,oL_snoc,hn];rfl
    have hbl3:=oL_len5 ((loop.map Int.toNat).take i) true fun x hx=>n2 x (List.mem_of_mem_take hx)
    rw [List.length_take,List.length_map] at hbl3
    have hdl:(Lib.decDigits n).length≤5:=digs_len n hn5
    have hdn:=dec_ne n
    generalize Lib.decDigits n=dg at hd hnext hdl hdn
    have hs1:(⟨⟨dg⟩⟩:ByteArray).size=dg.length:=rfl
    have hs2:=str_L8 ⟨⟨dg⟩⟩
    simp only [hs1] at hs2
    have hd0:dg.length ≠ 0:=fun e=>hdn (List.length_eq_zero_iff.1 e)
    have p1:=plain_L8 dg
    by_cases hi0:i=0
    ·subst hi0
     simp only [SW,oL] at hnext ⊢
     have s1:¬ bs.length + dg.length≤bs.length:=by omega
     have s2:¬ 140737488355328 < 2 * (bs.length + dg.length) + 768:=by omega
     have s3:=L8_cut (bs:=bs) rfl
     have s4:=L8_len bs
     have s5:L8 bs++L8 dg=L8 (bs++dg):=(L8_app _ _).symm
     have z0:=ltB_f (show ¬ (0:Int) < 0 by omega)
     have z1:=ltB_t (show (0:Int) < ((loop.length:Nat):Int) by omega)
     have z2:(0:Int) < ((loop.length:Nat):Int):=by omega
     have w4:IntKind.i64.wrap ((0:Int) + 1)=((1:Nat):Int):=rfl
     have hdr0:L16 loop = .lit (.int .u16 ((n:Nat):Int))::L16 (loop.drop 1):=by rw [← hdr];rfl
     repeat (refine PRun.wpn rfl ?_;simp only [SW,↓reduceIte,reduceCtorEq,z0,z1,z2,hdr0,c1,hslot])
     refine .refl (PFun.to (hd) rfl (POps.wp ?_))
     simp only [SW,↓reduceIte,Nat.reduceAdd,hs1,hs2,p1,s1,s2,s3,s4,s5,bne_self_eq_false]
     repeat (refine PRun.wpn rfl ?_;simp only [SW,w4])
     refine Gh.mr mkWtD3 [(0,0),(2,1)] 2 rfl ?_
     refine ⟨loop.length - 1,by omega,1,?_,by omega,rfl,?_⟩
     ·rw [hnext,slotP_loc (by simp [hdn]),List.length_append];rfl
     ·simp only [SW,↓reduceIte,reduceCtorEq,Nat.reduceEqDiff,renL_L8,hnext]
    ·have ht0:¬ (loop.map Int.toNat).take i=[]:=fun e=>by
      have:=congrArg List.length e
      rw [List.length_take,List.length_map,List.length_nil] at this;omega
     rw [if_neg (by rintro ⟨_,h⟩;exact ht0 h)] at hnext
     generalize oL itD true ((loop.map Int.toNat).take i)=ol at hnext hbl3 ⊢
     have hbl4:(bs++ol).length≤6 * stem.length + 1 + 6 * loop.length:=by rw [List.length_append];omega
     have hbn4:(bs++ol).length ≠ 0:=by rw [List.length_append];have:bs.length ≠ 0:=fun e=>hbn (List.length_eq_zero_iff.1 e);omega
     have hapn:bs++oL itD true ((loop.map Int.toNat).take (i + 1))=bs++ol++([32]++dg):=by rw [hnext,List.append_assoc]
     generalize bs++ol=xs at hbl4 hbn4 hapn ⊢
     have sl:=slotP_loc (p:=(1,xs.length)) hbn4
     have z0:=ltB_t (show (0:Int) < ((i:Nat):Int) by omega)
     have s1:¬ xs.length + 1≤xs.length:=by omega
     have s2:¬ 140737488355328 < 2 * (xs.length + 1) + 768:=by omega
     have s3:=L8_cut (bs:=xs) rfl
     have s4:=L8_len xs
     have s5:L8 xs++[PV.lit (.int .u8 32)]=L8 (xs++[32]):=by rw [L8_app];rfl
     have s6:¬ xs.length + 1 + dg.length≤xs.length + 1:=by omega
     have s7:¬ 140737488355328 < 2 * (xs.length + 1 + dg.length) + 768:=by omega
     have s8:=L8_cut (bs:=xs++[32]) (n:=xs.length + 1) (by rw [List.length_append];rfl)
     have s9:(L8 (xs++[32])).length=xs.length + 1:=by rw [L8_len,List.length_append];rfl
     have s10:L8 (xs++[32])++L8 dg=L8 (xs++([32]++dg)):=by rw [← L8_app,List.append_assoc]
     repeat (refine PRun.wpn rfl ?_;simp only [SW,↓reduceIte,reduceCtorEq,Nat.reduceAdd,Nat.reduceEqDiff,ltB_t hlt,hlt,hdr,c1,sl,z0,s1,s2,s3,s4,s5,bne_self_eq_false])
     refine .refl (PFun.to (hd) rfl (POps.wp ?_))
     simp only [SW,↓reduceIte,Nat.reduceAdd,hs1,hs2,p1,s6,s7,s8,s9,s10,bne_self_eq_false]
     repeat (refine PRun.wpn rfl ?_;simp only [SW,w3])
     refine Gh.mr mkWtD3 [(0,0),(4,1)] 2 rfl ?_
     refine ⟨loop.length - (i + 1),by omega,i + 1,?_,by omega,rfl,?_⟩
     ·rw [hapn,slotP_loc (by simp),List.length_append,List.length_append,← Nat.add_assoc];rfl
     ·simp only [SW,↓reduceIte,reduceCtorEq,Nat.reduceEqDiff,renL_L8,hapn]
   ·obtain rfl:i=loop.length:=by omega
    have ht2:(loop.map Int.toNat).take loop.length=loop.map Int.toNat:=List.take_of_length_le (by rw [List.length_map];exact Nat.le_refl _)
    rw [ht2]
    have hbl3:=oL_len5 (loop.map Int.toNat) true n2
    rw [List.length_map] at hbl3
    generalize oL itD true (loop.map Int.toNat)=ol at hbl3 ⊢
    have hbl4:(bs++ol).length≤6 * stem.length + 1 + 6 * loop.length:=by rw [List.length_append];omega
    have hbn4:(bs++ol).length ≠ 0:=by rw [List.length_append];have:bs.length ≠ 0:=fun e=>hbn (List.length_eq_zero_iff.1 e);omega
    generalize bs++ol=xs at hbl4 hbn4 ⊢
    have sl:=slotP_loc (p:=(1,xs.length)) hbn4
    have s1:¬ xs.length + 1≤xs.length:=by omega
    have s2:¬ 140737488355328 < 2 * (xs.length + 1) + 768:=by omega
    have s3:=L8_cut (bs:=xs) rfl
    have s4:=L8_len xs
    have s5:L8 xs++[PV.lit (.int .u8 41)]=L8 (xs++[41]):=by rw [L8_app];rfl
    have s8:=L8_cut (bs:=xs++[41]) (n:=xs.length + 1) (by rw [List.length_append];rfl)
    have s9:=bytes_L8 (xs++[41])
    repeat (refine PRun.wpn rfl ?_;simp only [SW,↓reduceIte,reduceCtorEq,Nat.reduceAdd,Nat.reduceEqDiff,ltB_f hlt,sl,s1,s2,s3,s4,s5,s8,s9,bne_self_eq_false])
    exact .refl ⟨_,rfl,.refl _⟩
end
end Go.Proofs.YtkldgoapompinaaDoor.Ai
namespace Go.Proofs.YtkldgoapompinaaDoor.Ai
set_option linter.unusedSimpArgs false
open Go
set_option linter.unusedVariables false
set_option linter.unusedSectionVars false
set_option maxRecDepth 10000
set_option maxHeartbeats 4000000
theorem take_next' {l m:List Int} {i:Nat} (h1:i < l.length) (h2:i < m.length) (h:l.take i=m.take i) (he:l[i]=m[i]):l.take (i + 1)=m.take (i + 1):=by
 rw [List.take_succ_eq_append_getElem h1,List.take_succ_eq_append_getElem h2,h,he]
theorem overL (l:List Int) (z:PV):overP (List.replicate (l.length + 2) z) (L16 l)=some (L16 l++[z,z]):=by
 rw [overP_eq _ _ (by simp [L16_len]),L16_len,List.drop_replicate]
 rw [show l.length + 2 - l.length=2 by omega];rfl
theorem spliceL (l:List Int) (z a b:PV):spliceP (L16 l++[z,z]) l.length [a,b]=some (L16 l++[a,b]):=by
 rw [spliceP_eq _ _ _ (by simp [L16_len])]
 have e:(L16 l++[z,z]).take l.length=L16 l:=by rw [← L16_len l,List.take_left]
 have e2:(L16 l++[z,z]).drop (l.length + 2)=[]:=by rw [List.drop_eq_nil_of_le];simp [L16_len]
 rw [e]
 simp only [SW,Nat.reduceAdd,e2]
section
variable {C:Ctx} (hm:C.P.follows .mixedOrders=true) (hC:TabOK C.P C.ng C.ts Tryd.tab)
include hm hC
theorem sameLi (a b:List Int) (ha:a.length < 2 ^ 62) (hb:b.length < 2 ^ 62):PFun C 24 [szU a,szU b] (.lit (.bool (decide (a=b)))):=by
 by_cases hl:a.length=b.length
 ·refine PFun.body hm hC (show Tryd.tab.get 24=some Tryd.c24 from rfl) rfl ?_
  simp only [SW,Tryd.c24,startP,Nat.reduceAdd,Nat.reduceSub,List.replicate,szU]
  repeat (refine PRun.wpn rfl ?_;simp only [SW,↓reduceIte,reduceCtorEq,neB_f (show ((a.length:Nat):Int)=((b.length:Nat):Int) by omega)])
  refine PRun.gh (Gh.mask mkWtD4 ?_)
  simp only [mkWtD4,↓reduceIte,Bool.false_eq_true,maskP]
  refine PRun.loopG (fun m t π=>∃ i:Nat,t=(.sz (L16 a) a.length::.sz (L16 b) b.length::.junk::.junk::.junk::.lit (.int .i64 (i:Nat))::.junk::.junk::.junk::.junk::.junk::.junk::.junk::.junk::.junk::.junk::.junk::.junk::.junk::.junk::.junk::.junk::.junk::.junk::.junk::.junk::[])∧i≤a.length∧m=a.length - i∧π=⟨0,[]⟩∧a.take i=b.take i) ?_ a.length _ _ ⟨0,rfl,by omega,rfl,rfl,rfl⟩
  rintro m t π ⟨i,rfl,hi,rfl,rfl,ht⟩
  by_cases hlt:(i:Int) < (a.length:Nat)
  ·have hlb:(i:Int) < (b.length:Nat):=by omega
   have i1:i < a.length:=by omega
   have i2:i < b.length:=by omega
   have w2:IntKind.i64.wrap (((i:Nat):Int) + 1)=((i + 1:Nat):Int):=by rw [wrap64 (by omega) (by omega)];omega
   by_cases hxy:a[i]=b[i]
   ·repeat (refine PRun.wpn rfl ?_;simp only [SW,↓reduceIte,ltB_t hlt])
    refine PDraw.last (Nat.zero_le _) rfl ?_
    try dsimp only
    simp only [SW,↓reduceIte,Nat.reduceAdd,hlt,hlb,L16_drop i1,L16_drop i2,neB_f hxy]
    skip
    repeat (refine PRun.wpn rfl ?_;simp only [SW,↓reduceIte,w2])
    refine Gh.mask mkWtD4 ?_
    exact ⟨a.length - (i + 1),by omega,i + 1,rfl,by omega,rfl,rfl,take_next' i1 i2 ht hxy⟩
   ·have hf:decide (a=b)=false:=decide_eq_false fun e=>hxy (by subst e;rfl)
    rw [hf]
    repeat (refine PRun.wpn rfl ?_;simp only [SW,↓reduceIte,ltB_t hlt])
    refine PDraw.last (Nat.zero_le _) rfl ?_
    try dsimp only
    simp only [SW,↓reduceIte,Nat.reduceAdd,hlt,hlb,L16_drop i1,L16_drop i2,neB_t hxy]
    repeat (refine PRun.wpn rfl ?_;simp only [SW,↓reduceIte,reduceCtorEq])
    exact .refl ⟨_,rfl,.refl _⟩
  ·obtain rfl:i=a.length:=by omega
   have hf:decide (a=b)=true:=decide_eq_true (by rw [List.take_length,List.take_of_length_le (by omega)] at ht;exact ht)
   rw [hf]
   repeat (refine PRun.wpn rfl ?_;simp only [SW,↓reduceIte,reduceCtorEq,ltB_f hlt])
   exact .refl ⟨_,rfl,.refl _⟩
 ·have hf:decide (a=b)=false:=decide_eq_false fun e=>hl (by rw [e])
  rw [hf]
  refine PFun.body hm hC (show Tryd.tab.get 24=some Tryd.c24 from rfl) rfl ?_
  simp only [SW,Tryd.c24,startP,Nat.reduceAdd,Nat.reduceSub,List.replicate,szU]
  repeat (refine PRun.wpn rfl ?_;simp only [SW,↓reduceIte,reduceCtorEq,neB_t (show ¬ ((a.length:Nat):Int)=((b.length:Nat):Int) by omega)])
  exact .refl ⟨_,rfl,.refl _⟩
theorem sameWi (a b c d:List Int) (ha:a.length < 2 ^ 62) (hb:b.length < 2 ^ 62) (hc:c.length < 2 ^ 62) (hd:d.length < 2 ^ 62):PFun C 20 [wdP a b,wdP c d] (.lit (.bool (decide (a=c∧b=d)))):=by
 have h1:=sameLi hm hC a c ha hc
 have h2:=sameLi hm hC b d hb hd
 simp only [szU] at h1 h2
 by_cases hac:a=c
 ·rw [show decide (a=c)=true from decide_eq_true hac] at h1
  rw [show decide (a=c∧b=d)=decide (b=d) from by simp [hac]]
  refine PFun.body hm hC (show Tryd.tab.get 20=some Tryd.c20 from rfl) rfl ?_
  simp only [SW,Tryd.c20,startP,Nat.reduceAdd,Nat.reduceSub,List.replicate,wdP,szU]
  repeat (refine PRun.wpn rfl ?_;simp only [SW,↓reduceIte,reduceCtorEq,Nat.reduceAdd])
  refine .refl (PFun.to (h1) rfl (POps.wp ?_))
  simp only [SW,↓reduceIte,reduceCtorEq]
  refine .refl (PFun.to (h2) rfl (POps.wp ?_))
  simp only [SW]
  repeat (refine PRun.wpn rfl ?_;simp only [wp,or_true,true_and,reduceCtorEq])
  exact .refl ⟨_,rfl,.refl _⟩
 ·rw [show decide (a=c)=false from decide_eq_false hac] at h1
  rw [show decide (a=c∧b=d)=false from by simp [hac]]
  refine PFun.body hm hC (show Tryd.tab.get 20=some Tryd.c20 from rfl) rfl ?_
  simp only [SW,Tryd.c20,startP,Nat.reduceAdd,Nat.reduceSub,List.replicate,wdP,szU]
  repeat (refine PRun.wpn rfl ?_;simp only [SW,↓reduceIte,reduceCtorEq,Nat.reduceAdd])
  refine .refl (PFun.to (h1) rfl (POps.wp ?_))
  simp only [SW]
  repeat (refine PRun.wpn rfl ?_;simp only [wp,or_true,true_and,reduceCtorEq])
  exact .refl ⟨_,rfl,.refl _⟩
theorem heavy_13 (stem loop:List Int) (h1:stem.length < 2 ^ 60) (h2:loop.length < 2 ^ 60):PFun C 13 [wdP stem loop] (.lit (.bool (ltB 4194304 ((stem.length + loop.length:Nat):Int)))):=by
 have e:IntKind.i64.wrap (((stem.length:Nat):Int) + ((loop.length:Nat):Int))=((stem.length + loop.length:Nat):Int):=by rw [wrap64 (by omega) (by omega)];omega
 refine PFun.body hm hC (show Tryd.tab.get 13=some Tryd.c13 from rfl) rfl ?_
 simp only [SW,Tryd.c13,startP,Nat.reduceAdd,Nat.reduceSub,List.replicate,wdP,szU]
 repeat (refine PRun.wpn rfl ?_;simp only [SW,↓reduceIte,reduceCtorEq,e])
 exact .refl ⟨_,rfl,.refl _⟩
theorem lent_15 (l:List Int) (hl:l.length < 2 ^ 45):PGen C 15 [szU l] (.loc 0 0 l.length (l.length + 2)) ⟨1,[(0,.cells (L16 (l++[60001,60002])) 54 1 true false [])]⟩:=by
 refine PGen.body hm hC (show Tryd.tab.get 15=some Tryd.c15 from rfl) ?_
 simp only [SW,Tryd.c15,startP,szU,Nat.reduceAdd,Nat.reduceSub,List.replicate]
 have e0:IntKind.i64.wrap ((l.length:Nat) + 2)=((l.length + 2:Nat):Int):=by rw [wrap64 (by omega) (by omega)];omega
 have e1:((l.length + 2:Nat):Int) * 2≤140737488355328:=by omega
 have e2:((l.length + 2:Nat):Int)≤140737488355328:=by omega
 have g3:¬ l.length + 2=0:=by omega
 have g4:l.length≤l.length + 2:=by omega
 have g5:((l.length:Nat):Int)≤((l.length + 2:Nat):Int):=by omega
 have g6:Nat.ble 0 (l.length + 2)=true:=rfl
 by_cases h0:l.length=0
 ·have h1:l=[]:=List.length_eq_zero_iff.1 h0
  subst h1
  have w2:IntKind.i64.wrap (0 + 2)=2:=by rw [wrap64 (by omega) (by omega)];rfl
  have w3:(0:Int)≤2∧(2:Int) * 2≤140737488355328∧(2:Int)≤140737488355328:=by omega
  repeat (refine PRun.wpn rfl ?_;simp only [SW,↓reduceIte,reduceCtorEq,Nat.reduceAdd,w2,w3,List.replicate])
  exact Gh.mr (false::false::true::false::false::false::false::false::false::false::false::false::false::false::false::false::false::false::[]) [(0,0)] 1 rfl ⟨_,rfl,.refl _,rfl⟩
 ·have k1:=L16_cut l
  have k2:=allPlain_L16 l
  have k3:=overL l (.lit (.int .u16 0))
  have k4:¬ l.length + 2≤l.length:=by omega
  have k5:=L16_len l
  have k6:=spliceL l (.lit (.int .u16 0)) (.lit (.int .u16 60001)) (.lit (.int .u16 60002))
  have ee:L16 l++[PV.lit (.int .u16 60001),PV.lit (.int .u16 60002)]=L16 (l++[60001,60002]):=by simp [L16]
  rw [ee] at k6
  repeat (refine PRun.wpn rfl ?_;simp only [SW,↓reduceIte,reduceCtorEq,Nat.reduceAdd,e0,e1,e2,h0,g3,g4,g5,k1,k2,k3,k6])
  refine Gh.mr (false::false::true::false::false::false::false::false::false::false::false::false::false::false::false::false::false::false::[]) [(0,0)] 1 rfl ⟨_,rfl,.refl _,?_⟩
  simp only [↓reduceIte,reduceCtorEq,renO,renH,renA,lkN,renL_L16]
theorem lent_14 (stem loop:List Int) (h1:stem.length < 2 ^ 45) (h2:loop.length < 2 ^ 45):PGen C 14 [wdP stem loop] (.agg [.loc 0 0 stem.length (stem.length + 2),.loc 1 0 loop.length (loop.length + 2)])
  ⟨3,[(1,.cells (L16 (loop++[60001,60002])) 54 1 true false []),(0,.cells (L16 (stem++[60001,60002])) 54 1 true false []),(2,.cells [.loc 0 0 stem.length (stem.length + 2),.loc 1 0 loop.length (loop.length + 2)] 25 2 true false [])]⟩:=by
 have c1:=lent_15 hm hC stem h1
 have c2:=lent_15 hm hC loop h2
 simp only [szU] at c1 c2
 refine PGen.body hm hC (show Tryd.tab.get 14=some Tryd.c14 from rfl) ?_
 simp only [SW,Tryd.c14,startP,wdP,szU,Nat.reduceAdd,Nat.reduceSub,List.replicate]
 repeat (refine PRun.wpn rfl ?_;simp only [SW,↓reduceIte,Nat.reduceAdd])
 refine PDraw.stage (Nat.zero_le _) rfl ?_
 try dsimp only
 simp only [SW,↓reduceIte,reduceCtorEq,Nat.reduceAdd]
 refine PDE.gen (Nat.zero_le _) c1 rfl ?_
 simp only [SW,Nat.reduceAdd,PW.with,shH,shO,shP,shL_L16,shA]
 refine PDraw.stage (Nat.zero_le _) rfl ?_
 try dsimp only
 simp only [SW]
 refine PDE.gen (Nat.zero_le _) c2 rfl ?_
 simp only [SW,Nat.reduceAdd,PW.with,shH,shO,shP,shL_L16,shA]
 refine PDraw.stage (Nat.zero_le _) rfl ?_
 try dsimp only
 simp only [SW,↓reduceIte]
 refine PDE.any (Nat.zero_le _) (PE.det rfl ?_)
 refine PDraw.last (Nat.zero_le _) rfl ?_
 try dsimp only
 simp only [SW,↓reduceIte,Nat.reduceEqDiff]
 repeat (refine PRun.wpn rfl ?_;simp only [wp,or_true,true_and,reduceCtorEq])
 refine Gh.mr (false::false::true::false::false::false::false::false::false::false::[]) [(1,2),(2,0),(3,1)] 3 rfl ⟨_,rfl,.refl _,?_⟩
 simp only [SW,↓reduceIte,reduceCtorEq,Nat.reduceEqDiff,renL_L16]
theorem show_34 {itS:Nat→ByteArray} (hI:∀ i:Nat,i < 2 ^ 40→PFun C 58 [.lit (.int .i64 (i:Nat))] (.lit (.string (itS i)))) (hD:∀ i,digs itS i=Lib.decDigits i) (stem loop:List Int) (h1:stem.length < 2 ^ 28) (h2:loop.length < 2 ^ 28) (w1:W16 stem) (w2:W16 loop):PFun C 34 [wdP stem loop] (.lit (.string (showV stem loop))):=by
 have hIs:∀ i:Nat,i < 2 ^ 40→(itS i).size≤20:=fun i hi=>by
  have:(digs itS i).length=(itS i).size:=Array.length_toList
  rw [← this,hD,Lib.decDigits_length]
  exact Lib.nDigits_le20 i (by omega)
 have hIn:∀ i:Nat,i < 2 ^ 40→digs itS i ≠ []:=fun i _=>by rw [hD];exact dec_ne i
 have hL:∀ l:List Int,W16 l→L16 l=N16 (l.map Int.toNat):=fun l hw=>by
  simp only [L16,N16,List.map_map]
  refine List.map_congr_left fun x hx=>?_
  have:=hw x hx
  simp only [Function.comp]
  rw [Int.toNat_of_nonneg this.1]
 unfold showV
 by_cases h0:loop=[]
 ·subst h0
  have:=show_nil hm hC (stem.map Int.toNat)
  rw [List.length_map,← hL stem w1] at this
  rw [if_pos rfl]
  exact this
 ·rw [if_neg h0]
  have:=show_ok hm hC hI hIs hIn (stem.map Int.toNat) (loop.map Int.toNat) (by simpa using h0) (by rw [List.length_map];exact h1) (by rw [List.length_map];exact h2) w1.nat w2.nat
  rw [List.length_map,List.length_map,← hL stem w1,← hL loop w2,outS_congr (g:=itD) hD,oL_congr (g:=itD) hD] at this
  exact this
end
end Go.Proofs.YtkldgoapompinaaDoor.Ai
namespace Go.Proofs.YtkldgoapompinaaDoor.Ai
set_option linter.unusedSimpArgs false
open Go
set_option linter.unusedVariables false
set_option linter.unusedSectionVars false
set_option maxRecDepth 10000
set_option maxHeartbeats 4000000
def marks:List Int:=[60001,60002]
structure Lnt (H:List (Nat × PObj)) (nx i:Nat) (l e:List Int):Prop where
 lt:i < nx
 nz:i ≠ 0
 at_:look H i=some (.cells (L16 (l++e)) 54 1 true false [])
theorem Lnt.keep {H H':List (Nat × PObj)} {nx nx' i:Nat} {l e:List Int} (h:Lnt H nx i l e) (hn:nx≤nx') (hk:∀ id o,id < nx→look H id=some o→look H' id=some o):Lnt H' nx' i l e:=⟨Nat.lt_of_lt_of_le h.lt hn,h.nz,hk _ _ h.lt h.at_⟩
theorem Lnt.push {H:List (Nat × PObj)} {nx i:Nat} {l e:List Int} (h:Lnt H nx i l e) (o:PObj):Lnt ((nx,o)::H) (nx + 1) i l e:=⟨Nat.lt_succ_of_lt h.lt,h.nz,look_push h.at_ h.lt⟩
theorem Lnt.it {H:List (Nat × PObj)} {nx i:Nat} {l e:List Int} (h:Lnt H nx i l e):ItOK H (i,L16 (l++e),true):=fun _=>⟨pureL_L16 _,h.at_⟩
theorem mark1 (l:List Int):nthP (L16 (l++marks)) l.length=some (.lit (.int .u16 60001)):=by
 rw [nthP_eq];simp [L16,marks]
theorem mark2 (l:List Int):nthP (L16 (l++marks)) (l.length + 1)=some (.lit (.int .u16 60002)):=by
 rw [nthP_eq];simp [L16,marks]
section
variable {C:Ctx} (hm:C.P.follows .mixedOrders=true) (hC:TabOK C.P C.ng C.ts Tryd.tab)
include hm hC
theorem whole_39 (l:List Int) (hl:l.length < 2 ^ 45) (nx i:Nat) (H:List (Nat × PObj)) (hi:Lnt H nx i l marks) {A:PV→PW→Prop} (hA:A (.lit (.bool true)) ⟨nx,H⟩):PTo C 39 [.loc i 0 l.length (l.length + 2),szU l] ⟨nx,H⟩ A:=by
 refine PTo.of_body hm hC (show Tryd.tab.get 39=some Tryd.c39 from rfl) ?_
 simp only [SW,Tryd.c39,startP,szU,Nat.reduceAdd,Nat.reduceSub,List.replicate]
 have e0:IntKind.i64.wrap ((l.length:Nat) + 2)=((l.length + 2:Nat):Int):=by rw [wrap64 (by omega) (by omega)];omega
 have e1:IntKind.i64.wrap ((l.length:Nat) + 1)=((l.length + 1:Nat):Int):=by rw [wrap64 (by omega) (by omega)];omega
 have g1:¬ ((l.length + 2:Nat):Int) < ((l.length + 2:Nat):Int):=by omega
 have g2:((l.length:Nat):Int) < ((l.length + 2:Nat):Int):=by omega
 have g3:((l.length + 1:Nat):Int) < ((l.length + 2:Nat):Int):=by omega
 have g4:l.length≤l.length + 2:=by omega
 have s1:=sameLi hm hC l l (by omega) (by omega)
 rw [decide_eq_true rfl] at s1
 have hlend:lendQ [(i,L16 (l++marks),true)] [.loc i 0 l.length (l.length + 2),.sz (L16 l) l.length]=[.sl (L16 (l++marks)) l.length,.sz (L16 l) l.length]:=by
  simp only [lendQ,frQ_cons,frQ_nil,frQP_loc hi.nz _ _ _ g4,frQP_sz]
 have hat:=hi.at_
 repeat (refine PRun.wpn rfl ?_;simp only [SW,↓reduceIte,reduceCtorEq,hat,e0,e1,g2,g3,g4,mark1,mark2,ltB_f g1,eqB_t (rfl:(60001:Int)=60001),eqB_t (rfl:(60002:Int)=60002),Nat.add_comm 0])
 refine .refl ⟨Nat.le_refl _,PFun.lendQ s1 [(i,L16 (l++marks),true)] (List.pairwise_cons.2 ⟨fun x hx=>by simp at hx,.nil⟩) (fun x hx=>by obtain rfl:=List.mem_singleton.1 hx;exact hi.it) hlend (.cons (fun I η v hv=>Wk.sl_sz I η v (sl_wk l marks I η v hv)) (.cons (.refl _) .nil)) (by simp only [pureL,pureP,Bool.and_self]) ?_ (Nat.le_refl _)⟩
 refine POps.wp ?_
 simp only [SW]
 repeat (refine PRun.wpn rfl ?_;simp only [SW,reduceCtorEq])
 exact ⟨_,rfl,hA⟩
theorem whole_38 (stem loop:List Int) (h1:stem.length < 2 ^ 45) (h2:loop.length < 2 ^ 45) (nx i j:Nat) (H:List (Nat × PObj)) (hi:Lnt H nx i stem marks) (hj:Lnt H nx j loop marks) {A:PV→PW→Prop} (hA:∀ x y,A (.lit (.bool true)) ⟨nx + 1 + 1,(nx + 1,x)::(nx,y)::H⟩) :
  PTo C 38 [.agg [.loc i 0 stem.length (stem.length + 2),.loc j 0 loop.length (loop.length + 2)],wdP stem loop] ⟨nx,H⟩ A:=by
 refine PTo.of_body hm hC (show Tryd.tab.get 38=some Tryd.c38 from rfl) ?_
 simp only [SW,Tryd.c38,startP,wdP,szU,Nat.reduceAdd,Nat.reduceSub,List.replicate]
 have b1:Nat.ble nx (nx + 1)=true:=Nat.ble_eq_true_of_le (by omega)
 have b2:Nat.ble nx (nx + 1 + 1)=true:=Nat.ble_eq_true_of_le (by omega)
 have g5:¬ nx=nx + 1:=by omega
 repeat (refine PRun.wpn rfl ?_;simp only [SW,↓reduceIte,g5])
 refine .refl ⟨show nx≤nx + 1 + 1 by omega,PTo.toE (whole_39 hm hC stem h1 _ i _ ((hi.push _).push _) ?_) (show nx≤nx + 1 + 1 by omega)⟩
 refine POps.wp ?_
 simp only [SW,↓reduceIte,g5]
 refine .refl ⟨show nx≤nx + 1 + 1 by omega,PTo.toE (whole_39 hm hC loop h2 _ j _ ((hj.push _).push _) ?_) (show nx≤nx + 1 + 1 by omega)⟩
 refine POps.wp ?_
 simp only [SW]
 repeat (refine PRun.wpn rfl ?_;simp only [SW,reduceCtorEq])
 exact ⟨_,rfl,hA _ _⟩
theorem spoil_41 (n:Nat) (hl:n < 2 ^ 45) (nx i:Nat) (H:List (Nat × PObj)) (zs0:List Int) (hz0:zs0.length=n + 2) (hi:look H i=some (.cells (L16 zs0) 54 1 true false [])) {A:PV→PW→Prop}
  (hA:∀ H',look H' i=some (.cells (L16 (List.replicate (n + 2) 60003)) 54 1 true false [])→(∀ id o,id ≠ i→look H id=some o→look H' id=some o)→A (tupP []) ⟨nx,H'⟩):PTo C 41 [.loc i 0 n (n + 2)] ⟨nx,H⟩ A:=by
 refine PTo.of_body hm hC (show Tryd.tab.get 41=some Tryd.c41 from rfl) ?_
 simp only [SW,Tryd.c41,startP,Nat.reduceAdd,Nat.reduceSub,List.replicate]
 have b0:Nat.ble nx nx=true:=Nat.ble_eq_true_of_le (Nat.le_refl _)
 have g1:((n + 2:Nat):Int)≤((n + 2:Nat):Int):=Int.le_refl _
 have g2:n≤n + 2:=by omega
 repeat (refine PRun.wpn rfl ?_;simp only [SW,↓reduceIte,reduceCtorEq,hi,g1,g2])
 refine PRun.gh (Gh.mask (true::false::true::true::false::false::false::false::false::false::false::false::false::false::false::false::false::[]) ?_)
 simp only [↓reduceIte,Bool.false_eq_true,maskP]
 refine PRun.loopG (fun m t π=>∃ (k:Nat) (zs:List Int) (H':List (Nat × PObj)),t=(.loc i 0 n (n + 2)::.junk::.loc i 0 (n + 2) (n + 2)::.lit (.int .i64 (k:Nat))::.junk::.junk::.junk::.junk::.junk::.junk::.junk::.junk::.junk::.junk::.junk::.junk::.junk::[])∧k≤n + 2∧m=n + 2 - k∧π=⟨nx,H'⟩∧zs.length=n + 2∧look H' i=some (.cells (L16 zs) 54 1 true false [])∧(∀ j,j < k→zs[j]? = some 60003)∧∀ id o,id ≠ i→look H id=some o→look H' id=some o) ?_ (n + 2) _ _ ⟨0,zs0,H,rfl,by omega,rfl,rfl,hz0,hi,fun j h=>by omega,fun _ _ _ h=>h⟩
 rintro m t π ⟨k,zs,H',rfl,hk,rfl,rfl,hz,hH,hd,hK⟩
 by_cases hlt:((k:Nat):Int) < ((n + 2:Nat):Int)
 ·have hsp:=splice1 (cs:=L16 zs) (k:=k) (.lit (.int .u16 60003)) (by rw [L16_len];omega)
  have hset:(L16 zs).set k (.lit (.int .u16 60003))=L16 (zs.set k 60003):=by
   simp only [L16];rw [List.map_set]
  rw [hset] at hsp
  have w1:IntKind.i64.wrap (((k:Nat):Int) + 1)=((k + 1:Nat):Int):=by rw [wrap64 (by omega) (by omega)];omega
  repeat (refine PRun.wpn rfl ?_;simp only [SW,↓reduceIte,ltB_t hlt,hlt,hH,hsp,w1])
  refine Gh.mask (true::false::true::true::false::false::false::false::false::false::false::false::false::false::false::false::false::[]) ?_
  refine ⟨n + 2 - (k + 1),by omega,k + 1,zs.set k 60003,_,rfl,by omega,rfl,rfl,by rw [List.length_set];exact hz,by rw [look_setO,if_pos rfl,hH];rfl,fun j hj=>?_,fun id o h1 h2=>look_set_ne (hK id o h1 h2) h1⟩
  by_cases he:j=k
  ·subst he;rw [List.getElem?_set_self (by omega)]
  ·rw [List.getElem?_set_ne (fun e=>he e.symm)];exact hd j (by omega)
 ·obtain rfl:k=n + 2:=by omega
  have hrep:zs=List.replicate (n + 2) 60003:=by
   refine List.ext_getElem? fun j=>?_
   by_cases hj:j < n + 2
   ·rw [hd j hj,List.getElem?_replicate,if_pos hj]
   ·rw [List.getElem?_eq_none (by omega),List.getElem?_replicate,if_neg hj]
  rw [hrep] at hH
  repeat (refine PRun.wpn rfl ?_;simp only [SW,↓reduceIte,ltB_f hlt])
  exact ⟨_,rfl,hA H' hH hK⟩
theorem spoil_40 (n1 n2:Nat) (h1:n1 < 2 ^ 45) (h2:n2 < 2 ^ 45) (nx i j:Nat) (H:List (Nat × PObj)) (z1 z2:List Int) (hz1:z1.length=n1 + 2) (hz2:z2.length=n2 + 2) (hil:i < nx) (hjl:j < nx) (hij:i ≠ j) (hi:look H i=some (.cells (L16 z1) 54 1 true false [])) (hj:look H j=some (.cells (L16 z2) 54 1 true false [])) {A:PV→PW→Prop}
  (hA:∀ H',look H' i=some (.cells (L16 (List.replicate (n1 + 2) 60003)) 54 1 true false [])→look H' j=some (.cells (L16 (List.replicate (n2 + 2) 60003)) 54 1 true false [])→(∀ id o,id < nx→id ≠ i→id ≠ j→look H id=some o→look H' id=some o)→A (tupP []) ⟨nx + 1,H'⟩):PTo C 40 [.agg [.loc i 0 n1 (n1 + 2),.loc j 0 n2 (n2 + 2)]] ⟨nx,H⟩ A:=by
 refine PTo.of_body hm hC (show Tryd.tab.get 40=some Tryd.c40 from rfl) ?_
 simp only [SW,Tryd.c40,startP,Nat.reduceAdd,Nat.reduceSub,List.replicate]
 have b1:Nat.ble nx (nx + 1)=true:=Nat.ble_eq_true_of_le (by omega)
 repeat (refine PRun.wpn rfl ?_;simp only [SW,↓reduceIte])
 refine .refl ⟨show nx≤nx + 1 by omega,PTo.toE (spoil_41 hm hC n1 h1 _ i _ z1 hz1 (look_push hi hil) fun H1 k1 k2=>?_) (show nx≤nx + 1 by omega)⟩
 have hbox:=k2 nx _ (by omega) (by simp only [look,if_true];rfl)
 refine POps.wp ?_
 simp only [wo_nil,setP,tupP]
 repeat (refine PRun.wpn rfl ?_;simp only [SW,reduceCtorEq,hbox])
 refine .refl ⟨show nx≤nx + 1 by omega,PTo.toE (spoil_41 hm hC n2 h2 _ j _ z2 hz2 (k2 j _ (fun e=>hij e.symm) (look_push hj hjl)) fun H2 q1 q2=>?_) (show nx≤nx + 1 by omega)⟩
 refine POps.wp ?_
 simp only [wo_nil,setP,tupP]
 repeat (refine PRun.wpn rfl ?_;simp only [SW,↓reduceIte,reduceCtorEq,Nat.reduceAdd,Nat.reduceMul,Nat.reduceLeDiff,Nat.reduceLT,Nat.reduceEqDiff,Nat.reduceSub])
 exact ⟨_,rfl,hA H2 (q2 i _ hij k1) q1 fun id o h1 h2 h3 h4=>q2 id o h3 (k2 id o h2 (look_push h4 h1))⟩
end
end Go.Proofs.YtkldgoapompinaaDoor.Ai
namespace Go.Proofs.YtkldgoapompinaaDoor.Ai
set_option linter.unusedSimpArgs false
open Go
set_option linter.unusedVariables false
set_option linter.unusedSectionVars false
set_option maxRecDepth 10000
set_option maxHeartbeats 4000000
section
variable {C:Ctx} {f:FuncId} {args0:List PV} {r:PV} {π π1:PW}
theorem PDE.genLent {b:Nat} {l:List IOper} {fin:DStage} {st:List DStage} {S:List Nat} {e:List PV} {Q:List PV→PW→Prop} {as:List Opd} {d:Option Nat} (hb0:b≤π.next) (hf:PGen C f args0 r π1) (hp:pureL args0=true)
  (hg:Gh C 0 (evsP C.G e as) π fun e' _=>e'=args0) (hfr:freePv r=true) (hh:freeHv π1.heap=true)
  (h:PDraw C b l fin st (S.filter (freeJ l d)) (putP e d (shP π.next r)) (π.with π1) Q):PDE C b l fin st S (.call f as) d e π Q:=by
 intro F I η σ env hG hs hr hy
 obtain ⟨v,σ1,η1,h1,⟨h2,h4⟩,h5,h6,h7,h8⟩:=hf.useLent hp hg hfr hh hG hs (evsP_sim (hG.any η) hr as)
 obtain ⟨M,env',σ',I',η',e',π',k1,k2,k3,k4,k5⟩:=h F I η1 σ1.bump (put env d v) hG h7.bump (rdL_putP (hr.mono (Img.le_refl _) h5) _ h8) ((hy.congr (σ':=σ1.bump) (Nat.le_succ_of_le (Nat.le_of_lt h2)) fun k hk=>h4 k hk).put d v)
 have hb:=LB.one ⟨f,evs env as,σ,v,σ1.bump,false⟩ (b:=σ1.bump.next) (Nat.lt_succ_of_lt h2)
 exact ⟨Lcat σ1.bump.next (Lone ⟨f,evs env as,σ,v,σ1.bump,false⟩) M,v,σ1.bump,env',σ',I',η',e',π',(LOK.one h1.bump).cat k1 _,hb.cat k2 (Nat.le_succ_of_le (Nat.le_of_lt h2)) k4.next,
  runE_mono (KL_left hb) (KL_one ⟨f,evs env as,σ,v,σ1.bump,false⟩ rfl),runDraw_mono (KL_right k2) k3,Fol.trans (σ1:=σ1.bump) ⟨Nat.le_succ_of_le (Nat.le_of_lt h2),fun i hi=>⟨h4 i (hs.fn i hi),rfl⟩,Img.le_refl _,fun j hj=>h6 j (by omega)⟩ k4,k5⟩
end
section
variable {C:Ctx}
theorem rows_st {b d1 d2:Nat} {l:List IOper} {e:List PV} {nx:Nat} {H:List (Nat × PObj)} {Q:List PV→PW→Prop} (p1 p2:Nat × Nat) (hb:b≤nx) (h1:getP (setP e d2 (.ptr nx 0)) d2 = .ptr nx 0) (h2:getP (setP e d2 (.ptr nx 0)) d1 = .agg [slq p1,slq p2])
  (k:∀ H',(∀ id o,id < nx→look H id=some o→look H' id=some o)→look H' nx=some (.cells [slq p1,slq p2] 25 2 true false [])→wpOps C b l (setP e d2 (.ptr nx 0)) ⟨nx + 1,H'⟩ Q) :
  wpOps C b (⟨some d2,.n (.new 25 2 [.slice none 0 0,.slice none 0 0]),none⟩::⟨none,.e (.st 2 (.t d2) (.t d1)),none⟩::l) e ⟨nx,H⟩ Q:=by
 have b0:Nat.ble b nx=true:=Nat.ble_eq_true_of_le hb
 have b1:Nat.ble b (nx + 1)=true:=Nat.ble_eq_true_of_le (by omega)
 have kk:=k ((nx,.cells [slq p1,slq p2] 25 2 true false [])::H) (fun id o hi ho=>look_push ho hi) (by simp only [look,if_true])
 generalize hs1:slq p1=v1 at h2 kk
 generalize hs2:slq p2=v2 at h2 kk
 have hv1:=slq_or p1
 have hv2:=slq_or p2
 rw [hs1] at hv1
 rw [hs2] at hv2
 rcases hv1 with rfl | rfl <;> rcases hv2 with rfl | rfl
 all_goals
  simp only [SW,↓reduceIte,Nat.reduceAdd,b0,b1,h1,h2]
  exact kk
end
theorem QF.keep {H H':List (Nat × PObj)} {n0 nx nx':Nat} {p:Nat × Nat} {l:List Int} (h:QF H n0 nx p l) (hn:nx≤nx') (hk:∀ id o,id < nx→look H id=some o→look H' id=some o):QF H' n0 nx' p l:=
 ⟨h.1,h.2.1,fun h0=>by
  obtain ⟨g1,g2,ex,g3,g4⟩:=h.2.2 h0
  exact ⟨g1,Nat.lt_of_lt_of_le g2 hn,ex,g3,hk _ _ g2 g4⟩⟩
theorem QF.qw {H:List (Nat × PObj)} {n0 nx bk:Nat} {p:Nat × Nat} {l:List Int} {ps:List (Nat × Nat)} (h:QF H n0 nx p l) (hb:bk < n0) (hl:l.length < 2 ^ 36) (hps:∀ q∈ps,q.1 ≠ 0→q.1 < n0):QW H nx bk p ps (L16 l):=
 ⟨fun h0=>by rw [h.1,h.2.1 h0];rfl,fun h0=>by
  obtain ⟨g1,g2,ex,g3,g4⟩:=h.2.2 h0
  refine ⟨by omega,g2,by rw [h.1];exact hl,by rw [L16_len,h.1],⟨ex,fun h2=>g3 fun e=>h2 (by rw [h.1,e];rfl),g4⟩,fun q hq hq0 e=>?_⟩
  have:=hps q hq hq0;omega⟩
def lvP (p:Nat × Nat) (l:List Int):PV:=slv p.1 (L16 l) l.length
theorem lvP_wk {p:Nat × Nat} {l:List Int} (h:p.1=0→l=[]):Wk (lvP p l) (szU l):=by
 have:=slv_wk (i:=p.1) (l:=l) (e:=[]) h
 rw [List.append_nil] at this
 exact this
theorem lvP_pure (p:Nat × Nat) (l:List Int):pureP (lvP p l)=true:=slv_pure _ _ _
theorem QF.it {H:List (Nat × PObj)} {n0 nx:Nat} {p:Nat × Nat} {l:List Int} (h:QF H n0 nx p l):∃ ex,ItOK H (p.1,L16 l,ex):=by
 by_cases h0:p.1=0
 ·exact ⟨false,fun h=>absurd h0 h⟩
 ·obtain ⟨_,_,ex,_,g⟩:=h.2.2 h0
  exact ⟨ex,fun _=>⟨pureL_L16 _,g⟩⟩
def Far (p q:Nat × Nat):Prop:=p.1 ≠ 0→q.1 ≠ 0→p.1 ≠ q.1
theorem Far.symm {p q:Nat × Nat} (h:Far p q):Far q p:=fun a b e=>h b a e.symm
theorem QF.far {H H':List (Nat × PObj)} {n0 nx n1 nx':Nat} {p q:Nat × Nat} {l m:List Int} (h:QF H n0 nx p l) (g:QF H' n1 nx' q m) (hn:nx≤n1):Far p q:=fun a b=>by
 have h1:=(h.2.2 a).2.1
 have h2:=(g.2.2 b).1
 omega
section
variable {C:Ctx}
theorem gh_word {H:List (Nat × PObj)} {nx n0 n1 n2 n3 m:Nat} {p1 p2 x1 x2:Nat × Nat} {a b c d:List Int} (h1:QF H n0 nx p1 a) (h2:QF H n1 nx p2 b) (h3:QF H n2 nx x1 c) (h4:QF H n3 nx x2 d)
  (f12:Far p1 p2) (f13:Far p1 x1) (f14:Far p1 x2) (f23:Far p2 x1) (f24:Far p2 x2) (f34:Far x1 x2) :
  Gh C 0 [.agg [slq p1,slq p2],.agg [slq x1,slq x2]] ⟨m,H⟩ fun e' _=>e'=[.agg [lvP p1 a,lvP p2 b],.agg [lvP x1 c,lvP x2 d]]:=by
 obtain ⟨e1,i1⟩:=h1.it
 obtain ⟨e2,i2⟩:=h2.it
 obtain ⟨e3,i3⟩:=h3.it
 obtain ⟨e4,i4⟩:=h4.it
 have l1:=h1.1
 have l2:=h2.1
 have l3:=h3.1
 have l4:=h4.1
 obtain ⟨p1,n1⟩:=p1
 obtain ⟨p2,n2⟩:=p2
 obtain ⟨x1,n3⟩:=x1
 obtain ⟨x2,n4⟩:=x2
 simp only at l1 l2 l3 l4
 subst l1 l2 l3 l4
 refine (Gh.lendQ [(p1,L16 a,e1),(p2,L16 b,e2),(x1,L16 c,e3),(x2,L16 d,e4)] _ _ ?_ ?_).mono fun e' _ h=>h.trans ?_
 ·refine List.pairwise_cons.2 ⟨fun x hx=>?_,List.pairwise_cons.2 ⟨fun x hx=>?_,List.pairwise_cons.2 ⟨fun x hx=>?_,List.pairwise_cons.2 ⟨fun x hx=>by simp at hx,.nil⟩⟩⟩⟩
  ·simp only [List.mem_cons,List.not_mem_nil,or_false] at hx
   rcases hx with rfl | rfl | rfl
   ·exact f12
   ·exact f13
   ·exact f14
  ·simp only [List.mem_cons,List.not_mem_nil,or_false] at hx
   rcases hx with rfl | rfl
   ·exact f23
   ·exact f24
  ·simp only [List.mem_cons,List.not_mem_nil,or_false] at hx
   obtain rfl:=hx
   exact f34
 ·intro x hx
  simp only [List.mem_cons,List.not_mem_nil,or_false] at hx
  rcases hx with rfl | rfl | rfl | rfl
  ·exact i1
  ·exact i2
  ·exact i3
  ·exact i4
 ·simp only [lendQ,frQ_cons,frQ_nil,frQP_agg,frQP_slq,frQP_slv,frQP_ne (fun h e=>f12 (by show p1 ≠ 0;rw [← e];exact h) h e.symm:p2 ≠ 0→p2 ≠ p1),frQP_ne (fun h e=>f13 (by show p1 ≠ 0;rw [← e];exact h) h e.symm:x1 ≠ 0→x1 ≠ p1),frQP_ne (fun h e=>f14 (by show p1 ≠ 0;rw [← e];exact h) h e.symm:x2 ≠ 0→x2 ≠ p1),
   frQP_ne (fun h e=>f23 (by show p2 ≠ 0;rw [← e];exact h) h e.symm:x1 ≠ 0→x1 ≠ p2),frQP_ne (fun h e=>f24 (by show p2 ≠ 0;rw [← e];exact h) h e.symm:x2 ≠ 0→x2 ≠ p2),frQP_ne (fun h e=>f34 (by show x1 ≠ 0;rw [← e];exact h) h e.symm:x2 ≠ 0→x2 ≠ x1),lvP]
theorem gh_list {H:List (Nat × PObj)} {nx n0 n1 m:Nat} {p1 p2:Nat × Nat} {a b:List Int} (h1:QF H n0 nx p1 a) (h2:QF H n1 nx p2 b) (f12:Far p1 p2):Gh C 0 [slq p1,slq p2] ⟨m,H⟩ fun e' _=>e'=[lvP p1 a,lvP p2 b]:=by
 obtain ⟨e1,i1⟩:=h1.it
 obtain ⟨e2,i2⟩:=h2.it
 have l1:=h1.1
 have l2:=h2.1
 obtain ⟨p1,n1⟩:=p1
 obtain ⟨p2,n2⟩:=p2
 simp only at l1 l2
 subst l1 l2
 refine (Gh.lendQ [(p1,L16 a,e1),(p2,L16 b,e2)] _ _ ?_ ?_).mono fun e' _ h=>h.trans ?_
 ·refine List.pairwise_cons.2 ⟨fun x hx=>?_,List.pairwise_cons.2 ⟨fun x hx=>by simp at hx,.nil⟩⟩
  obtain rfl:=List.mem_singleton.1 hx
  exact f12
 ·intro x hx
  simp only [List.mem_cons,List.not_mem_nil,or_false] at hx
  rcases hx with rfl | rfl
  ·exact i1
  ·exact i2
 ·simp only [lendQ,frQ_cons,frQ_nil,frQP_slq,frQP_slv,frQP_ne (fun h e=>f12 (by show p1 ≠ 0;rw [← e];exact h) h e.symm:p2 ≠ 0→p2 ≠ p1),lvP]
def ownP (i j a b:Nat):PV:=.agg [.loc i 0 a (a + 2),.loc j 0 b (b + 2)]
def ownL (s e1 l e2:List Int):PV:=.agg [.sl (L16 (s++e1)) s.length,.sl (L16 (l++e2)) l.length]
theorem ownL_wk (s e1 l e2:List Int):Wk (ownL s e1 l e2) (.agg [.sl (L16 s) s.length,.sl (L16 l) l.length]):=.agg (.cons (sl_wk s e1) (.cons (sl_wk l e2) .nil))
theorem ownL_wkz (s e1 l e2:List Int):Wk (ownL s e1 l e2) (wdP s l):=.agg (.cons (fun I η v hv=>Wk.sl_sz I η v (sl_wk s e1 I η v hv)) (.cons (fun I η v hv=>Wk.sl_sz I η v (sl_wk l e2 I η v hv)) .nil))
theorem gh_own {H:List (Nat × PObj)} {nx m i j:Nat} {s e1 l e2:List Int} (h1:Lnt H nx i s e1) (h2:Lnt H nx j l e2) (hij:i ≠ j) (rest:List PV) (hr:∀ k cs,frQ k cs rest=rest) :
  Gh C 0 (ownP i j s.length l.length::rest) ⟨m,H⟩ fun e' _=>e'=ownL s e1 l e2::rest:=by
 refine (Gh.lendQ [(i,L16 (s++e1),true),(j,L16 (l++e2),true)] _ _ ?_ ?_).mono fun e' _ h=>h.trans ?_
 ·refine List.pairwise_cons.2 ⟨fun x hx _ _=>?_,List.pairwise_cons.2 ⟨fun x hx=>by simp at hx,.nil⟩⟩
  obtain rfl:=List.mem_singleton.1 hx
  exact hij
 ·intro x hx
  simp only [List.mem_cons,List.not_mem_nil,or_false] at hx
  rcases hx with rfl | rfl
  ·exact h1.it
  ·exact h2.it
 ·simp only [lendQ,ownP,ownL,frQ_cons,frQ_nil,frQP_agg,frQP_loc h1.nz _ _ _ (Nat.le_add_right _ _),frQP_loc h2.nz _ _ _ (Nat.le_add_right _ _),frQP_locne (show j ≠ i from fun e=>hij e.symm),frQP_sl,hr]
theorem gh_join {H:List (Nat × PObj)} {nx m i j k:Nat} {s e1 l e2 u e3:List Int} (h1:Lnt H nx i s e1) (h2:Lnt H nx j l e2) (h3:Lnt H nx k u e3) (hij:i ≠ j) (hik:i ≠ k) (hjk:j ≠ k) :
  Gh C 0 [.loc k 0 u.length (u.length + 2),ownP i j s.length l.length] ⟨m,H⟩ fun e' _=>e'=[.sl (L16 (u++e3)) u.length,ownL s e1 l e2]:=by
 refine (Gh.lendQ [(k,L16 (u++e3),true),(i,L16 (s++e1),true),(j,L16 (l++e2),true)] _ _ ?_ ?_).mono fun e' _ h=>h.trans ?_
 ·refine List.pairwise_cons.2 ⟨fun x hx _ _=>?_,List.pairwise_cons.2 ⟨fun x hx _ _=>?_,List.pairwise_cons.2 ⟨fun x hx=>by simp at hx,.nil⟩⟩⟩
  ·simp only [List.mem_cons,List.not_mem_nil,or_false] at hx
   rcases hx with rfl | rfl
   ·exact fun e=>hik e.symm
   ·exact fun e=>hjk e.symm
  ·obtain rfl:=List.mem_singleton.1 hx
   exact hij
 ·intro x hx
  simp only [List.mem_cons,List.not_mem_nil,or_false] at hx
  rcases hx with rfl | rfl | rfl
  ·exact h3.it
  ·exact h1.it
  ·exact h2.it
 ·simp only [lendQ,ownP,ownL,frQ_cons,frQ_nil,frQP_agg,frQP_loc h1.nz _ _ _ (Nat.le_add_right _ _),frQP_loc h2.nz _ _ _ (Nat.le_add_right _ _),frQP_loc h3.nz _ _ _ (Nat.le_add_right _ _),frQP_locne (show j ≠ i from fun e=>hij e.symm),frQP_locne hik,frQP_locne hjk,frQP_sl]
end
theorem ownL_pure (s e1 l e2:List Int):pureP (ownL s e1 l e2)=true:=rfl
theorem nStem_len (s l:List Int):(nStem s l).length≤s.length:=by
 unfold nStem
 split
 ·simp
 ·rw [List.length_take];omega
theorem rollF_lt (stem loop:List Int) (p:Nat) (hp:0 < p):∀ s t,t < p→(rollF stem loop p s t).2 < p
 | 0,t,h=>h
 | s + 1,t,h=>by
  unfold rollF
  split
  ·exact rollF_lt stem loop p hp s _ (Nat.mod_lt _ hp)
  ·exact h
theorem nLoop_len (s l:List Int):(nLoop s l).length≤l.length:=by
 unfold nLoop
 split
 ·simp
 ·rename_i h0
  have hl:0 < l.length:=List.length_pos_iff.2 h0
  have p0:=per_pos l hl
  have p1:=per_le l
  have:=rollF_lt s l (per l) p0 s.length 0 p0
  simp only [List.length_append,List.length_drop,List.length_take];omega
theorem sufS_len (s l:List Int) (n:Nat):(sufS s l n).length≤s.length:=by
 unfold sufS
 split
 ·simp
 ·split
  ·have:=nStem_len (s.drop n) l
   rw [List.length_drop] at this;omega
  ·simp
theorem sufL_len (s l:List Int) (n:Nat):(sufL s l n).length≤l.length:=by
 unfold sufL
 split
 ·simp
 ·rename_i h0
  split
  ·exact nLoop_len _ _
  ·refine Nat.le_trans (nLoop_len _ _) ?_
   have hl:0 < l.length:=List.length_pos_iff.2 h0
   have:=Nat.mod_lt (n - s.length) hl
   simp only [List.length_append,List.length_drop,List.length_take];omega
theorem pfxV_len (s l:List Int) (n:Int):(pfxV s l n).length≤65536:=by
 unfold pfxV
 split
 ·simp
 ·rw [List.length_map,List.length_range];omega
end Go.Proofs.YtkldgoapompinaaDoor.Ai
namespace Go.Proofs.YtkldgoapompinaaDoor.Ai
set_option linter.unusedSimpArgs false
open Go
set_option linter.unusedVariables false
set_option linter.unusedSectionVars false
set_option maxRecDepth 10000
set_option maxHeartbeats 4000000
structure TB (H:List (Nat × PObj)) (nx:Nat) (stem e1 loop e2 u e3:List Int) (x y:List PV):Prop where
 n:7≤nx
 W:look H 0=some (.cells x 25 2 true false [])
 O:look H 4=some (.cells y 25 2 true false [])
 S:Lnt H nx 1 stem e1
 L:Lnt H nx 2 loop e2
 U:Lnt H nx 5 u e3
theorem TB.keep {H H':List (Nat × PObj)} {nx nx':Nat} {stem e1 loop e2 u e3:List Int} {x y:List PV} (h:TB H nx stem e1 loop e2 u e3 x y) (hn:nx≤nx') (hk:∀ id o,id < nx→look H id=some o→look H' id=some o):TB H' nx' stem e1 loop e2 u e3 x y:=
 ⟨Nat.le_trans h.n hn,hk _ _ (by have:=h.n;omega) h.W,hk _ _ (by have:=h.n;omega) h.O,h.S.keep hn hk,h.L.keep hn hk,h.U.keep hn hk⟩
theorem PGen.lentW {C:Ctx} {f:FuncId} {args args0:List PV} {r:PV} {π1:PW} {a b:List Int} {nx:Nat} {H:List (Nat × PObj)} (h:PGen C f args0 r π1) (hw:WG r π1 a b) (hp:pureL args0=true) (hg:Gh C 0 args ⟨nx,H⟩ fun e' _=>e'=args0) (h1:1≤nx) {A:PV→PW→Prop}
  (hA:∀ nx' H' p1 p2,nx≤nx'→(∀ id o,id < nx→look H id=some o→look H' id=some o)→QF H' nx nx' p1 a→QF H' nx nx' p2 b→(p1.1 ≠ 0→p2.1 ≠ 0→p1.1 ≠ p2.1)→A (.agg [slq p1,slq p2]) ⟨nx',H'⟩):PTo C f args ⟨nx,H⟩ A:=h.lentT hp hg hw.free.1 hw.free.2 (hw.to h1 hA)
theorem PGen.lentS {C:Ctx} {f:FuncId} {args args0:List PV} {r:PV} {π1:PW} {a:List Int} {nx:Nat} {H:List (Nat × PObj)} (h:PGen C f args0 r π1) (hw:LG r π1 a) (hp:pureL args0=true) (hg:Gh C 0 args ⟨nx,H⟩ fun e' _=>e'=args0) (h1:1≤nx) {A:PV→PW→Prop}
  (hA:∀ nx' H' p,nx≤nx'→(∀ id o,id < nx→look H id=some o→look H' id=some o)→QF H' nx nx' p a→A (slq p) ⟨nx',H'⟩):PTo C f args ⟨nx,H⟩ A:=h.lentT hp hg hw.free.1 hw.free.2 (hw.to h1 hA)
theorem PDE.genW {C:Ctx} {f:FuncId} {r:PV} {π1:PW} {a b:List Int} {nx:Nat} {H:List (Nat × PObj)} {l:List IOper} {fin:DStage} {st:List DStage} {S:List Nat} {e:List PV} {Q:List PV→PW→Prop} {as:List Opd} {d:Option Nat} (hf:PGen C f (evsP C.G e as) r π1) (hw:WG r π1 a b) (hp:pureL (evsP C.G e as)=true) (h1:1≤nx)
  (h:∀ nx' H' p1 p2,nx≤nx'→(∀ id o,id < nx→look H id=some o→look H' id=some o)→QF H' nx nx' p1 a→QF H' nx nx' p2 b→(p1.1 ≠ 0→p2.1 ≠ 0→p1.1 ≠ p2.1)→PDraw C 0 l fin st (S.filter (freeJ l d)) (putP e d (.agg [slq p1,slq p2])) ⟨nx',H'⟩ Q):PDE C 0 l fin st S (.call f as) d e ⟨nx,H⟩ Q:=
 PDE.gen (Nat.zero_le _) hf hp (hw.to (A:=fun r π'=>PDraw C 0 l fin st (S.filter (freeJ l d)) (putP e d r) π' Q) h1 h)
theorem PDE.genS {C:Ctx} {f:FuncId} {r:PV} {π1:PW} {a:List Int} {nx:Nat} {H:List (Nat × PObj)} {l:List IOper} {fin:DStage} {st:List DStage} {S:List Nat} {e:List PV} {Q:List PV→PW→Prop} {as:List Opd} {d:Option Nat} (hf:PGen C f (evsP C.G e as) r π1) (hw:LG r π1 a) (hp:pureL (evsP C.G e as)=true) (h1:1≤nx)
  (h:∀ nx' H' p,nx≤nx'→(∀ id o,id < nx→look H id=some o→look H' id=some o)→QF H' nx nx' p a→PDraw C 0 l fin st (S.filter (freeJ l d)) (putP e d (slq p)) ⟨nx',H'⟩ Q):PDE C 0 l fin st S (.call f as) d e ⟨nx,H⟩ Q:=
 PDE.gen (Nat.zero_le _) hf hp (hw.to (A:=fun r π'=>PDraw C 0 l fin st (S.filter (freeJ l d)) (putP e d r) π' Q) h1 h)
theorem ltN_t:∀ {a b:Nat},a < b→ltN a b=true
 | _,0,h=>by omega
 | 0,_ + 1,_=>rfl
 | a + 1,b + 1,h=>by rw [ltN];exact ltN_t (by omega)
theorem chk_one {G:PG} {l:List IOper} {S:List Nat} {e:List PV} {π:PW} {i:Nat} {o:IOper} {d:Nat} (ho:nthO l i=some o) (hd:o.dst=some d) (hS:S.contains i=true) (hf:flatP (getP e d)=true):chkP G l S e π [i]=true:=by
 simp only [chkP,ho,hd,hS,hf,Bool.and_self,Bool.true_or,Bool.or_true]
theorem flat_slq2 (p q:Nat × Nat):flatP (.agg [slq p,slq q])=true:=by
 unfold slq
 split <;> split <;> rfl
def KeepC (nx:Nat) (H H':List (Nat × PObj)):Prop:=∀ id cs ty esz ex ret al,id < nx→ty ≠ 44→ty ≠ 23→look H id=some (.cells cs ty esz ex ret al)→look H' id=some (.cells cs ty esz ex ret al)
theorem BookQ.keepC {H H':List (Nat × PObj)} {nx bk j:Nat} {ps:List (Nat × Nat)} (h:BookQ H nx bk j ps) (hk:∀ id o,id < nx→id ≠ bk→(ps ≠ []→id ≠ j)→look H id=some o→look H' id=some o):KeepC nx H H':=by
 intro id cs ty esz ex ret al hi h1 h2 ho
 refine hk id _ hi (fun e=>?_) (fun hp e=>?_) ho
 ·obtain ⟨_,x,hb⟩:=h.hbk
  rw [← e,ho] at hb
  simp only [Option.some.injEq,PObj.cells.injEq] at hb
  exact h1 hb.2.1
 ·obtain ⟨_,_,x,hb⟩:=h.arr hp
  rw [← e,ho] at hb
  simp only [Option.some.injEq,PObj.cells.injEq] at hb
  exact h2 hb.2.1
theorem Lnt.keepC {H H':List (Nat × PObj)} {nx nx' i:Nat} {l e:List Int} (h:Lnt H nx i l e) (hn:nx≤nx') (hk:KeepC nx H H'):Lnt H' nx' i l e:=⟨Nat.lt_of_lt_of_le h.lt hn,h.nz,hk _ _ _ _ _ _ _ h.lt (by decide) (by decide) h.at_⟩
theorem TB.keepC {H H':List (Nat × PObj)} {nx nx':Nat} {stem e1 loop e2 u e3:List Int} {x y:List PV} (h:TB H nx stem e1 loop e2 u e3 x y) (hn:nx≤nx') (hk:KeepC nx H H'):TB H' nx' stem e1 loop e2 u e3 x y:=
 ⟨Nat.le_trans h.n hn,hk _ _ _ _ _ _ _ (by have:=h.n;omega) (by decide) (by decide) h.W,hk _ _ _ _ _ _ _ (by have:=h.n;omega) (by decide) (by decide) h.O,h.S.keepC hn hk,h.L.keepC hn hk,h.U.keepC hn hk⟩
theorem QF.keepC {H H':List (Nat × PObj)} {n0 nx nx':Nat} {p:Nat × Nat} {l:List Int} (h:QF H n0 nx p l) (hn:nx≤nx') (hk:KeepC nx H H'):QF H' n0 nx' p l:=
 ⟨h.1,h.2.1,fun h0=>by
  obtain ⟨g1,g2,ex,g3,g4⟩:=h.2.2 h0
  exact ⟨g1,Nat.lt_of_lt_of_le g2 hn,ex,g3,hk _ _ _ _ _ _ _ g2 (by decide) (by decide) g4⟩⟩
theorem QF.nm {H:List (Nat × PObj)} {n0 nx:Nat} {p:Nat × Nat} {l:List Int} (h:QF H n0 nx p l):nmP nx (slq p)=true:=nm_slq fun h0=>(h.2.2 h0).2.1
theorem nm_loc (b j o n c:Nat):nmP b (.loc j o n c)=Nat.blt j b:=by simp only [nmP]
theorem blt_t {a b:Nat} (h:a < b):Nat.blt a b=true:=by rw [Nat.blt_eq];exact h
theorem nm_lit (b:Nat) (u:Value):nmP b (.lit u)=true:=by simp only [nmP]
theorem nm_sz (b:Nat) (cs:List PV) (n:Nat):nmP b (.sz cs n)=true:=by simp only [nmP]
theorem mem_app3 {α:Type} {x:α} {l:List α} {a b:α} (h:x∈l++[a]++[b]):x∈l∨x=a∨x=b:=by
 rcases List.mem_append.1 h with h | h
 ·rcases List.mem_append.1 h with h | h
  ·exact .inl h
  ·exact .inr (.inl (List.mem_singleton.1 h))
 ·exact .inr (.inr (List.mem_singleton.1 h))
theorem BookQ.keep6 {H H':List (Nat × PObj)} {nx nx' bk j:Nat} {ps:List (Nat × Nat)} (h:BookQ H nx bk j ps) (hn:nx≤nx') (hk:∀ id o,bk≤id→id < nx→look H id=some o→look H' id=some o):BookQ H' nx' bk j ps:=
 ⟨⟨Nat.lt_of_lt_of_le h.hbk.1 hn,h.hbk.2.imp fun ex e=>hk _ _ (Nat.le_refl _) h.hbk.1 e⟩,fun h0=>by
  obtain ⟨h1,h2,al,h3⟩:=h.arr h0
  exact ⟨h1,Nat.lt_of_lt_of_le h2 hn,al,hk _ _ (Nat.le_of_lt h1) h2 h3⟩,fun i p hp h0=>by
  obtain ⟨h1,h2,h2',cs,ex,h3,hx,h4⟩:=h.lst i p hp h0
  exact ⟨h1,Nat.lt_of_lt_of_le h2 hn,h2',cs,ex,h3,hx,hk _ _ (Nat.le_of_lt h1) h2 h4⟩,h.dis,h.z0⟩
theorem rep_split (a:Nat):L16 (List.replicate (a + 2) 60003)=L16 (List.replicate a 60003++List.replicate 2 60003):=by rw [List.replicate_append_replicate]
theorem rep_w16 (a:Nat):W16 (List.replicate a 60003):=fun x hx=>by
 obtain rfl:=(List.mem_replicate.1 hx).2
 decide
theorem keep_trans {H H1 H2:List (Nat × PObj)} {nx nx1:Nat} (hn:nx≤nx1) (h:∀ id o,id < nx→look H id=some o→look H1 id=some o) (h2:∀ id o,id < nx1→look H1 id=some o→look H2 id=some o):∀ id o,id < nx→look H id=some o→look H2 id=some o:=
 fun id o hi ho=>h2 id o (Nat.lt_of_lt_of_le hi hn) (h id o hi ho)
def sndQ:Nat→ICode→ICode
 | n + 1,.seq _ b=>sndQ n b
 | _,c=>c
def tail4:ICode:=sndQ 11 Tryd.c4.body
theorem PDE.genLW {C:Ctx} {f:FuncId} {args0:List PV} {r:PV} {π1:PW} {a b:List Int} {nx:Nat} {H:List (Nat × PObj)} {l:List IOper} {fin:DStage} {st:List DStage} {S:List Nat} {e:List PV} {Q:List PV→PW→Prop} {as:List Opd} {d:Option Nat} (hf:PGen C f args0 r π1) (hw:WG r π1 a b) (hp:pureL args0=true) (hg:Gh C 0 (evsP C.G e as) ⟨nx,H⟩ fun e' _=>e'=args0) (h1:1≤nx)
  (h:∀ nx' H' p1 p2,nx≤nx'→(∀ id o,id < nx→look H id=some o→look H' id=some o)→QF H' nx nx' p1 a→QF H' nx nx' p2 b→(p1.1 ≠ 0→p2.1 ≠ 0→p1.1 ≠ p2.1)→PDraw C 0 l fin st (S.filter (freeJ l d)) (putP e d (.agg [slq p1,slq p2])) ⟨nx',H'⟩ Q):PDE C 0 l fin st S (.call f as) d e ⟨nx,H⟩ Q:=
 PDE.genLent (Nat.zero_le _) hf hp hg hw.free.1 hw.free.2 (hw.to (A:=fun r π'=>PDraw C 0 l fin st (S.filter (freeJ l d)) (putP e d r) π' Q) h1 h)
theorem PDE.genLS {C:Ctx} {f:FuncId} {args0:List PV} {r:PV} {π1:PW} {a:List Int} {nx:Nat} {H:List (Nat × PObj)} {l:List IOper} {fin:DStage} {st:List DStage} {S:List Nat} {e:List PV} {Q:List PV→PW→Prop} {as:List Opd} {d:Option Nat} (hf:PGen C f args0 r π1) (hw:LG r π1 a) (hp:pureL args0=true) (hg:Gh C 0 (evsP C.G e as) ⟨nx,H⟩ fun e' _=>e'=args0) (h1:1≤nx)
  (h:∀ nx' H' p,nx≤nx'→(∀ id o,id < nx→look H id=some o→look H' id=some o)→QF H' nx nx' p a→PDraw C 0 l fin st (S.filter (freeJ l d)) (putP e d (slq p)) ⟨nx',H'⟩ Q):PDE C 0 l fin st S (.call f as) d e ⟨nx,H⟩ Q:=
 PDE.genLent (Nat.zero_le _) hf hp hg hw.free.1 hw.free.2 (hw.to (A:=fun r π'=>PDraw C 0 l fin st (S.filter (freeJ l d)) (putP e d r) π' Q) h1 h)
section
variable {C:Ctx} (hm:C.P.follows .mixedOrders=true) (hC:TabOK C.P C.ng C.ts Tryd.tab)
include hm hC
theorem tells_tail {itS:Nat→ByteArray} (hI:∀ i:Nat,i < 2 ^ 40→PFun C 58 [.lit (.int .i64 (i:Nat))] (.lit (.string (itS i)))) (hD:∀ i,digs itS i=Lib.decDigits i)
  (stem loop u eS eL eU:List Int) (n:Int) (r3 : -9223372036854775808≤n) (r3':n < 9223372036854775808) (b1:stem.length < 2 ^ 24) (b2:loop.length < 2 ^ 24) (b3:u.length < 2 ^ 24) (w1:W16 stem) (w2:W16 loop)
  (n0 j:Nat) (H0:List (Nat × PObj)) (ps:List (Nat × Nat)) (x:List PV) (hT0:TB H0 n0 stem eS loop eL u eU x [.loc 1 0 stem.length (stem.length + 2),.loc 2 0 loop.length (loop.length + 2)]) (hB0:BookQ H0 n0 6 j ps) (hps:ps ≠ []) (hpl:ps.length < 2 ^ 30) :
  PRun C 0 tail4 (.junk::.junk::.junk::.lit (.int .i64 n)::.junk::.junk::.junk::.junk::.junk::.junk::.junk::.lit (.bool true)::.junk::.ptr 4 0::.loc 5 0 u.length (u.length + 2)::.ptr 6 0::.junk::.junk::.junk::.junk::.junk::.junk::.junk::.junk::.junk::.lit (.bool true)::.junk::.junk::.junk::.junk::.junk::.junk::.junk::.junk::.junk::.junk::.junk::.junk::.junk::.junk::.junk::.junk::.junk::.junk::.junk::.junk::.junk::.junk::.junk::.junk::.junk::.junk::.junk::.junk::.junk::.junk::.junk::.junk::.junk::.junk::.junk::.junk::.junk::.junk::.junk::.junk::.junk::.junk::.junk::.junk::.junk::.junk::.junk::.junk::.junk::.junk::.junk::.junk::.junk::.junk::.junk::.junk::.junk::.junk::.junk::.junk::.junk::.junk::.junk::.junk::.junk::.junk::.junk::.junk::.junk::.junk::.junk::.junk::.junk::.junk::.junk::.junk::.junk::.junk::.junk::.junk::.junk::.junk::.junk::.junk::.junk::.junk::.junk::.junk::.junk::.junk::.junk::.junk::.junk::.junk::.junk::.junk::.junk::.junk::.junk::.junk::.junk::.junk::.junk::.junk::.junk::.junk::.junk::.junk::.junk::.junk::.junk::.junk::.junk::.junk::.junk::.junk::.junk::.junk::.junk::.junk::.junk::.junk::.junk::.junk::.junk::.junk::.junk::.junk::.junk::.junk::.junk::.junk::.junk::.junk::.junk::.junk::.junk::.junk::.junk::.junk::.junk::.junk::.junk::.junk::.junk::.junk::.junk::.junk::.junk::.junk::.junk::.junk::.junk::.junk::.junk::.junk::.junk::.junk::.junk::.junk::.junk::.junk::.junk::.junk::.junk::.junk::.junk::.junk::.junk::.junk::.junk::.junk::.junk::.junk::.junk::.junk::.junk::.junk::.junk::[]) ⟨n0,H0⟩ fun x t π'=>(x = .normal∨x = .ret)∧Gh C 0 t π' fun t π'=>∃ rs,resPs t π' [IRes.tmp 10]=some rs∧Wk (tupP rs) (.lit (.bool true)):=by
 have hsame:∀ a b:List Int,a.length < 2 ^ 62→b.length < 2 ^ 62→PFun C 20 [wdP a b,wdP a b] (.lit (.bool true)):=fun a b ha hb=>by
  have:=sameWi hm hC a b a b ha hb ha hb
  rwa [show decide (a=a∧b=b)=true from by simp] at this
 have hsameL:∀ a:List Int,a.length < 2 ^ 62→PFun C 24 [szU a,szU a] (.lit (.bool true)):=fun a ha=>by
  have:=sameLi hm hC a a ha ha
  rwa [show decide (a=a)=true from by simp] at this
 have hO0:=hT0.O
 have hn0:=hT0.n
 show PRun C 0 (.seq _ _) _ _ _
 repeat (refine PRun.wpn rfl ?_;simp only [SW,hO0])
 obtain ⟨ra,πa,wa,na⟩:=normal_w hm hC stem loop (by omega) (by omega)
 refine .refl (PTo.toE (PGen.lentW (na.wkA (.cons (ownL_wk _ eS _ eL) .nil)) wa (by simp only [pureL,ownL_pure,Bool.and_self]) (gh_own hT0.S hT0.L (by decide) [] (fun k cs=>frQ_nil k cs)) (by omega) ?_) (Nat.zero_le _))
 intro n1 H1 p1 p2 hn1 hk1 qp1 qp2 fp
 refine POps.wp (rows_st p1 p2 (Nat.zero_le _) rfl rfl ?_)
 intro H1' hk1' ho1
 have hT1:=(hT0.keep hn1 hk1).keep (Nat.le_succ n1) hk1'
 have hB1:=(hB0.keep hn1 hk1).keep (Nat.le_succ n1) hk1'
 have hO1:=hT1.O
 simp only [wo_nil,setP]
 repeat (refine PRun.wpn rfl ?_;simp only [SW,hO1])
 obtain ⟨rc,πc,wc,nc⟩:=join_w hm hC u stem loop (by omega) (by omega) (by omega)
 refine .refl (PTo.toE (PGen.lentW (nc.wkA (.cons (sl_wk u eU) (.cons (ownL_wk _ eS _ eL) .nil))) wc (by simp only [pureL,pureP,ownL_pure,Bool.and_self]) (gh_join hT1.S hT1.L hT1.U (by decide) (by decide) (by decide)) (by omega) ?_) (Nat.zero_le _))
 intro n2 H2 s1 s2 hn2 hk2 qs1 qs2 fs
 refine POps.wp (rows_st s1 s2 (Nat.zero_le _) rfl rfl ?_)
 intro H2' hk2' ho2
 have hT2:=(hT1.keep hn2 hk2).keep (Nat.le_succ n2) hk2'
 have hB2:=(hB1.keep hn2 hk2).keep (Nat.le_succ n2) hk2'
 have hO2:=hT2.O
 have kp2:=keep_trans hn2 hk2 hk2'
 simp only [wo_nil,setP]
 repeat (refine PRun.wpn rfl ?_;simp only [SW,hO2])
 obtain ⟨rd,πd,wd,nd⟩:=prefix_19sl hm hC stem loop n r3 r3' (by omega) (by omega)
 refine .refl (PTo.toE (PGen.lentS (nd.wkA (.cons (ownL_wk _ eS _ eL) (.cons (.refl _) .nil))) wd (by simp only [pureL,pureP,ownL_pure,Bool.and_self]) (gh_own hT2.S hT2.L (by decide) [.lit (.int .i64 n)] (fun k cs=>by rw [frQ_cons,frQP_lit,frQ_nil])) (by omega) ?_) (Nat.zero_le _))
 intro n4 H4 o hn4 hk4 qo_4
 have hT4:=hT2.keep hn4 hk4
 have hB4:=hB2.keep hn4 hk4
 have x1_4:=hk4 _ _ (by omega) (kp2 _ _ (by omega) ho1)
 have x2_4:=hk4 _ _ (by omega) ho2
 have qp1_4:=((qp1.keep (Nat.le_succ n1) hk1').keep (Nat.le_trans hn2 (Nat.le_succ n2)) kp2).keep hn4 hk4
 have qp2_4:=((qp2.keep (Nat.le_succ n1) hk1').keep (Nat.le_trans hn2 (Nat.le_succ n2)) kp2).keep hn4 hk4
 have qs1_4:=(qs1.keep (Nat.le_succ n2) hk2').keep hn4 hk4
 have qs2_4:=(qs2.keep (Nat.le_succ n2) hk2').keep hn4 hk4
 have o_4:=hT4.O
 refine POps.wp ?_
 simp only [SW]
 repeat (refine PRun.wpn rfl ?_;simp only [wp])
 have L4:=And.intro (ltN_t (show 4 < n4 by omega)) (And.intro (ltN_t (show n1 < n4 by omega)) (ltN_t (show n2 < n4 by omega)))
 refine PDraw.stage (Nat.zero_le _) rfl ?_
 try dsimp only
 simp only [SW,Nat.reduceAdd,x1_4,o_4,L4]
 obtain ⟨re,πe,we,ne⟩:=normalR_sz hm hC stem loop (by omega) (by omega)
 refine PDE.genLW (nx:=n4) (ne.wkA (.cons (ownL_wkz _ eS _ eL) .nil)) we (by simp only [pureL,ownL_pure,Bool.and_self]) (gh_own hT4.S hT4.L (by decide) [] (fun k cs=>frQ_nil k cs)) (by omega) ?_
 intro n5 H5 y1 y2 hn5 hk5 qy1 qy2 fy
 have hT5:=hT4.keep hn5 hk5
 have hB5:=hB4.keep hn5 hk5
 have o_5:=hT5.O
 have x2_5:=hk5 _ _ (by omega) x2_4
 have qp1_5:=qp1_4.keep hn5 hk5
 have qp2_5:=qp2_4.keep hn5 hk5
 have qs1_5:=qs1_4.keep hn5 hk5
 have qs2_5:=qs2_4.keep hn5 hk5
 have qo_5:=qo_4.keep hn5 hk5
 have L5:=And.intro (ltN_t (show 4 < n5 by omega)) (And.intro (ltN_t (show n1 < n5 by omega)) (ltN_t (show n2 < n5 by omega)))
 refine PDraw.stage (Nat.zero_le _) (chk_one (d:=168) rfl rfl rfl (flat_slq2 p1 p2)) ?_
 try dsimp only
 simp only [SW]
 refine PDE.lent ((hsame _ _ (by have:=nStem_len stem loop;omega) (by have:=nLoop_len stem loop;omega)).wkA' (.cons (.agg (.cons (lvP_wk qp1_5.2.1) (.cons (lvP_wk qp2_5.2.1) .nil))) (.cons (.agg (.cons (lvP_wk qy1.2.1) (.cons (lvP_wk qy2.2.1) .nil))) .nil))) (by simp only [pureL,pureP,lvP_pure,Bool.and_self])
  (gh_word qp1_5 qp2_5 qy1 qy2 fp (qp1_4.far qy1 (Nat.le_refl _)) (qp1_4.far qy2 (Nat.le_refl _)) (qp2_4.far qy1 (Nat.le_refl _)) (qp2_4.far qy2 (Nat.le_refl _)) fy) ?_
 refine PDraw.stage (Nat.zero_le _) rfl ?_
 try dsimp only
 simp only [SW,Nat.reduceAdd,x2_5,o_5,L5]
 obtain ⟨rg,πg,wg,ng⟩:=joinR_w hm hC u stem loop (by omega) (by omega) (by omega)
 refine PDE.genLW (nx:=n5) (ng.wkA (.cons (fun I η v hv=>Wk.sl_sz I η v (sl_wk u eU I η v hv)) (.cons (ownL_wkz _ eS _ eL) .nil))) wg (by simp only [pureL,pureP,ownL_pure,Bool.and_self]) (gh_join hT5.S hT5.L hT5.U (by decide) (by decide) (by decide)) (by omega) ?_
 intro n6 H6 a1 a2 hn6 hk6 qa1 qa2 fa
 have hT6:=hT5.keep hn6 hk6
 have hB6:=hB5.keep hn6 hk6
 have o_6:=hT6.O
 have qs1_6:=qs1_5.keep hn6 hk6
 have qs2_6:=qs2_5.keep hn6 hk6
 have qo_6:=qo_5.keep hn6 hk6
 have L6:=And.intro (ltN_t (show 4 < n6 by omega)) (And.intro (ltN_t (show n1 < n6 by omega)) (ltN_t (show n2 < n6 by omega)))
 refine PDraw.stage (Nat.zero_le _) (chk_one (d:=173) rfl rfl rfl (flat_slq2 s1 s2)) ?_
 try dsimp only
 simp only [SW]
 refine PDE.lent ((hsame _ _ (by have:=nStem_len (u++stem) loop;(try simp only [List.length_append] at this);omega) (by have:=nLoop_len (u++stem) loop;omega)).wkA' (.cons (.agg (.cons (lvP_wk qs1_6.2.1) (.cons (lvP_wk qs2_6.2.1) .nil))) (.cons (.agg (.cons (lvP_wk qa1.2.1) (.cons (lvP_wk qa2.2.1) .nil))) .nil))) (by simp only [pureL,pureP,lvP_pure,Bool.and_self])
  (gh_word qs1_6 qs2_6 qa1 qa2 fs (qs1_5.far qa1 (Nat.le_refl _)) (qs1_5.far qa2 (Nat.le_refl _)) (qs2_5.far qa1 (Nat.le_refl _)) (qs2_5.far qa2 (Nat.le_refl _)) fa) ?_
 refine PDraw.stage (Nat.zero_le _) rfl ?_
 try dsimp only
 simp only [SW,Nat.reduceAdd,o_6,L6]
 obtain ⟨rh,πh,wh,nh⟩:=prefix_25sz hm hC stem loop n r3 r3' (by omega) (by omega)
 refine PDE.genLS (nx:=n6) (nh.wkA (.cons (ownL_wkz _ eS _ eL) (.cons (.refl _) .nil))) wh (by simp only [pureL,pureP,ownL_pure,Bool.and_self]) (gh_own hT6.S hT6.L (by decide) [.lit (.int .i64 n)] (fun k cs=>by rw [frQ_cons,frQP_lit,frQ_nil])) (by omega) ?_
 intro n7 H7 c hn7 hk7 qc
 have hT7:=hT6.keep hn7 hk7
 have hB7:=hB6.keep hn7 hk7
 have o_7:=hT7.O
 have qo_7:=qo_6.keep hn7 hk7
 have L7:=ltN_t (show 4 < n7 by omega)
 refine PDraw.stage (Nat.zero_le _) rfl ?_
 try dsimp only
 simp only [SW]
 refine PDE.lent ((hsameL _ (by have:=pfxV_len stem loop n;omega)).wkA' (.cons (lvP_wk qo_7.2.1) (.cons (lvP_wk qc.2.1) .nil))) (by simp only [pureL,lvP_pure,Bool.and_self])
  (gh_list qo_7 qc (qo_6.far qc (Nat.le_refl _))) ?_
 have hsh1:=(show_34 hm hC hI hD stem loop (by omega) (by omega) w1 w2).wkA' (.cons (ownL_wkz _ eS _ eL) .nil)
 have hsh2:=(show_35 hm hC stem loop (by omega) (by omega) w1 w2).wkA' (.cons (ownL_wkz _ eS _ eL) .nil)
 have pu1:pureL [ownL stem eS loop eL]=true:=by simp only [pureL,ownL_pure,Bool.and_self]
 have gho:Gh C 0 [ownP 1 2 stem.length loop.length] ⟨n7,H7⟩ fun e' _=>e'=[ownL stem eS loop eL]:=gh_own hT7.S hT7.L (by decide) [] (fun k cs=>frQ_nil k cs)
 refine PDraw.stage (Nat.zero_le _) rfl ?_
 try dsimp only
 simp only [SW,Nat.reduceAdd,o_7,L7]
 refine PDE.lent hsh1 pu1 gho ?_
 refine PDraw.stage (Nat.zero_le _) (chk_one (d:=189) rfl rfl rfl rfl) ?_
 try dsimp only
 simp only [SW]
 refine PDE.lent hsh2 pu1 gho ?_
 refine PDraw.last (Nat.zero_le _) rfl ?_
 try dsimp only
 simp only [SW,eqS_t (show showV stem loop=showV stem loop from rfl)]
 refine PRun.gh (Gh.mask (false::false::false::false::false::false::false::false::false::false::false::true::false::false::false::true::false::false::false::false::false::false::false::false::false::true::false::false::false::true::false::false::false::false::false::false::false::false::false::false::false::false::false::false::false::false::false::false::false::false::false::false::false::false::false::false::false::false::false::false::false::false::false::false::false::false::false::false::false::false::false::false::false::false::false::false::false::false::false::false::false::false::false::false::false::false::false::false::false::false::false::false::false::false::false::false::false::false::false::false::false::false::false::false::false::false::false::false::false::false::false::false::false::false::false::false::false::false::false::false::false::false::false::false::false::false::false::false::false::false::false::false::false::false::false::false::false::false::false::false::false::false::false::false::false::false::false::false::false::false::false::false::false::false::false::false::false::false::false::false::false::false::false::false::false::false::false::false::false::false::false::false::false::false::false::false::false::false::false::false::false::false::false::false::false::false::false::false::false::false::false::false::false::false::false::false::false::false::false::false::false::false::false::false::false::[]) ?_)
 simp only [↓reduceIte,Bool.false_eq_true,maskP]
 have hown:=book_own_q hm hC 6 n7 j ps H7 hB7 hps hpl
 have b6:=blt_t (show 6 < n7 by omega)
 repeat (refine PRun.wpn rfl ?_;simp only [SW])
 refine .refl (PToE.mono (PToB.toE hown (by simp only [nmL,nm_ptr,nm_junk,nm_lit,b6,Bool.and_self]) (by omega)) ?_)
 rintro r ⟨n8,H8⟩ rfl
 refine POps.wp ?_
 simp only [SW]
 repeat (refine PRun.wpn rfl ?_;simp only [SW,reduceCtorEq])
 exact .refl ⟨_,rfl,.refl _⟩
end
end Go.Proofs.YtkldgoapompinaaDoor.Ai
namespace Go.Proofs.YtkldgoapompinaaDoor.Ai
set_option linter.unusedSimpArgs false
open Go
set_option linter.unusedVariables false
set_option linter.unusedSectionVars false
set_option maxRecDepth 10000
set_option maxHeartbeats 4000000
section
variable {C:Ctx} (hm:C.P.follows .mixedOrders=true) (hC:TabOK C.P C.ng C.ts Tryd.tab)
include hm hC
theorem tells_top {itS:Nat→ByteArray} (hw:PFun C 12 [] (.lit (.bool true))) (hI:∀ i:Nat,i < 2 ^ 40→PFun C 58 [.lit (.int .i64 (i:Nat))] (.lit (.string (itS i)))) (hD:∀ i,digs itS i=Lib.decDigits i)
  (stem loop u:List Int) (pr ix n:Int) (r1 : -9223372036854775808≤pr) (r1':pr < 9223372036854775808) (r2 : -9223372036854775808≤ix) (r2':ix < 9223372036854775808) (r3 : -9223372036854775808≤n) (r3':n < 9223372036854775808)
  (h1:stem.length < 2 ^ 60) (h2:loop.length < 2 ^ 60) (h3:u.length < 2 ^ 60) (w1:W16 stem) (w2:W16 loop) :
  PTop C Tryd.tab 4 [wdP stem loop,.lit (.int .i64 pr),.lit (.int .i64 ix),.lit (.int .i64 n),szU u] (.lit (.bool true)):=by
 have hv:=heavy_13 hm hC stem loop h1 h2
 by_cases hbig:(4194304:Int) < ((stem.length + loop.length:Nat):Int)
 ·rw [ltB_t hbig] at hv
  simp only [wdP,szU] at hv ⊢
  refine PTop.body (show Tryd.tab.get 4=some Tryd.c4 from rfl) ?_
  simp only [Tryd.c4,startP,List.length_cons,List.length_nil,Nat.reduceAdd,Nat.reduceSub,List.replicate,List.cons_append,List.nil_append]
  repeat (refine PRun.wpn rfl ?_;simp only [wp,wo_nil,wo_p,wo_n,wo_call,onO_s,onN_s,ble_self,pv_t,pv_bool,put_some,pevP,pevN,getP,setP,evsP,boxP,PW.push,PW.none,Option.map_some,Nat.zero_le,true_and,Nat.zero_add,resPs,resP,tupP])
  refine .refl (PFun.to (hw) rfl (POps.wp ?_))
  simp only [wo_nil,wo_p,onO_s,pv_t,put_some,pevP,getP,setP]
  repeat (refine PRun.wpn rfl ?_;simp only [wp,wo_r,wo_call,onO_s,pv_t,put_some,pevR,getP,setP,evsP,look,PW.cs?,cut0,cutS,List.drop_zero,Option.map_some,Option.bind_some,Nat.zero_le,true_and,↓reduceIte])
  refine .refl (PFun.to (hv) rfl (POps.wp ?_))
  simp only [wo_nil,wo_p,wo_g,onO_s,onG_f,wanted_g,wantB_b,b_tf,pv_t,pv_bool,put_some,pevP,getP,setP]
  repeat (refine PRun.wpn rfl ?_;simp only [wp,wo_nil,wo_p,onO_s,pv_t,put_some,pevP,getP,setP,or_true,true_and,↓reduceIte,reduceCtorEq])
  exact .refl ⟨_,rfl,.refl _⟩
 rw [ltB_f hbig] at hv
 by_cases hbu:(4194304:Int) < ((u.length:Nat):Int)
 ·simp only [wdP,szU] at hv ⊢
  refine PTop.body (show Tryd.tab.get 4=some Tryd.c4 from rfl) ?_
  simp only [Tryd.c4,startP,List.length_cons,List.length_nil,Nat.reduceAdd,Nat.reduceSub,List.replicate,List.cons_append,List.nil_append]
  repeat (refine PRun.wpn rfl ?_;simp only [wp,wo_nil,wo_p,wo_n,wo_call,onO_s,onN_s,ble_self,pv_t,pv_bool,put_some,pevP,pevN,getP,setP,evsP,boxP,PW.push,PW.none,Option.map_some,Nat.zero_le,true_and,Nat.zero_add,resPs,resP,tupP])
  refine .refl (PFun.to (hw) rfl (POps.wp ?_))
  simp only [wo_nil,wo_p,onO_s,pv_t,put_some,pevP,getP,setP]
  repeat (refine PRun.wpn rfl ?_;simp only [wp,wo_r,wo_call,onO_s,pv_t,put_some,pevR,getP,setP,evsP,look,PW.cs?,cut0,cutS,List.drop_zero,Option.map_some,Option.bind_some,Nat.zero_le,true_and,↓reduceIte])
  refine .refl (PFun.to (hv) rfl (POps.wp ?_))
  simp only [wo_nil,wo_p,wo_g,beq_self_eq_true,onO_s,onG_t,wanted_g,wantB_b,pv_t,pv_int,put_some,bi_gtr,pevP,getP,setP,Option.map_some]
  repeat (refine PRun.wpn rfl ?_;simp only [wp,wo_nil,wo_p,onO_s,pv_t,put_some,pevP,getP,setP,or_true,true_and,↓reduceIte,reduceCtorEq,ltB_t hbu])
  exact .refl ⟨_,rfl,.refl _⟩
 have b1:stem.length < 2 ^ 24:=by omega
 have b2:loop.length < 2 ^ 24:=by omega
 have b3:u.length < 2 ^ 24:=by omega
 have hL14:=lent_14 hm hC stem loop (by omega) (by omega)
 have hL15:=lent_15 hm hC u (by omega)
 simp only [wdP,szU] at hv hL14 hL15 ⊢
 refine PTop.body (show Tryd.tab.get 4=some Tryd.c4 from rfl) ?_
 simp only [Tryd.c4,startP,List.length_cons,List.length_nil,Nat.reduceAdd,Nat.reduceSub,List.replicate,List.cons_append,List.nil_append]
 repeat (refine PRun.wpn rfl ?_;simp only [wp,wo_nil,wo_p,wo_n,wo_call,onO_s,onN_s,ble_self,pv_t,pv_bool,put_some,pevP,pevN,getP,setP,evsP,boxP,PW.push,PW.none,Option.map_some,Nat.zero_le,true_and,Nat.zero_add,resPs,resP,tupP])
 refine .refl (PFun.to (hw) rfl (POps.wp ?_))
 simp only [wo_nil,wo_p,onO_s,pv_t,put_some,pevP,getP,setP]
 repeat (refine PRun.wpn rfl ?_;simp only [wp,wo_r,wo_call,onO_s,pv_t,put_some,pevR,getP,setP,evsP,look,PW.cs?,cut0,cutS,List.drop_zero,Option.map_some,Option.bind_some,Nat.zero_le,true_and,↓reduceIte])
 refine .refl (PFun.to (hv) rfl (POps.wp ?_))
 simp only [wo_nil,wo_p,wo_g,beq_self_eq_true,onO_s,onG_t,wanted_g,wantB_b,pv_t,pv_int,put_some,bi_gtr,pevP,getP,setP,Option.map_some]
 repeat (refine PRun.wpn rfl ?_;simp only [wp,wo_nil,wo_p,wo_r,wo_call,onO_s,pv_t,put_some,pevP,pevR,getP,setP,evsP,look,PW.cs?,cut0,cutS,List.drop_zero,Option.map_some,Option.bind_some,Nat.zero_le,true_and,↓reduceIte,Bool.false_eq_true,ltB_f hbu])
 refine .refl (PGen.to hL14 rfl (POps.wp ?_))
 simp only [wo_nil,wo_n,wo_st,onN_s,onE_s,ble0,pv_t,ov_nil,ov_cons,ov_nilS,put_some,put_none,pevN,pevE,getP,setP,spliceP,overP,plainP,look,PW.push,List.length_cons,List.length_nil,Option.map_some,Bool.and_true,↓reduceIte,ltL,lt,Nat.reduceAdd,Bool.false_eq_true,Nat.zero_add,allPlain,PW.wr,setO,killO,Bool.or_self,Bool.not_true,List.length_cons,List.length_nil,PW.with,shH,shO,shP,shL,shL_L16,shA]
 repeat (refine PRun.wpn rfl ?_;simp only [wp,wo_p,wo_call,onO_s,pv_t,put_some,pevP,getP,setP,evsP,Nat.zero_le,true_and])
 refine .refl (PGen.to hL15 rfl (POps.wp ?_))
 simp only [wo_nil,wo_p,onO_s,pv_t,put_some,pevP,getP,setP,Nat.reduceAdd,Nat.zero_add,PW.with,shH,shO,shP,shL_L16,shA]
 repeat (refine PRun.wpn rfl ?_;simp only [wp,wo_nil,wo_p,wo_n,onO_s,onN_s,ble0,pv_t,pv_int,ov_nil,ov_cons,ov_nilS,put_some,pevP,pevN,getP,setP,fillP,boxP,PW.push,Option.map_some,Bool.and_true,↓reduceIte,reduceCtorEq,ltL,lt,Nat.reduceAdd])
 refine PRun.gh (Gh.mask mkWtD5 ?_)
 simp only [mkWtD5,↓reduceIte,Bool.false_eq_true,maskP]
 have hsame:∀ a b:List Int,a.length < 2 ^ 62→b.length < 2 ^ 62→PFun C 20 [wdP a b,wdP a b] (.lit (.bool true)):=fun a b ha hb=>by
  have:=sameWi hm hC a b a b ha hb ha hb
  rwa [show decide (a=a∧b=b)=true from by simp] at this
 have hsameL:∀ a:List Int,a.length < 2 ^ 62→PFun C 24 [szU a,szU a] (.lit (.bool true)):=fun a ha=>by
  have:=sameLi hm hC a a ha ha
  rwa [show decide (a=a)=true from by simp] at this
 refine PRun.loopG (fun m t π=>∃ (k nx j:Nat) (H:List (Nat × PObj)) (ps:List (Nat × Nat)),t=(.junk::.lit (.int .i64 pr)::.lit (.int .i64 ix)::.lit (.int .i64 n)::.sz (L16 u) u.length::.ptr 0 0::.junk::.junk::.junk::.junk::.junk::.lit (.bool true)::.junk::.ptr 4 0::.loc 5 0 u.length (u.length + 2)::.ptr 6 0::.lit (.int .i64 (k:Nat))::.junk::.junk::.junk::.junk::.junk::.junk::.junk::.junk::.junk::.junk::.junk::.junk::.junk::.junk::.junk::.junk::.junk::.junk::.junk::.junk::.junk::.junk::.junk::.junk::.junk::.junk::.junk::.junk::.junk::.junk::.junk::.junk::.junk::.junk::.junk::.junk::.junk::.junk::.junk::.junk::.junk::.junk::.junk::.junk::.junk::.junk::.junk::.junk::.junk::.junk::.junk::.junk::.junk::.junk::.junk::.junk::.junk::.junk::.junk::.junk::.junk::.junk::.junk::.junk::.junk::.junk::.junk::.junk::.junk::.junk::.junk::.junk::.junk::.junk::.junk::.junk::.junk::.junk::.junk::.junk::.junk::.junk::.junk::.junk::.junk::.junk::.junk::.junk::.junk::.junk::.junk::.junk::.junk::.junk::.junk::.junk::.junk::.junk::.junk::.junk::.junk::.junk::.junk::.junk::.junk::.junk::.junk::.junk::.junk::.junk::.junk::.junk::.junk::.junk::.junk::.junk::.junk::.junk::.junk::.junk::.junk::.junk::.junk::.junk::.junk::.junk::.junk::.junk::.junk::.junk::.junk::.junk::.junk::.junk::.junk::.junk::.junk::.junk::.junk::.junk::.junk::.junk::.junk::.junk::.junk::.junk::.junk::.junk::.junk::.junk::.junk::.junk::.junk::.junk::.junk::.junk::.junk::.junk::.junk::.junk::.junk::.junk::.junk::.junk::.junk::.junk::.junk::.junk::.junk::.junk::.junk::.junk::.junk::.junk::.junk::.junk::.junk::.junk::.junk::.junk::.junk::.junk::.junk::.junk::.junk::.junk::.junk::.junk::[])∧k≤2∧m=2 - k∧π=⟨nx,H⟩∧ps.length=7 * k∧TB H nx stem marks loop marks u marks [.sz (L16 stem) stem.length,.sz (L16 loop) loop.length] [.loc 1 0 stem.length (stem.length + 2),.loc 2 0 loop.length (loop.length + 2)]∧BookQ H nx 6 j ps) ?_ 2 _ _ ⟨0,7,0,_,[],rfl,by omega,rfl,rfl,rfl,⟨Nat.le_refl _,rfl,rfl,⟨by omega,by decide,rfl⟩,⟨by omega,by decide,rfl⟩,⟨by omega,by decide,rfl⟩⟩,⟨by omega,_,rfl⟩,fun h=>absurd rfl h,fun i p hp=>by simp at hp,⟨fun i i' p p' hp=>by simp at hp,fun i p hp=>by simp at hp⟩,fun i p hp=>by simp at hp⟩
 rintro m t π ⟨k,n0,j,H0,ps,rfl,hk,rfl,rfl,hps,hT0,hB0⟩
 by_cases hlt:((k:Nat):Int) < 2
 ·have hO0:=hT0.O
  have hn0:=hT0.n
  have hold:∀ q∈ps,q.1 ≠ 0→q.1 < n0:=fun q hq h0=>by
   obtain ⟨i,hi⟩:=List.mem_iff_getElem?.1 hq
   exact (hB0.lst i q hi h0).2.1
  repeat (refine PRun.wpn rfl ?_;simp only [wp,wo_nil,wo_p,wo_r,wo_call,onO_s,pv_t,pv_int,put_some,bi_lss,pevP,pevR,getP,setP,evsP,PW.cs?,cut0,cutS,List.drop_zero,Option.map_some,Option.bind_some,Nat.zero_le,true_and,↓reduceIte,ltB_t hlt,hO0])
  obtain ⟨ra,πa,wa,na⟩:=normal_w hm hC stem loop (by omega) (by omega)
  refine .refl (PTo.toE (PGen.lentW (na.wkA (.cons (ownL_wk _ marks _ marks) .nil)) wa (by simp only [pureL,ownL_pure,Bool.and_self]) (gh_own hT0.S hT0.L (by decide) [] (fun k cs=>frQ_nil k cs)) (by omega) ?_) (Nat.zero_le _))
  intro n1 H1 p1 p2 hn1 hk1 qp1 qp2 fp
  refine POps.wp (rows_st p1 p2 (Nat.zero_le _) rfl rfl ?_)
  intro H1' hk1' ho1
  have hT1:=(hT0.keep hn1 hk1).keep (Nat.le_succ n1) hk1'
  have hO1:=hT1.O
  have kp1:=keep_trans hn1 hk1 hk1'
  simp only [wo_nil,setP]
  repeat (refine PRun.wpn rfl ?_;simp only [wp,wo_p,wo_r,wo_call,onO_s,pv_t,put_some,pevP,pevR,getP,setP,evsP,PW.cs?,cut0,cutS,List.drop_zero,Option.map_some,Option.bind_some,Nat.zero_le,true_and,hO1])
  obtain ⟨rb,πb,wb,nb⟩:=suffix_w hm hC stem loop n r3 r3' (by omega) (by omega)
  refine .refl (PTo.toE (PGen.lentW (nb.wkA (.cons (ownL_wk _ marks _ marks) (.cons (.refl _) .nil))) wb (by simp only [pureL,pureP,ownL_pure,Bool.and_self]) (gh_own hT1.S hT1.L (by decide) [.lit (.int .i64 n)] (fun k cs=>by rw [frQ_cons,frQP_lit,frQ_nil])) (by omega) ?_) (Nat.zero_le _))
  intro n2 H2 q1 q2 hn2 hk2 qq1 qq2 fq
  refine POps.wp (rows_st q1 q2 (Nat.zero_le _) rfl rfl ?_)
  intro H2' hk2' ho2
  have hT2:=(hT1.keep hn2 hk2).keep (Nat.le_succ n2) hk2'
  have hO2:=hT2.O
  have kp2:=keep_trans hn2 hk2 hk2'
  simp only [wo_nil,setP]
  repeat (refine PRun.wpn rfl ?_;simp only [wp,wo_p,wo_r,wo_call,onO_s,pv_t,put_some,pevP,pevR,getP,setP,evsP,PW.cs?,cut0,cutS,List.drop_zero,Option.map_some,Option.bind_some,Nat.zero_le,true_and,hO2])
  obtain ⟨rc,πc,wc,nc⟩:=join_w hm hC u stem loop (by omega) (by omega) (by omega)
  refine .refl (PTo.toE (PGen.lentW (nc.wkA (.cons (sl_wk u marks) (.cons (ownL_wk _ marks _ marks) .nil))) wc (by simp only [pureL,pureP,ownL_pure,Bool.and_self]) (gh_join hT2.S hT2.L hT2.U (by decide) (by decide) (by decide)) (by omega) ?_) (Nat.zero_le _))
  intro n3 H3 s1 s2 hn3 hk3 qs1 qs2 fs
  refine POps.wp (rows_st s1 s2 (Nat.zero_le _) rfl rfl ?_)
  intro H3' hk3' ho3
  have hT3:=(hT2.keep hn3 hk3).keep (Nat.le_succ n3) hk3'
  have hO3:=hT3.O
  have kp3:=keep_trans hn3 hk3 hk3'
  simp only [wo_nil,setP]
  repeat (refine PRun.wpn rfl ?_;simp only [wp,wo_p,wo_r,wo_call,onO_s,pv_t,put_some,pevP,pevR,getP,setP,evsP,PW.cs?,cut0,cutS,List.drop_zero,Option.map_some,Option.bind_some,Nat.zero_le,true_and,hO3])
  obtain ⟨rd,πd,wd,nd⟩:=prefix_19sl hm hC stem loop n r3 r3' (by omega) (by omega)
  refine .refl (PTo.toE (PGen.lentS (nd.wkA (.cons (ownL_wk _ marks _ marks) (.cons (.refl _) .nil))) wd (by simp only [pureL,pureP,ownL_pure,Bool.and_self]) (gh_own hT3.S hT3.L (by decide) [.lit (.int .i64 n)] (fun k cs=>by rw [frQ_cons,frQP_lit,frQ_nil])) (by omega) ?_) (Nat.zero_le _))
  intro n4 H4 o hn4 hk4 qo
  have hT4:=hT3.keep hn4 hk4
  have x1_4:=hk4 _ _ (by omega) (kp3 _ _ (by omega) (kp2 _ _ (by omega) ho1))
  have x2_4:=hk4 _ _ (by omega) (kp3 _ _ (by omega) ho2)
  have x3_4:=hk4 _ _ (by omega) ho3
  have qp1_4:=(((qp1.keep (Nat.le_succ n1) hk1').keep (Nat.le_trans hn2 (Nat.le_succ n2)) kp2).keep (Nat.le_trans hn3 (Nat.le_succ n3)) kp3).keep hn4 hk4
  have qp2_4:=(((qp2.keep (Nat.le_succ n1) hk1').keep (Nat.le_trans hn2 (Nat.le_succ n2)) kp2).keep (Nat.le_trans hn3 (Nat.le_succ n3)) kp3).keep hn4 hk4
  have qq1_4:=((qq1.keep (Nat.le_succ n2) hk2').keep (Nat.le_trans hn3 (Nat.le_succ n3)) kp3).keep hn4 hk4
  have qq2_4:=((qq2.keep (Nat.le_succ n2) hk2').keep (Nat.le_trans hn3 (Nat.le_succ n3)) kp3).keep hn4 hk4
  have qs1_4:=(qs1.keep (Nat.le_succ n3) hk3').keep hn4 hk4
  have qs2_4:=(qs2.keep (Nat.le_succ n3) hk3').keep hn4 hk4
  have qo_4:=qo
  have w_4:=hT4.W
  have o_4:=hT4.O
  refine POps.wp ?_
  simp only [wo_nil,wo_p,onO_s,pv_t,put_some,pevP,getP,setP]
  repeat (refine PRun.wpn rfl ?_;simp only [wp])
  refine PDraw.stage (Nat.zero_le _) rfl ?_
  have L4:=And.intro (ltN_t (show 0 < n4 by omega)) (And.intro (ltN_t (show 4 < n4 by omega)) (And.intro (ltN_t (show n1 < n4 by omega)) (And.intro (ltN_t (show n2 < n4 by omega)) (ltN_t (show n3 < n4 by omega)))))
  try dsimp only
  simp only [onX_s,onXI_s,rdX_e,ltN,ltD_s,onD_s,wx_nil,wx_cons,wx_r,wd_cons,wd_e,pv_t,put_some,pevR,getP,setP,nthO,PW.cs?,cut0,cutS,baseP,ROp.base,List.length_cons,List.length_nil,List.drop_zero,Option.map_some,Option.bind_some,Bool.and_true,Nat.reduceAdd,Option.isSome_some,Nat.zero_add,List.length_cons,List.length_nil,x1_4,w_4,L4]
  obtain ⟨re,πe,we,ne⟩:=normalR_sz hm hC stem loop (by omega) (by omega)
  refine PDE.genW (nx:=n4) ne we rfl (by omega) ?_
  intro n5 H5 y1 y2 hn5 hk5 qy1 qy2 fy
  have hT5:=hT4.keep hn5 hk5
  have w_5:=hT5.W
  have o_5:=hT5.O
  have nn_5:=hT5.n
  have x1_5:=hk5 _ _ (by omega) x1_4
  have x2_5:=hk5 _ _ (by omega) x2_4
  have x3_5:=hk5 _ _ (by omega) x3_4
  have qp1_5:=qp1_4.keep hn5 hk5
  have qp2_5:=qp2_4.keep hn5 hk5
  have qq1_5:=qq1_4.keep hn5 hk5
  have qq2_5:=qq2_4.keep hn5 hk5
  have qs1_5:=qs1_4.keep hn5 hk5
  have qs2_5:=qs2_4.keep hn5 hk5
  have qo_5:=qo_4.keep hn5 hk5
  have L5:=And.intro (ltN_t (show 0 < n5 by omega)) (And.intro (ltN_t (show 4 < n5 by omega)) (And.intro (ltN_t (show n1 < n5 by omega)) (And.intro (ltN_t (show n2 < n5 by omega)) (ltN_t (show n3 < n5 by omega)))))
  refine PDraw.stage (Nat.zero_le _) (chk_one (d:=62) rfl rfl rfl (flat_slq2 p1 p2)) ?_
  try dsimp only
  simp only [onD_s,wx_nil,wd_cons,wd_e,put_some,setP,nthO]
  refine PDE.lent ((hsame _ _ (by have:=nStem_len stem loop;omega) (by have:=nLoop_len stem loop;omega)).wkA' (.cons (.agg (.cons (lvP_wk qp1_5.2.1) (.cons (lvP_wk qp2_5.2.1) .nil))) (.cons (.agg (.cons (lvP_wk qy1.2.1) (.cons (lvP_wk qy2.2.1) .nil))) .nil))) (by simp only [pureL,pureP,lvP_pure,Bool.and_self])
   (gh_word qp1_5 qp2_5 qy1 qy2 fp (qp1_4.far qy1 (Nat.le_refl _)) (qp1_4.far qy2 (Nat.le_refl _)) (qp2_4.far qy1 (Nat.le_refl _)) (qp2_4.far qy2 (Nat.le_refl _)) fy) ?_
  refine PDraw.stage (Nat.zero_le _) rfl ?_
  try dsimp only
  simp only [beq_self_eq_true,wanted_g,wantB_b,onX_s,onXG_t,onXI_s,rdX_e,ltN,ltD_s,onD_s,onDG_t,wx_nil,wx_cons,wx_p,wx_r,wx_g,wd_cons,wd_e,wd_g,pv_t,put_some,pevP,pevR,getP,setP,nthO,PW.cs?,cut0,cutS,baseP,ROp.base,List.length_cons,List.length_nil,List.drop_zero,Option.map_some,Option.bind_some,Bool.and_true,Nat.reduceAdd,Option.isSome_some,Nat.zero_add,List.length_cons,List.length_nil,x2_5,w_5,L5]
  obtain ⟨rf,πf,wf,nf⟩:=suffixR_w hm hC stem loop n r3 r3' (by omega) (by omega)
  refine PDE.genW (nx:=n5) nf wf rfl (by omega) ?_
  intro n6 H6 z1 z2 hn6 hk6 qz1 qz2 fz
  have hT6:=hT5.keep hn6 hk6
  have w_6:=hT6.W
  have o_6:=hT6.O
  have nn_6:=hT6.n
  have x1_6:=hk6 _ _ (by omega) x1_5
  have x2_6:=hk6 _ _ (by omega) x2_5
  have x3_6:=hk6 _ _ (by omega) x3_5
  have qp1_6:=qp1_5.keep hn6 hk6
  have qp2_6:=qp2_5.keep hn6 hk6
  have qq1_6:=qq1_5.keep hn6 hk6
  have qq2_6:=qq2_5.keep hn6 hk6
  have qs1_6:=qs1_5.keep hn6 hk6
  have qs2_6:=qs2_5.keep hn6 hk6
  have qo_6:=qo_5.keep hn6 hk6
  have L6:=And.intro (ltN_t (show 0 < n6 by omega)) (And.intro (ltN_t (show 4 < n6 by omega)) (And.intro (ltN_t (show n1 < n6 by omega)) (And.intro (ltN_t (show n2 < n6 by omega)) (ltN_t (show n3 < n6 by omega)))))
  refine PDraw.stage (Nat.zero_le _) (chk_one (d:=67) rfl rfl rfl (flat_slq2 q1 q2)) ?_
  try dsimp only
  simp only [beq_self_eq_true,wanted_g,wantB_b,onD_s,onDG_t,wx_nil,wd_cons,wd_e,wd_g,put_some,getP,setP,nthO]
  refine PDE.lent ((hsame _ _ (by have:=sufS_len stem loop n.toNat;omega) (by have:=sufL_len stem loop n.toNat;omega)).wkA' (.cons (.agg (.cons (lvP_wk qq1_6.2.1) (.cons (lvP_wk qq2_6.2.1) .nil))) (.cons (.agg (.cons (lvP_wk qz1.2.1) (.cons (lvP_wk qz2.2.1) .nil))) .nil))) (by simp only [pureL,pureP,lvP_pure,Bool.and_self])
   (gh_word qq1_6 qq2_6 qz1 qz2 fq (qq1_5.far qz1 (Nat.le_refl _)) (qq1_5.far qz2 (Nat.le_refl _)) (qq2_5.far qz1 (Nat.le_refl _)) (qq2_5.far qz2 (Nat.le_refl _)) fz) ?_
  refine PDraw.last (Nat.zero_le _) rfl ?_
  try dsimp only
  simp only [onX_s,onXI_s,wx_nil,wx_cons,wx_p,pv_t,put_some,pevP,getP,setP,nthO]
  repeat (refine PRun.wpn rfl ?_;simp only [wp])
  refine PDraw.stage (Nat.zero_le _) rfl ?_
  try dsimp only
  simp only [onX_s,onXI_s,rdX_e,ltN,ltD_s,onD_s,wx_nil,wx_cons,wx_p,wx_r,wd_cons,wd_e,pv_t,put_some,pevP,pevR,getP,setP,nthO,PW.cs?,cut0,cutS,baseP,ROp.base,List.length_cons,List.length_nil,List.drop_zero,Option.map_some,Option.bind_some,Bool.and_true,Nat.reduceAdd,Option.isSome_some,Nat.zero_add,List.length_cons,List.length_nil,x3_6,w_6,L6]
  obtain ⟨rg,πg,wg,ng⟩:=joinR_w hm hC u stem loop (by omega) (by omega) (by omega)
  refine PDE.genW (nx:=n6) ng wg rfl (by omega) ?_
  intro n7 H7 a1 a2 hn7 hk7 qa1 qa2 fa
  have hT7:=hT6.keep hn7 hk7
  have w_7:=hT7.W
  have o_7:=hT7.O
  have nn_7:=hT7.n
  have x1_7:=hk7 _ _ (by omega) x1_6
  have x2_7:=hk7 _ _ (by omega) x2_6
  have x3_7:=hk7 _ _ (by omega) x3_6
  have qp1_7:=qp1_6.keep hn7 hk7
  have qp2_7:=qp2_6.keep hn7 hk7
  have qq1_7:=qq1_6.keep hn7 hk7
  have qq2_7:=qq2_6.keep hn7 hk7
  have qs1_7:=qs1_6.keep hn7 hk7
  have qs2_7:=qs2_6.keep hn7 hk7
  have qo_7:=qo_6.keep hn7 hk7
  have L7:=And.intro (ltN_t (show 0 < n7 by omega)) (And.intro (ltN_t (show 4 < n7 by omega)) (And.intro (ltN_t (show n1 < n7 by omega)) (And.intro (ltN_t (show n2 < n7 by omega)) (ltN_t (show n3 < n7 by omega)))))
  refine PDraw.stage (Nat.zero_le _) (chk_one (d:=73) rfl rfl rfl (flat_slq2 s1 s2)) ?_
  try dsimp only
  simp only [onD_s,wx_nil,wd_cons,wd_e,put_some,setP,nthO]
  refine PDE.lent ((hsame _ _ (by have:=nStem_len (u++stem) loop;(try simp only [List.length_append] at this);omega) (by have:=nLoop_len (u++stem) loop;(try simp only [List.length_append] at this);omega)).wkA' (.cons (.agg (.cons (lvP_wk qs1_7.2.1) (.cons (lvP_wk qs2_7.2.1) .nil))) (.cons (.agg (.cons (lvP_wk qa1.2.1) (.cons (lvP_wk qa2.2.1) .nil))) .nil))) (by simp only [pureL,pureP,lvP_pure,Bool.and_self])
   (gh_word qs1_7 qs2_7 qa1 qa2 fs (qs1_6.far qa1 (Nat.le_refl _)) (qs1_6.far qa2 (Nat.le_refl _)) (qs2_6.far qa1 (Nat.le_refl _)) (qs2_6.far qa2 (Nat.le_refl _)) fa) ?_
  refine PDraw.stage (Nat.zero_le _) rfl ?_
  try dsimp only
  simp only [beq_self_eq_true,wanted_g,wantB_b,onX_s,onXG_t,onXI_s,rdX_e,ltN,ltD_s,onD_s,onDG_t,wx_nil,wx_cons,wx_p,wx_r,wx_g,wd_cons,wd_e,wd_g,pv_t,put_some,pevP,pevR,getP,setP,nthO,PW.cs?,cut0,cutS,baseP,ROp.base,List.length_cons,List.length_nil,List.drop_zero,Option.map_some,Option.bind_some,Bool.and_true,Nat.reduceAdd,Option.isSome_some,Nat.zero_add,List.length_cons,List.length_nil,w_7,L7]
  obtain ⟨rh,πh,wh,nh⟩:=prefix_25sz hm hC stem loop n r3 r3' (by omega) (by omega)
  refine PDE.genS (nx:=n7) nh wh rfl (by omega) ?_
  intro n8 H8 c hn8 hk8 qc
  have hT8:=hT7.keep hn8 hk8
  have w_8:=hT8.W
  have o_8:=hT8.O
  have nn_8:=hT8.n
  have x1_8:=hk8 _ _ (by omega) x1_7
  have x2_8:=hk8 _ _ (by omega) x2_7
  have x3_8:=hk8 _ _ (by omega) x3_7
  have qp1_8:=qp1_7.keep hn8 hk8
  have qp2_8:=qp2_7.keep hn8 hk8
  have qq1_8:=qq1_7.keep hn8 hk8
  have qq2_8:=qq2_7.keep hn8 hk8
  have qs1_8:=qs1_7.keep hn8 hk8
  have qs2_8:=qs2_7.keep hn8 hk8
  have qo_8:=qo_7.keep hn8 hk8
  have L8:=And.intro (ltN_t (show 0 < n8 by omega)) (And.intro (ltN_t (show 4 < n8 by omega)) (And.intro (ltN_t (show n1 < n8 by omega)) (And.intro (ltN_t (show n2 < n8 by omega)) (ltN_t (show n3 < n8 by omega)))))
  refine PDraw.stage (Nat.zero_le _) rfl ?_
  try dsimp only
  simp only [beq_self_eq_true,wanted_g,wantB_b,onD_s,onDG_t,wx_nil,wd_cons,wd_e,wd_g,put_some,getP,setP,nthO]
  refine PDE.lent ((hsameL _ (by have:=pfxV_len stem loop n;omega)).wkA' (.cons (lvP_wk qo_8.2.1) (.cons (lvP_wk qc.2.1) .nil))) (by simp only [pureL,lvP_pure,Bool.and_self])
   (gh_list qo_8 qc (qo_7.far qc (Nat.le_refl _))) ?_
  refine PDraw.last (Nat.zero_le _) rfl ?_
  try dsimp only
  simp only [onX_s,onXI_s,wx_nil,wx_cons,wx_p,pv_t,put_some,pevP,getP,setP,nthO]
  repeat (refine PRun.wpn rfl ?_;simp only [wp])
  have hck1:=(check_26 hm hC stem loop pr r1 r1' (by omega) (by omega) w1 w2).wkA' (.cons (ownL_wkz _ marks _ marks) (.cons (.refl _) .nil))
  have hck2:=check_27 hm hC stem loop pr r1 r1' (by omega) (by omega) w1 w2
  have hpl1:=(places_28 hm hC stem loop (by omega) (by omega)).wkA' (.cons (ownL_wkz _ marks _ marks) .nil)
  have hpl2:=places_29 hm hC stem loop (by omega) (by omega)
  have hbe1:=(behind_30 hm hC stem loop ix r2 r2' (by omega) (by omega)).wkA' (.cons (ownL_wkz _ marks _ marks) (.cons (.refl _) .nil))
  have hbe2:=behind_31 hm hC stem loop ix r2 r2' (by omega) (by omega)
  have hat1:=(at_32 hm hC stem loop ix r2 r2' (by omega) (by omega)).wkA' (.cons (ownL_wkz _ marks _ marks) (.cons (.refl _) .nil))
  have hat2:=at_33 hm hC stem loop ix r2 r2' (by omega) (by omega)
  have hsh1:=(show_34 hm hC hI hD stem loop (by omega) (by omega) w1 w2).wkA' (.cons (ownL_wkz _ marks _ marks) .nil)
  have hsh2:=show_35 hm hC stem loop (by omega) (by omega) w1 w2
  have pu1:pureL [ownL stem marks loop marks]=true:=by simp only [pureL,ownL_pure,Bool.and_self]
  have pu2:∀ v,pureL [ownL stem marks loop marks,.lit v]=true:=fun v=>by simp only [pureL,pureP,ownL_pure,Bool.and_self]
  have gho:Gh C 0 [ownP 1 2 stem.length loop.length] ⟨n8,H8⟩ fun e' _=>e'=[ownL stem marks loop marks]:=gh_own hT8.S hT8.L (by decide) [] (fun k cs=>frQ_nil k cs)
  have gho2:∀ v,Gh C 0 [ownP 1 2 stem.length loop.length,.lit v] ⟨n8,H8⟩ fun e' _=>e'=[ownL stem marks loop marks,.lit v]:=fun v=>gh_own hT8.S hT8.L (by decide) [.lit v] (fun k cs=>by rw [frQ_cons,frQP_lit,frQ_nil])
  simp only [wdP,szU] at hck2 hpl2 hbe2 hat2 hsh2
  refine PDraw.stage (Nat.zero_le _) rfl ?_
  try dsimp only
  simp only [onX_s,onXI_s,rdX_e,ltN,ltD_s,onD_s,wx_nil,wx_cons,wx_p,wx_r,wd_cons,wd_e,pv_t,put_some,pevP,pevR,getP,setP,nthO,PW.cs?,cut0,cutS,baseP,ROp.base,List.length_cons,List.length_nil,List.drop_zero,Option.map_some,Option.bind_some,Bool.and_true,Nat.reduceAdd,Option.isSome_some,Nat.zero_add,List.length_cons,List.length_nil,o_8,w_8,L8]
  refine PDE.lent hck1 (pu2 _) (gho2 _) ?_
  refine PDraw.stage (Nat.zero_le _) (chk_one (d:=88) rfl rfl rfl rfl) ?_
  try dsimp only
  simp only [onD_s,wx_nil,wd_cons,wd_e,put_some,setP,nthO]
  refine PDE.pure hck2 rfl ?_
  refine PDraw.stage (Nat.zero_le _) rfl ?_
  try dsimp only
  simp only [beq_self_eq_true,wanted_g,wantB_b,onX_s,onXG_t,onXI_s,rdX_e,ltN,ltD_s,onD_s,onDG_t,wx_nil,wx_cons,wx_p,wx_r,wx_g,wd_cons,wd_e,wd_g,pv_t,put_some,bi_eql,pevP,pevR,getP,setP,nthO,PW.cs?,cut0,cutS,baseP,ROp.base,List.length_cons,List.length_nil,List.drop_zero,Option.map_some,Option.bind_some,Bool.and_true,Nat.reduceAdd,Option.isSome_some,Nat.zero_add,List.length_cons,List.length_nil,o_8,w_8,L8,eqB_t (show chkV stem loop pr=chkV stem loop pr from rfl)]
  refine PDE.lent hpl1 pu1 gho ?_
  refine PDraw.stage (Nat.zero_le _) (chk_one (d:=95) rfl rfl rfl rfl) ?_
  try dsimp only
  simp only [beq_self_eq_true,wanted_g,wantB_b,onD_s,onDG_t,wx_nil,wd_cons,wd_e,wd_g,put_some,getP,setP,nthO]
  refine PDE.pure hpl2 rfl ?_
  refine PDraw.last (Nat.zero_le _) rfl ?_
  try dsimp only
  simp only [beq_self_eq_true,wanted_g,wantB_b,onX_s,onXG_t,onXI_s,wx_nil,wx_cons,wx_p,wx_g,pv_t,put_some,bi_eql,pevP,getP,setP,nthO,Option.map_some,eqB_t (show ((plV stem loop:Nat):Int)=((plV stem loop:Nat):Int) from rfl)]
  repeat (refine PRun.wpn rfl ?_;simp only [wp])
  refine PDraw.stage (Nat.zero_le _) rfl ?_
  try dsimp only
  simp only [onX_s,onXI_s,rdX_e,ltN,ltD_s,onD_s,wx_nil,wx_cons,wx_p,wx_r,wd_cons,wd_e,pv_t,put_some,pevP,pevR,getP,setP,nthO,PW.cs?,cut0,cutS,baseP,ROp.base,List.length_cons,List.length_nil,List.drop_zero,Option.map_some,Option.bind_some,Bool.and_true,Nat.reduceAdd,Option.isSome_some,Nat.zero_add,List.length_cons,List.length_nil,o_8,w_8,L8]
  refine PDE.lent hbe1 (pu2 _) (gho2 _) ?_
  refine PDraw.stage (Nat.zero_le _) (chk_one (d:=102) rfl rfl rfl rfl) ?_
  try dsimp only
  simp only [onD_s,wx_nil,wd_cons,wd_e,put_some,setP,nthO]
  refine PDE.pure hbe2 rfl ?_
  refine PDraw.stage (Nat.zero_le _) rfl ?_
  try dsimp only
  simp only [beq_self_eq_true,wanted_g,wantB_b,onX_s,onXG_t,onXI_s,rdX_e,ltN,ltD_s,onD_s,onDG_t,wx_nil,wx_cons,wx_p,wx_r,wx_g,wd_cons,wd_e,wd_g,pv_t,put_some,bi_eql,pevP,pevR,getP,setP,nthO,PW.cs?,cut0,cutS,baseP,ROp.base,List.length_cons,List.length_nil,List.drop_zero,Option.map_some,Option.bind_some,Bool.and_true,Nat.reduceAdd,Option.isSome_some,Nat.zero_add,List.length_cons,List.length_nil,o_8,w_8,L8,eqB_t (show behV stem loop ix=behV stem loop ix from rfl)]
  refine PDE.lent hat1 (pu2 _) (gho2 _) ?_
  refine PDraw.stage (Nat.zero_le _) (chk_one (d:=110) rfl rfl rfl rfl) ?_
  try dsimp only
  simp only [beq_self_eq_true,wanted_g,wantB_b,onD_s,onDG_t,wx_nil,wd_cons,wd_e,wd_g,put_some,getP,setP,nthO]
  refine PDE.pure hat2 rfl ?_
  refine PDraw.stage (Nat.zero_le _) rfl ?_
  try dsimp only
  simp only [beq_self_eq_true,wanted_g,wantB_b,onX_s,onXG_t,onXI_s,rdX_e,ltN,ltD_s,onD_s,onDG_t,wx_nil,wx_cons,wx_p,wx_r,wx_g,wd_cons,wd_e,wd_g,pv_t,put_some,bi_eql,pevP,pevR,getP,setP,nthO,PW.cs?,cut0,cutS,baseP,ROp.base,List.length_cons,List.length_nil,List.drop_zero,Option.map_some,Option.bind_some,Bool.and_true,Nat.reduceAdd,Option.isSome_some,Nat.zero_add,List.length_cons,List.length_nil,o_8,w_8,L8,eqB_t (show atV stem loop ix=atV stem loop ix from rfl)]
  refine PDE.lent hsh1 pu1 gho ?_
  refine PDraw.stage (Nat.zero_le _) (chk_one (d:=118) rfl rfl rfl rfl) ?_
  try dsimp only
  simp only [beq_self_eq_true,wanted_g,wantB_b,onD_s,onDG_t,wx_nil,wd_cons,wd_e,wd_g,put_some,getP,setP,nthO]
  refine PDE.pure hsh2 rfl ?_
  refine PDraw.last (Nat.zero_le _) rfl ?_
  try dsimp only
  simp only [beq_self_eq_true,wanted_g,wantB_b,onX_s,onXG_t,onXI_s,wx_nil,wx_cons,wx_p,wx_g,pv_t,put_some,bi_eqlS,pevP,getP,setP,nthO,Option.map_some,eqS_t (show showV stem loop=showV stem loop from rfl)]
  refine PRun.wpn rfl ?_
  simp only [wp,wo_nil,wo_p,wo_g,beq_self_eq_true,onO_s,onG_t,wanted_g,wantB_b,pv_t,put_some,pevP,getP,setP,Bool.not_true]
  refine PRun.wpn rfl ?_
  simp only [wp,pv_t,getP,↓reduceIte,Bool.false_eq_true]
  refine PRun.gh (Gh.mask mkWtD6 ?_)
  simp only [mkWtD6,↓reduceIte,Bool.false_eq_true,maskP]
  have hB8:=((((((((hB0.keep hn1 hk1).keep (Nat.le_succ n1) hk1').keep hn2 hk2).keep (Nat.le_succ n2) hk2').keep hn3 hk3).keep (Nat.le_succ n3) hk3').keep hn4 hk4).keep hn5 hk5).keep hn6 hk6
  have hB8:=(hB8.keep hn7 hk7).keep hn8 hk8
  have hld1:∀ x∈ps++[p1]++[p2],x.1 ≠ 0→x.1 < n1 + 1:=fun x hx h0=>by
   rcases mem_app3 hx with hx | rfl | rfl
   ·have:=hold x hx h0;omega
   ·have:=(qp1.2.2 h0).2.1;omega
   ·have:=(qp2.2.2 h0).2.1;omega
  have hld2:∀ x∈ps++[p1]++[p2]++[q1]++[q2],x.1 ≠ 0→x.1 < n2 + 1:=fun x hx h0=>by
   rcases mem_app3 hx with hx | rfl | rfl
   ·have:=hld1 x hx h0;omega
   ·have:=(qq1.2.2 h0).2.1;omega
   ·have:=(qq2.2.2 h0).2.1;omega
  have hld3:∀ x∈ps++[p1]++[p2]++[q1]++[q2]++[s1]++[s2],x.1 ≠ 0→x.1 < n3 + 1:=fun x hx h0=>by
   rcases mem_app3 hx with hx | rfl | rfl
   ·have:=hld2 x hx h0;omega
   ·have:=(qs1.2.2 h0).2.1;omega
   ·have:=(qs2.2.2 h0).2.1;omega
  have c1:=nStem_len stem loop
  have c2:=nLoop_len stem loop
  have c3:=sufS_len stem loop n.toNat
  have c4:=sufL_len stem loop n.toNat
  have c5:=nStem_len (u++stem) loop
  have c6:=nLoop_len (u++stem) loop
  have c7:=pfxV_len stem loop n
  rw [List.length_append] at c5
  have b0_8:=blt_t (show 0 < n8 by omega)
  have b4_8:=blt_t (show 4 < n8 by omega)
  have b5_8:=blt_t (show 5 < n8 by omega)
  have b6_8:=blt_t (show 6 < n8 by omega)
  have bn1_8:=blt_t (show n1 < n8 by omega)
  have bn2_8:=blt_t (show n2 < n8 by omega)
  have bn3_8:=blt_t (show n3 < n8 by omega)
  have so_8:=qo_8.nm
  have sa_8:=qp1_8.nm
  have sb_8:=qp2_8.nm
  repeat (refine PRun.wpn rfl ?_;simp only [wp,wo_p,wo_r,wo_call,onO_s,pv_t,put_some,pevP,pevR,getP,setP,evsP,PW.cs?,cut0,cutS,List.drop_zero,Option.map_some,Option.bind_some,Nat.zero_le,true_and,x1_8])
  have hwd:=word_q hm hC (n8) (n8) 6 j (ps) p1 p2 H8 (Nat.le_refl _) hB8 (by (try simp only [List.length_append,List.length_cons,List.length_nil]);omega) (qp1_8.qw (by omega) (by omega) hold) (qp2_8.qw (by omega) (by omega) hold) fp
  refine .refl (PToE.mono (PToB.toE hwd (by simp only [nmL,nm_ptr,nm_loc,nm_agg,nm_junk,nm_lit,nm_sz,b0_8,b4_8,b5_8,b6_8,bn1_8,bn2_8,bn3_8,so_8,sa_8,sb_8,Bool.and_self]) (by omega)) ?_)
  rintro r _ ⟨rfl,G1,rfl,hB9,hk9⟩
  have kc9:=hB8.keepC hk9
  have hT9:=hT8.keepC (show n8≤n8 + 1 + 1 + 1 + 1 + 1 by omega) kc9
  have x1_9:=kc9 _ _ _ _ _ _ _ (by omega) (by decide) (by decide) x1_8
  have x2_9:=kc9 _ _ _ _ _ _ _ (by omega) (by decide) (by decide) x2_8
  have x3_9:=kc9 _ _ _ _ _ _ _ (by omega) (by decide) (by decide) x3_8
  have qp1_9:=qp1_8.keepC (show n8≤n8 + 1 + 1 + 1 + 1 + 1 by omega) kc9
  have qp2_9:=qp2_8.keepC (show n8≤n8 + 1 + 1 + 1 + 1 + 1 by omega) kc9
  have qq1_9:=qq1_8.keepC (show n8≤n8 + 1 + 1 + 1 + 1 + 1 by omega) kc9
  have qq2_9:=qq2_8.keepC (show n8≤n8 + 1 + 1 + 1 + 1 + 1 by omega) kc9
  have qs1_9:=qs1_8.keepC (show n8≤n8 + 1 + 1 + 1 + 1 + 1 by omega) kc9
  have qs2_9:=qs2_8.keepC (show n8≤n8 + 1 + 1 + 1 + 1 + 1 by omega) kc9
  have qo_9:=qo_8.keepC (show n8≤n8 + 1 + 1 + 1 + 1 + 1 by omega) kc9
  refine POps.wp ?_
  simp only [wo_nil,setP,tupP]
  refine PRun.gh (Gh.mask mkWtD6 ?_)
  simp only [mkWtD6,↓reduceIte,Bool.false_eq_true,maskP]
  have b0_9:=blt_t (show 0 < n8 + 1 + 1 + 1 + 1 + 1 by omega)
  have b4_9:=blt_t (show 4 < n8 + 1 + 1 + 1 + 1 + 1 by omega)
  have b5_9:=blt_t (show 5 < n8 + 1 + 1 + 1 + 1 + 1 by omega)
  have b6_9:=blt_t (show 6 < n8 + 1 + 1 + 1 + 1 + 1 by omega)
  have bn1_9:=blt_t (show n1 < n8 + 1 + 1 + 1 + 1 + 1 by omega)
  have bn2_9:=blt_t (show n2 < n8 + 1 + 1 + 1 + 1 + 1 by omega)
  have bn3_9:=blt_t (show n3 < n8 + 1 + 1 + 1 + 1 + 1 by omega)
  have so_9:=qo_9.nm
  have sa_9:=qq1_9.nm
  have sb_9:=qq2_9.nm
  repeat (refine PRun.wpn rfl ?_;simp only [wp,wo_p,wo_r,wo_call,onO_s,pv_t,put_some,pevP,pevR,getP,setP,evsP,PW.cs?,cut0,cutS,List.drop_zero,Option.map_some,Option.bind_some,Nat.zero_le,true_and,x2_9])
  have hwd:=word_q hm hC (n8 + 1 + 1 + 1 + 1 + 1) (n8 + 1 + 1 + 1 + 1 + 1) 6 (n8 + 1 + 1 + 1 + 1) (ps++[p1]++[p2]) q1 q2 G1 (Nat.le_refl _) hB9 (by (try simp only [List.length_append,List.length_cons,List.length_nil]);omega) (qq1_9.qw (by omega) (by omega) hld1) (qq2_9.qw (by omega) (by omega) hld1) fq
  refine .refl (PToE.mono (PToB.toE hwd (by simp only [nmL,nm_ptr,nm_loc,nm_agg,nm_junk,nm_lit,nm_sz,b0_9,b4_9,b5_9,b6_9,bn1_9,bn2_9,bn3_9,so_9,sa_9,sb_9,Bool.and_self]) (by omega)) ?_)
  rintro r _ ⟨rfl,G2,rfl,hB10,hk10⟩
  have kc10:=hB9.keepC hk10
  have hT10:=hT9.keepC (show n8 + 1 + 1 + 1 + 1 + 1≤n8 + 1 + 1 + 1 + 1 + 1 + 1 + 1 + 1 + 1 + 1 by omega) kc10
  have x1_10:=kc10 _ _ _ _ _ _ _ (by omega) (by decide) (by decide) x1_9
  have x2_10:=kc10 _ _ _ _ _ _ _ (by omega) (by decide) (by decide) x2_9
  have x3_10:=kc10 _ _ _ _ _ _ _ (by omega) (by decide) (by decide) x3_9
  have qp1_10:=qp1_9.keepC (show n8 + 1 + 1 + 1 + 1 + 1≤n8 + 1 + 1 + 1 + 1 + 1 + 1 + 1 + 1 + 1 + 1 by omega) kc10
  have qp2_10:=qp2_9.keepC (show n8 + 1 + 1 + 1 + 1 + 1≤n8 + 1 + 1 + 1 + 1 + 1 + 1 + 1 + 1 + 1 + 1 by omega) kc10
  have qq1_10:=qq1_9.keepC (show n8 + 1 + 1 + 1 + 1 + 1≤n8 + 1 + 1 + 1 + 1 + 1 + 1 + 1 + 1 + 1 + 1 by omega) kc10
  have qq2_10:=qq2_9.keepC (show n8 + 1 + 1 + 1 + 1 + 1≤n8 + 1 + 1 + 1 + 1 + 1 + 1 + 1 + 1 + 1 + 1 by omega) kc10
  have qs1_10:=qs1_9.keepC (show n8 + 1 + 1 + 1 + 1 + 1≤n8 + 1 + 1 + 1 + 1 + 1 + 1 + 1 + 1 + 1 + 1 by omega) kc10
  have qs2_10:=qs2_9.keepC (show n8 + 1 + 1 + 1 + 1 + 1≤n8 + 1 + 1 + 1 + 1 + 1 + 1 + 1 + 1 + 1 + 1 by omega) kc10
  have qo_10:=qo_9.keepC (show n8 + 1 + 1 + 1 + 1 + 1≤n8 + 1 + 1 + 1 + 1 + 1 + 1 + 1 + 1 + 1 + 1 by omega) kc10
  refine POps.wp ?_
  simp only [wo_nil,setP,tupP]
  refine PRun.gh (Gh.mask mkWtD6 ?_)
  simp only [mkWtD6,↓reduceIte,Bool.false_eq_true,maskP]
  have b0_10:=blt_t (show 0 < n8 + 1 + 1 + 1 + 1 + 1 + 1 + 1 + 1 + 1 + 1 by omega)
  have b4_10:=blt_t (show 4 < n8 + 1 + 1 + 1 + 1 + 1 + 1 + 1 + 1 + 1 + 1 by omega)
  have b5_10:=blt_t (show 5 < n8 + 1 + 1 + 1 + 1 + 1 + 1 + 1 + 1 + 1 + 1 by omega)
  have b6_10:=blt_t (show 6 < n8 + 1 + 1 + 1 + 1 + 1 + 1 + 1 + 1 + 1 + 1 by omega)
  have bn1_10:=blt_t (show n1 < n8 + 1 + 1 + 1 + 1 + 1 + 1 + 1 + 1 + 1 + 1 by omega)
  have bn2_10:=blt_t (show n2 < n8 + 1 + 1 + 1 + 1 + 1 + 1 + 1 + 1 + 1 + 1 by omega)
  have bn3_10:=blt_t (show n3 < n8 + 1 + 1 + 1 + 1 + 1 + 1 + 1 + 1 + 1 + 1 by omega)
  have so_10:=qo_10.nm
  have sa_10:=qs1_10.nm
  have sb_10:=qs2_10.nm
  repeat (refine PRun.wpn rfl ?_;simp only [wp,wo_p,wo_r,wo_call,onO_s,pv_t,put_some,pevP,pevR,getP,setP,evsP,PW.cs?,cut0,cutS,List.drop_zero,Option.map_some,Option.bind_some,Nat.zero_le,true_and,x3_10])
  have hwd:=word_q hm hC (n8 + 1 + 1 + 1 + 1 + 1 + 1 + 1 + 1 + 1 + 1) (n8 + 1 + 1 + 1 + 1 + 1 + 1 + 1 + 1 + 1 + 1) 6 (n8 + 1 + 1 + 1 + 1 + 1 + 1 + 1 + 1 + 1) (ps++[p1]++[p2]++[q1]++[q2]) s1 s2 G2 (Nat.le_refl _) hB10 (by (try simp only [List.length_append,List.length_cons,List.length_nil]);omega) (qs1_10.qw (by omega) (by omega) hld2) (qs2_10.qw (by omega) (by omega) hld2) fs
  refine .refl (PToE.mono (PToB.toE hwd (by simp only [nmL,nm_ptr,nm_loc,nm_agg,nm_junk,nm_lit,nm_sz,b0_10,b4_10,b5_10,b6_10,bn1_10,bn2_10,bn3_10,so_10,sa_10,sb_10,Bool.and_self]) (by omega)) ?_)
  rintro r _ ⟨rfl,G3,rfl,hB11,hk11⟩
  have kc11:=hB10.keepC hk11
  have hT11:=hT10.keepC (show n8 + 1 + 1 + 1 + 1 + 1 + 1 + 1 + 1 + 1 + 1≤n8 + 1 + 1 + 1 + 1 + 1 + 1 + 1 + 1 + 1 + 1 + 1 + 1 + 1 + 1 + 1 by omega) kc11
  have x1_11:=kc11 _ _ _ _ _ _ _ (by omega) (by decide) (by decide) x1_10
  have x2_11:=kc11 _ _ _ _ _ _ _ (by omega) (by decide) (by decide) x2_10
  have x3_11:=kc11 _ _ _ _ _ _ _ (by omega) (by decide) (by decide) x3_10
  have qp1_11:=qp1_10.keepC (show n8 + 1 + 1 + 1 + 1 + 1 + 1 + 1 + 1 + 1 + 1≤n8 + 1 + 1 + 1 + 1 + 1 + 1 + 1 + 1 + 1 + 1 + 1 + 1 + 1 + 1 + 1 by omega) kc11
  have qp2_11:=qp2_10.keepC (show n8 + 1 + 1 + 1 + 1 + 1 + 1 + 1 + 1 + 1 + 1≤n8 + 1 + 1 + 1 + 1 + 1 + 1 + 1 + 1 + 1 + 1 + 1 + 1 + 1 + 1 + 1 by omega) kc11
  have qq1_11:=qq1_10.keepC (show n8 + 1 + 1 + 1 + 1 + 1 + 1 + 1 + 1 + 1 + 1≤n8 + 1 + 1 + 1 + 1 + 1 + 1 + 1 + 1 + 1 + 1 + 1 + 1 + 1 + 1 + 1 by omega) kc11
  have qq2_11:=qq2_10.keepC (show n8 + 1 + 1 + 1 + 1 + 1 + 1 + 1 + 1 + 1 + 1≤n8 + 1 + 1 + 1 + 1 + 1 + 1 + 1 + 1 + 1 + 1 + 1 + 1 + 1 + 1 + 1 by omega) kc11
  have qs1_11:=qs1_10.keepC (show n8 + 1 + 1 + 1 + 1 + 1 + 1 + 1 + 1 + 1 + 1≤n8 + 1 + 1 + 1 + 1 + 1 + 1 + 1 + 1 + 1 + 1 + 1 + 1 + 1 + 1 + 1 by omega) kc11
  have qs2_11:=qs2_10.keepC (show n8 + 1 + 1 + 1 + 1 + 1 + 1 + 1 + 1 + 1 + 1≤n8 + 1 + 1 + 1 + 1 + 1 + 1 + 1 + 1 + 1 + 1 + 1 + 1 + 1 + 1 + 1 by omega) kc11
  have qo_11:=qo_10.keepC (show n8 + 1 + 1 + 1 + 1 + 1 + 1 + 1 + 1 + 1 + 1≤n8 + 1 + 1 + 1 + 1 + 1 + 1 + 1 + 1 + 1 + 1 + 1 + 1 + 1 + 1 + 1 by omega) kc11
  refine POps.wp ?_
  simp only [wo_nil,setP,tupP]
  refine PRun.gh (Gh.mask mkWtD6 ?_)
  simp only [mkWtD6,↓reduceIte,Bool.false_eq_true,maskP]
  have b0_11:=blt_t (show 0 < n8 + 1 + 1 + 1 + 1 + 1 + 1 + 1 + 1 + 1 + 1 + 1 + 1 + 1 + 1 + 1 by omega)
  have b4_11:=blt_t (show 4 < n8 + 1 + 1 + 1 + 1 + 1 + 1 + 1 + 1 + 1 + 1 + 1 + 1 + 1 + 1 + 1 by omega)
  have b5_11:=blt_t (show 5 < n8 + 1 + 1 + 1 + 1 + 1 + 1 + 1 + 1 + 1 + 1 + 1 + 1 + 1 + 1 + 1 by omega)
  have b6_11:=blt_t (show 6 < n8 + 1 + 1 + 1 + 1 + 1 + 1 + 1 + 1 + 1 + 1 + 1 + 1 + 1 + 1 + 1 by omega)
  have bn1_11:=blt_t (show n1 < n8 + 1 + 1 + 1 + 1 + 1 + 1 + 1 + 1 + 1 + 1 + 1 + 1 + 1 + 1 + 1 by omega)
  have bn2_11:=blt_t (show n2 < n8 + 1 + 1 + 1 + 1 + 1 + 1 + 1 + 1 + 1 + 1 + 1 + 1 + 1 + 1 + 1 by omega)
  have bn3_11:=blt_t (show n3 < n8 + 1 + 1 + 1 + 1 + 1 + 1 + 1 + 1 + 1 + 1 + 1 + 1 + 1 + 1 + 1 by omega)
  have so_11:=qo_11.nm
  repeat (refine PRun.wpn rfl ?_;simp only [wp,wo_p,wo_call,onO_s,pv_t,put_some,pevP,getP,setP,evsP,Nat.zero_le,true_and])
  have hwd:=letters_q hm hC (n8 + 1 + 1 + 1 + 1 + 1 + 1 + 1 + 1 + 1 + 1 + 1 + 1 + 1 + 1 + 1) (n8 + 1 + 1 + 1 + 1 + 1 + 1 + 1 + 1 + 1 + 1 + 1 + 1 + 1 + 1 + 1) 6 (n8 + 1 + 1 + 1 + 1 + 1 + 1 + 1 + 1 + 1 + 1 + 1 + 1 + 1 + 1) (ps++[p1]++[p2]++[q1]++[q2]++[s1]++[s2]) o G3 (Nat.le_refl _) hB11 (by (try simp only [List.length_append,List.length_cons,List.length_nil]);omega) (qo_11.qw (by omega) (by omega) hld3)
  refine .refl (PToE.mono (PToB.toE hwd (by simp only [nmL,nm_ptr,nm_loc,nm_junk,nm_lit,nm_sz,b0_11,b4_11,b5_11,b6_11,bn1_11,bn2_11,bn3_11,so_11,Bool.and_self]) (by omega)) ?_)
  rintro r _ ⟨rfl,G4,rfl,hB12,hk12⟩
  have kc12:=hB11.keepC hk12
  have hT12:=hT11.keepC (show n8 + 1 + 1 + 1 + 1 + 1 + 1 + 1 + 1 + 1 + 1 + 1 + 1 + 1 + 1 + 1≤n8 + 1 + 1 + 1 + 1 + 1 + 1 + 1 + 1 + 1 + 1 + 1 + 1 + 1 + 1 + 1 + 1 + 1 by omega) kc12
  have w1:IntKind.i64.wrap (((k:Nat):Int) + 1)=((k + 1:Nat):Int):=by rw [wrap64 (by omega) (by omega)];omega
  refine POps.wp ?_
  simp only [wo_nil,setP,tupP]
  repeat (refine PRun.wpn rfl ?_;simp only [wp,wo_nil,wo_p,onO_s,pv_t,pv_int,put_some,bi_add,pevP,getP,setP,Option.map_some,w1])
  refine Gh.mask mkWtD5 ?_
  exact ⟨2 - (k + 1),by omega,k + 1,_,_,G4,_,rfl,by omega,rfl,rfl,by simp only [List.length_append,List.length_cons,List.length_nil];omega,hT12,hB12⟩
 ·obtain rfl:k=2:=by omega
  have hlt':¬ (2:Int) < 2:=by omega
  have hn0:=hT0.n
  have hO0:=hT0.O
  have hW0:=hT0.W
  repeat (refine PRun.wpn rfl ?_;simp only [wp,wo_nil,wo_p,wo_r,wo_call,onO_s,pv_t,pv_int,put_some,bi_lss,pevP,pevR,getP,setP,evsP,PW.cs?,cut0,cutS,List.drop_zero,Option.map_some,Option.bind_some,Nat.zero_le,nc2,true_and,↓reduceIte,Nat.reduceSub,Bool.false_eq_true,ltB_f hlt',hO0,hW0])
  refine .refl (PTo.toE (whole_38 hm hC stem loop (by omega) (by omega) n0 1 2 H0 hT0.S hT0.L fun x y=>?_) (Nat.zero_le _))
  have hkx:∀ id o,id < n0→look H0 id=some o→look ((n0 + 1,x)::(n0,y)::H0) id=some o:=fun id o hi ho=>look_push (look_push ho hi) (by omega)
  generalize ((n0 + 1,x)::(n0,y)::H0)=H1 at hkx ⊢
  have hT1:=hT0.keep (show n0≤n0 + 1 + 1 by omega) hkx
  have hB1:=hB0.keep (show n0≤n0 + 1 + 1 by omega) hkx
  have hO1:=hT1.O
  refine POps.wp ?_
  simp only [wo_p,wo_call,wo_g,beq_self_eq_true,onO_s,onG_t,wanted_g,wantB_b,pv_t,put_some,pevP,getP,setP,evsP,Nat.zero_le,true_and]
  refine .refl (PTo.toE (whole_39 hm hC u (by omega) (n0 + 1 + 1) 5 H1 hT1.U ?_) (Nat.zero_le _))
  refine POps.wp ?_
  simp only [wo_nil,wo_p,onO_s,pv_t,put_some,pevP,getP,setP]
  repeat (refine PRun.wpn rfl ?_;simp only [wp,wo_r,wo_call,onO_s,pv_t,put_some,pevR,getP,setP,evsP,PW.cs?,cut0,cutS,List.drop_zero,Option.map_some,Option.bind_some,Nat.zero_le,true_and,hO1])
  refine .refl (PTo.toE (spoil_40 hm hC stem.length loop.length (by omega) (by omega) (n0 + 1 + 1) 1 2 H1 (stem++marks) (loop++marks) (by rw [List.length_append];rfl) (by rw [List.length_append];rfl) hT1.S.lt hT1.L.lt (by decide) hT1.S.at_ hT1.L.at_ fun H2 k1 k2 k3=>?_) (Nat.zero_le _))
  refine POps.wp ?_
  simp only [wo_nil,setP,tupP]
  repeat (refine PRun.wpn rfl ?_;simp only [wp,wo_p,wo_call,onO_s,pv_t,put_some,pevP,getP,setP,evsP,Nat.zero_le,true_and])
  refine .refl (PTo.toE (spoil_41 hm hC u.length (by omega) (n0 + 1 + 1 + 1) 5 H2 (u++marks) (by rw [List.length_append];rfl) (k3 5 _ hT1.U.lt (by decide) (by decide) hT1.U.at_) fun H3 m1 m2=>?_) (Nat.zero_le _))
  refine POps.wp ?_
  simp only [wo_nil,setP,tupP]
  refine PRun.gh (Gh.mask (false::false::false::true::false::false::false::false::false::false::false::true::false::true::true::true::false::false::false::false::false::false::false::false::false::true::false::false::false::false::false::false::false::false::false::false::false::false::false::false::false::false::false::false::false::false::false::false::false::false::false::false::false::false::false::false::false::false::false::false::false::false::false::false::false::false::false::false::false::false::false::false::false::false::false::false::false::false::false::false::false::false::false::false::false::false::false::false::false::false::false::false::false::false::false::false::false::false::false::false::false::false::false::false::false::false::false::false::false::false::false::false::false::false::false::false::false::false::false::false::false::false::false::false::false::false::false::false::false::false::false::false::false::false::false::false::false::false::false::false::false::false::false::false::false::false::false::false::false::false::false::false::false::false::false::false::false::false::false::false::false::false::false::false::false::false::false::false::false::false::false::false::false::false::false::false::false::false::false::false::false::false::false::false::false::false::false::false::false::false::false::false::false::false::false::false::false::false::false::false::false::false::false::false::false::[]) ?_)
  simp only [↓reduceIte,Bool.false_eq_true,maskP]
  have hB3:BookQ H3 (n0 + 1 + 1 + 1) 6 j ps:=hB1.keep6 (by omega) fun id o h6 hi ho=>m2 id o (by omega) (k3 id o hi (by omega) (by omega) ho)
  have hT3:TB H3 (n0 + 1 + 1 + 1) (List.replicate stem.length 60003) (List.replicate 2 60003) (List.replicate loop.length 60003) (List.replicate 2 60003) (List.replicate u.length 60003) (List.replicate 2 60003) [.sz (L16 stem) stem.length,.sz (L16 loop) loop.length] [.loc 1 0 stem.length (stem.length + 2),.loc 2 0 loop.length (loop.length + 2)]:=
   ⟨by omega,m2 0 _ (by decide) (k3 0 _ (by omega) (by decide) (by decide) hT1.W),m2 4 _ (by decide) (k3 4 _ (by omega) (by decide) (by decide) hT1.O),
    ⟨by omega,by decide,by rw [← rep_split];exact m2 1 _ (by decide) k1⟩,⟨by omega,by decide,by rw [← rep_split];exact m2 2 _ (by decide) k2⟩,⟨by omega,by decide,by rw [← rep_split];exact m1⟩⟩
  have e1:(List.replicate stem.length (60003:Int)).length=stem.length:=List.length_replicate
  have e2:(List.replicate loop.length (60003:Int)).length=loop.length:=List.length_replicate
  have e3:(List.replicate u.length (60003:Int)).length=u.length:=List.length_replicate
  have v1:=rep_w16 stem.length
  have v2:=rep_w16 loop.length
  generalize List.replicate stem.length (60003:Int)=S at hT3 e1 v1
  generalize List.replicate loop.length (60003:Int)=L at hT3 e2 v2
  generalize List.replicate u.length (60003:Int)=U at hT3 e3
  rw [← e1,← e2] at hT3
  have hfin:=tells_tail hm hC hI hD S L U _ _ _ n r3 r3' (by omega) (by omega) (by omega) v1 v2 (n0 + 1 + 1 + 1) j H3 ps [.sz (L16 stem) S.length,.sz (L16 loop) L.length] hT3 hB3 (fun e=>by rw [e] at hps;simp at hps) (by omega)
  rw [e3] at hfin
  exact hfin
end
end Go.Proofs.YtkldgoapompinaaDoor.Ai
