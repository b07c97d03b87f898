/- A PART OF THE PROOF: a step of the proof that the law's code does what its contracts say, by an interpreter of the program's functions that is proved to be sound. -/
import Derived.Test.YtnpoloachkcadaaGreatDoorPv4
import Derived.Test.YtnpoloachkcadaaGreatDoorPuB
namespace Go.Proofs.YtnpoloachkcadaaGreatDoor.Ai
set_option linter.unusedSimpArgs false
open Go
set_option linter.unusedVariables false
set_option linter.unusedSectionVars false
set_option maxRecDepth 10000
set_option maxHeartbeats 2000000
def mkPuC1:List Bool:=(true::false::false::true::false::false::false::false::false::false::false::false::false::false::false::false::false::false::false::false::false::false::false::false::false::false::false::false::false::false::false::false::false::false::false::false::false::false::false::false::false::false::false::false::false::false::false::false::false::false::false::false::false::false::false::false::false::false::false::false::false::false::false::false::false::false::false::false::false::false::false::false::false::false::false::false::false::false::false::false::false::false::false::false::false::false::false::false::false::false::false::false::false::false::false::false::false::false::false::false::false::false::false::false::false::false::false::false::false::false::false::false::false::false::false::false::false::false::false::false::false::false::false::false::false::false::false::false::false::false::false::[])
def mkPuC2:List Bool:=(true::false::false::true::true::false::false::false::false::false::false::false::false::false::false::false::false::false::false::false::false::false::false::false::false::false::false::false::false::false::false::false::false::false::false::false::false::false::false::false::false::false::false::false::false::false::false::false::false::false::false::false::false::false::false::false::false::false::false::false::false::false::false::false::false::false::false::false::false::false::false::false::false::false::false::false::false::false::false::false::false::false::false::false::false::false::false::false::false::false::false::false::false::false::false::false::false::false::false::false::false::false::false::false::false::false::false::false::false::false::false::false::false::false::false::false::false::false::false::false::false::false::false::false::false::false::false::false::false::false::false::[])
def mkPuC3:List Bool:=(true::false::false::false::false::true::true::false::false::false::false::false::false::false::false::false::false::false::false::false::false::false::false::false::false::false::false::false::false::false::false::false::false::false::false::false::false::false::false::false::false::false::false::false::false::false::false::false::false::false::false::false::false::false::false::false::false::false::false::false::false::false::false::false::false::false::false::false::false::false::false::false::false::false::false::false::false::false::false::false::false::false::false::false::false::false::false::false::false::false::false::false::false::false::false::false::false::false::false::false::false::false::false::false::false::false::false::false::false::false::false::false::false::false::false::false::false::false::false::false::false::false::false::false::false::false::false::false::false::false::false::[])
def mkPuC4:List Bool:=(true::false::false::false::false::true::true::true::true::false::false::false::false::false::false::false::false::false::false::false::false::false::false::false::false::false::false::false::false::false::false::false::false::false::false::false::false::false::false::false::false::false::false::false::false::false::false::false::false::false::false::false::false::false::false::false::false::false::false::false::false::false::false::false::false::false::false::false::false::false::false::false::false::false::false::false::false::false::false::false::false::false::false::false::false::false::false::false::false::false::false::false::false::false::false::false::false::false::false::false::false::false::false::false::false::false::false::false::false::false::false::false::false::false::false::false::false::false::false::false::false::false::false::false::false::false::false::false::false::false::false::[])
def mkPuC5:List Bool:=(true::false::false::false::false::true::false::false::false::true::false::false::false::false::false::false::false::false::false::false::false::false::false::false::false::false::false::false::false::false::false::false::false::false::false::false::false::false::false::false::false::false::false::false::false::false::false::false::false::false::false::false::false::false::false::false::false::false::false::false::false::false::false::false::false::false::false::false::false::false::false::false::false::false::false::false::false::false::false::false::false::false::false::false::false::false::false::false::false::false::false::false::false::false::false::false::false::false::false::false::false::false::false::false::false::false::false::false::false::false::false::false::false::false::false::false::false::false::false::false::false::false::false::false::false::false::false::false::false::false::false::[])
def mkPuC6:List Bool:=(true::false::false::false::false::true::false::false::false::true::true::true::false::false::false::false::false::false::false::false::false::false::false::false::false::false::false::false::false::false::false::false::false::false::false::false::false::false::false::false::false::false::false::false::false::false::false::false::false::false::false::false::false::false::false::false::false::false::false::false::false::false::false::false::false::false::false::false::false::false::false::false::false::false::false::false::false::false::false::false::false::false::false::false::false::false::false::false::false::false::false::false::false::false::false::false::false::false::false::false::false::false::false::false::false::false::false::false::false::false::false::false::false::false::false::false::false::false::false::false::false::false::false::false::false::false::false::false::false::false::false::[])
def mkPuC7:List Bool:=(true::false::false::false::false::true::false::false::false::true::true::false::true::false::false::false::false::false::false::false::false::false::false::false::false::false::false::false::false::false::false::false::false::false::false::false::false::false::false::false::false::false::false::false::false::false::false::false::false::false::false::false::false::false::false::false::false::false::false::false::false::false::false::false::false::false::false::false::false::false::false::false::false::false::false::false::false::false::false::false::false::false::false::false::false::false::false::false::false::false::false::false::false::false::false::false::false::false::false::false::false::false::false::false::false::false::false::false::false::false::false::false::false::false::false::false::false::false::false::false::false::false::false::false::false::false::false::false::false::false::false::[])
def mkPuC8:List Bool:=(true::false::false::true::false::false::false::false::false::false::false::false::false::false::false::false::false::false::false::false::false::false::false::false::false::false::false::false::false::false::false::false::false::false::false::false::false::false::false::false::false::false::false::false::false::false::false::false::false::false::false::false::false::false::false::false::false::false::false::false::false::false::false::false::false::false::false::false::false::false::false::false::false::false::false::false::false::false::false::false::false::false::false::false::false::false::false::false::false::false::false::false::false::false::false::false::false::false::false::false::false::false::false::false::false::false::false::false::false::false::false::false::false::false::false::false::false::false::false::false::false::false::false::false::false::false::false::false::false::false::false::false::false::false::false::false::false::false::false::false::false::false::false::false::false::false::false::false::false::false::[])
def mkPuC9:List Bool:=(true::true::false::false::false::false::false::false::false::false::false::false::false::false::false::false::false::false::false::false::false::false::false::false::false::false::false::[])
def mkPuC10:List Bool:=(true::true::false::false::true::false::false::false::false::false::false::false::false::false::false::false::false::false::false::false::false::false::false::false::false::false::false::[])
theorem tmodN' (a b:Nat):((a:Nat):Int).tmod (b:Nat)=((a % b:Nat):Int):=by simp [Int.tmod]
theorem tdivN' (a b:Nat):((a:Nat):Int).tdiv (b:Nat)=((a / b:Nat):Int):=by simp [Int.tdiv]
theorem byteOf_nat' {n:Nat} (h:n < 256):byteOf (.int .u8 (n:Nat))=some (UInt8.ofNat n):=by
 simp only [byteOf]
 rw [if_pos (by omega)];rfl
def mkN (a b:Nat):ByteArray:=⟨⟨[UInt8.ofNat (97 + a % 26),UInt8.ofNat (97 + a / 26 % 26),UInt8.ofNat (97 + a / 676 % 26),UInt8.ofNat (97 + b % 26),UInt8.ofNat (97 + b / 26 % 26)]⟩⟩
def markS (a:Int) (b:Nat):ByteArray:=if 0≤a then mkN a.toNat b else ⟨#[45]⟩++mkN (-a).toNat b
section
variable {C:Ctx} (hm:C.P.follows .mixedOrders=true) (hC:TabOK C.P C.ng C.ts Tryz.tab)
include hm hC
theorem mark_nat (a b:Nat) (ha:a < 2 ^ 60) (hb:b < 2 ^ 60):PFun C 112 [.lit (.int .i64 (a:Nat)),.lit (.int .i64 (b:Nat))] (.lit (.string (mkN a b))):=by
 have h0:=ltB_f (show ¬ ((a:Nat):Int) < 0 by omega)
 unfold mkN
 have ra0:bin .rem (.int .i64 (a:Nat)) (.int .i64 26)=some (.int .i64 ((a % 26:Nat):Int)):=by rw [bi_rem (by decide),show ((a:Nat):Int).tmod 26=_ from tmodN' a 26]
 have qa1:bin .quo (.int .i64 (a:Nat)) (.int .i64 26)=some (.int .i64 ((a / 26:Nat):Int)):=by rw [bi_quo (by decide),show ((a:Nat):Int).tdiv 26=_ from tdivN' a 26,wrap64 (by omega) (by omega)]
 have ra1:bin .rem (.int .i64 ((a / 26:Nat):Int)) (.int .i64 26)=some (.int .i64 ((a / 26 % 26:Nat):Int)):=by rw [bi_rem (by decide),show ((a / 26:Nat):Int).tmod 26=_ from tmodN' (a / 26) 26]
 have qa2:bin .quo (.int .i64 (a:Nat)) (.int .i64 676)=some (.int .i64 ((a / 676:Nat):Int)):=by rw [bi_quo (by decide),show ((a:Nat):Int).tdiv 676=_ from tdivN' a 676,wrap64 (by omega) (by omega)]
 have ra2:bin .rem (.int .i64 ((a / 676:Nat):Int)) (.int .i64 26)=some (.int .i64 ((a / 676 % 26:Nat):Int)):=by rw [bi_rem (by decide),show ((a / 676:Nat):Int).tmod 26=_ from tmodN' (a / 676) 26]
 have rb0:bin .rem (.int .i64 (b:Nat)) (.int .i64 26)=some (.int .i64 ((b % 26:Nat):Int)):=by rw [bi_rem (by decide),show ((b:Nat):Int).tmod 26=_ from tmodN' b 26]
 have qb1:bin .quo (.int .i64 (b:Nat)) (.int .i64 26)=some (.int .i64 ((b / 26:Nat):Int)):=by rw [bi_quo (by decide),show ((b:Nat):Int).tdiv 26=_ from tdivN' b 26,wrap64 (by omega) (by omega)]
 have rb1:bin .rem (.int .i64 ((b / 26:Nat):Int)) (.int .i64 26)=some (.int .i64 ((b / 26 % 26:Nat):Int)):=by rw [bi_rem (by decide),show ((b / 26:Nat):Int).tmod 26=_ from tmodN' (b / 26) 26]
 have hxa0:a % 26 < 26:=Nat.mod_lt _ (by decide)
 have hxa1:a / 26 % 26 < 26:=Nat.mod_lt _ (by decide)
 have hxa2:a / 676 % 26 < 26:=Nat.mod_lt _ (by decide)
 have hxb0:b % 26 < 26:=Nat.mod_lt _ (by decide)
 have hxb1:b / 26 % 26 < 26:=Nat.mod_lt _ (by decide)
 generalize a % 26=xa0 at *
 generalize a / 26 % 26=xa1 at *
 generalize a / 676 % 26=xa2 at *
 generalize b % 26=xb0 at *
 generalize b / 26 % 26=xb1 at *
 generalize a / 26=ya1 at *
 generalize a / 676=ya2 at *
 generalize b / 26=yb1 at *
 have wxa0:IntKind.i64.wrap (97 + ((xa0:Nat):Int))=((97 + xa0:Nat):Int):=by rw [wrap64 (by omega) (by omega)];omega
 have vxa0:IntKind.u8.wrap ((97 + xa0:Nat):Int)=((97 + xa0:Nat):Int):=Int.emod_eq_of_lt (by omega) (by simp only [IntKind.bits];omega)
 have bxa0:byteOf (.int .u8 ((97 + xa0:Nat):Int))=some (UInt8.ofNat (97 + xa0)):=byteOf_nat' (by omega)
 have wxa1:IntKind.i64.wrap (97 + ((xa1:Nat):Int))=((97 + xa1:Nat):Int):=by rw [wrap64 (by omega) (by omega)];omega
 have vxa1:IntKind.u8.wrap ((97 + xa1:Nat):Int)=((97 + xa1:Nat):Int):=Int.emod_eq_of_lt (by omega) (by simp only [IntKind.bits];omega)
 have bxa1:byteOf (.int .u8 ((97 + xa1:Nat):Int))=some (UInt8.ofNat (97 + xa1)):=byteOf_nat' (by omega)
 have wxa2:IntKind.i64.wrap (97 + ((xa2:Nat):Int))=((97 + xa2:Nat):Int):=by rw [wrap64 (by omega) (by omega)];omega
 have vxa2:IntKind.u8.wrap ((97 + xa2:Nat):Int)=((97 + xa2:Nat):Int):=Int.emod_eq_of_lt (by omega) (by simp only [IntKind.bits];omega)
 have bxa2:byteOf (.int .u8 ((97 + xa2:Nat):Int))=some (UInt8.ofNat (97 + xa2)):=byteOf_nat' (by omega)
 have wxb0:IntKind.i64.wrap (97 + ((xb0:Nat):Int))=((97 + xb0:Nat):Int):=by rw [wrap64 (by omega) (by omega)];omega
 have vxb0:IntKind.u8.wrap ((97 + xb0:Nat):Int)=((97 + xb0:Nat):Int):=Int.emod_eq_of_lt (by omega) (by simp only [IntKind.bits];omega)
 have bxb0:byteOf (.int .u8 ((97 + xb0:Nat):Int))=some (UInt8.ofNat (97 + xb0)):=byteOf_nat' (by omega)
 have wxb1:IntKind.i64.wrap (97 + ((xb1:Nat):Int))=((97 + xb1:Nat):Int):=by rw [wrap64 (by omega) (by omega)];omega
 have vxb1:IntKind.u8.wrap ((97 + xb1:Nat):Int)=((97 + xb1:Nat):Int):=Int.emod_eq_of_lt (by omega) (by simp only [IntKind.bits];omega)
 have bxb1:byteOf (.int .u8 ((97 + xb1:Nat):Int))=some (UInt8.ofNat (97 + xb1)):=byteOf_nat' (by omega)
 generalize UInt8.ofNat (97 + xa0)=uxa0 at *
 generalize UInt8.ofNat (97 + xa1)=uxa1 at *
 generalize UInt8.ofNat (97 + xa2)=uxa2 at *
 generalize UInt8.ofNat (97 + xb0)=uxb0 at *
 generalize UInt8.ofNat (97 + xb1)=uxb1 at *
 generalize 97 + xa0=zxa0 at *
 generalize 97 + xa1=zxa1 at *
 generalize 97 + xa2=zxa2 at *
 generalize 97 + xb0=zxb0 at *
 generalize 97 + xb1=zxb1 at *
 refine PFun.body hm hC (show Tryz.tab.get 112=some Tryz.c112 from rfl) rfl ?_
 simp only [SW,Tryz.c112,startP,Nat.reduceAdd,Nat.reduceSub,List.replicate]
 repeat (refine PRun.wpn rfl ?_;simp only [SW,↓reduceIte,reduceCtorEq,h0,ra0,qa1,ra1,qa2,ra2,rb0,qb1,rb1,wxa0,vxa0,bxa0,wxa1,vxa1,bxa1,wxa2,vxa2,bxa2,wxb0,vxb0,bxb0,wxb1,vxb1,bxb1,bytesP])
 exact .refl ⟨_,rfl,.refl _⟩
theorem mkN_size (a b:Nat):(mkN a b).size=5:=rfl
theorem mark_ok (a:Int) (b:Nat) (h1 : -2 ^ 60 < a) (ha:a < 2 ^ 60) (hb:b < 2 ^ 60):PFun C 112 [.lit (.int .i64 a),.lit (.int .i64 (b:Nat))] (.lit (.string (markS a b))):=by
 by_cases h:0≤a
 ·obtain ⟨n,rfl⟩:=Int.eq_ofNat_of_zero_le h
  have:=mark_nat hm hC n b (by omega) hb
  unfold markS
  rw [if_pos h,Int.toNat_natCast]
  exact this
 ·obtain ⟨n,hn⟩:=Int.eq_ofNat_of_zero_le (show 0≤-a by omega)
  have hc:=mark_nat hm hC n b (by omega) hb
  unfold markS
  rw [if_neg h,show (-a).toNat=n by omega]
  have h0:=ltB_t (show a < 0 by omega)
  have hw:IntKind.i64.wrap (0 - a)=((n:Nat):Int):=by rw [wrap64 (by omega) (by omega)];omega
  have hs:=bi_addS (a:=⟨#[45]⟩) (b:=mkN n b) (by rw [mkN_size hm hC];show 1 + 5 < _;omega)
  generalize mkN n b=s at *
  refine PFun.body hm hC (show Tryz.tab.get 112=some Tryz.c112 from rfl) rfl ?_
  simp only [SW,Tryz.c112,startP,Nat.reduceAdd,Nat.reduceSub,List.replicate]
  repeat (refine PRun.wpn rfl ?_;simp only [wp,wo_nil,wo_p,wo_call,onO_s,pv_t,pv_int,pv_str,put_some,bi_lss,pevP,getP,setP,evsP,PW.none,Option.map_some,Nat.zero_le,true_and,↓reduceIte,resPs,resP,tupP,h0,hw])
  refine .refl (PFun.to (hc) rfl (POps.wp ?_))
  simp only [SW,hs]
  repeat (refine PRun.wpn rfl ?_;simp only [wp,or_true,true_and,reduceCtorEq])
  exact .refl ⟨_,rfl,.refl _⟩
end
end Go.Proofs.YtnpoloachkcadaaGreatDoor.Ai
namespace Go.Proofs.YtnpoloachkcadaaGreatDoor.Ai
set_option linter.unusedSimpArgs false
open Go
set_option linter.unusedVariables false
set_option linter.unusedSectionVars false
set_option maxRecDepth 10000
set_option maxHeartbeats 4000000
def slotP (p:Nat × Nat):PV:=if p.2=0 then .lit (.slice none 0 0) else .loc p.1 0 p.2 p.2
theorem slotP_nil {p:Nat × Nat} (h:p.2=0):slotP p = .lit (.slice none 0 0):=by unfold slotP;rw [if_pos h]
theorem slotP_loc {p:Nat × Nat} (h:p.2 ≠ 0):slotP p = .loc p.1 0 p.2 p.2:=by unfold slotP;rw [if_neg h]
def mk1 (i k:Nat):PV:=.lit (.string (markS (i:Nat) (k:Nat)))
def mk2 (i k:Nat):PV:=.lit (.string (markS (-1 - (i:Int)) (k:Nat)))
def mf1 (i k:Nat):List PV:=[.lit (.int .u8 0),mk1 i k,.lit (.slice none 0 0)]
def mf2 (i k:Nat):List PV:=[.lit (.int .u8 0),mk2 i k,.lit (.slice none 0 0)]
def Rdb (H:List (Nat × PObj)) (nx id:Nat) (cs:List PV):Prop:=id < nx∧∃ ty esz ex ret al,look H id=some (.cells cs ty esz ex ret al)
theorem Rdb.push {H:List (Nat × PObj)} {nx id:Nat} {cs:List PV} (h:Rdb H nx id cs) (o:PObj):Rdb ((nx,o)::H) (nx + 1) id cs:=by
 obtain ⟨h1,ty,esz,ex,ret,al,h2⟩:=h
 refine ⟨by omega,ty,esz,ex,ret,al,?_⟩
 simp only [look]
 rw [if_neg (by omega)];exact h2
theorem Rdb.retire {H:List (Nat × PObj)} {nx id c:Nat} {cs cs0:List PV} {ty esz:Nat} {ex r r':Bool} {al al':List Nat} (hc:look H c=some (.cells cs0 ty esz ex r al)) (h:Rdb H nx id cs):Rdb (setO H c (.cells cs0 ty esz ex r' al')) nx id cs:=by
 obtain ⟨h1,ty',esz',ex',ret,al2,h2⟩:=h
 refine ⟨h1,?_⟩
 rw [look_setO]
 split
 ·rename_i e;subst e
  rw [hc] at h2;cases h2
  exact ⟨_,_,_,_,_,by rw [hc];rfl⟩
 ·exact ⟨_,_,_,_,_,h2⟩
theorem look_push {H:List (Nat × PObj)} {nx id:Nat} {o x:PObj} (h:look H id=some x) (hl:id < nx):look ((nx,o)::H) id=some x:=by
 simp only [look];rw [if_neg (by omega)];exact h
structure Lists (H:List (Nat × PObj)) (nx b j:Nat) (ps:List (Nat × Nat)) (Mk:Nat→Nat→Prop):Prop where
 arr:Rdb H nx j (ps.map slotP)
 lst:∀ (i:Nat) (p:Nat × Nat),ps[i]? = some p→p.2 ≠ 0→b≤p.1∧p.1 < nx∧∃ cs ex,cs.length=p.2 * 3∧look H p.1=some (.cells cs 27 3 ex false [])∧∀ k,k < p.2→Mk i k→cs[k * 3 + 1]? = some (mk1 i k)
def Distinct (j:Nat) (ps:List (Nat × Nat)):Prop:=(∀ (i i':Nat) (p p':Nat × Nat),ps[i]? = some p→ps[i']? = some p'→p.2 ≠ 0→p'.2 ≠ 0→p.1=p'.1→i=i')∧∀ (i:Nat) (p:Nat × Nat),ps[i]? = some p→p.2 ≠ 0→p.1 ≠ j
theorem nth_slot {ps:List (Nat × Nat)} {i:Nat} {p:Nat × Nat} (h:ps[i]? = some p):nthP (ps.map slotP) i=some (slotP p):=by
 rw [nthP_eq,List.getElem?_map,h];rfl
def upd3 (cs:List PV) (k:Nat) (v:List PV):List PV:=cs.take (k * 3)++(v++cs.drop (k * 3 + 3))
theorem upd3_len {cs v:List PV} {k n:Nat} (h:cs.length=n * 3) (hv:v.length=3) (hk:k < n):(upd3 cs k v).length=n * 3:=by
 simp only [upd3,List.length_append,List.length_take,List.length_drop,hv,h];omega
theorem upd3_splice {cs v:List PV} {k n:Nat} (h:cs.length=n * 3) (hv:v.length=3) (hk:k < n):spliceP cs (k * 3) v=some (upd3 cs k v):=by
 rw [spliceP_eq cs (k * 3) v (by omega),hv];rfl
theorem upd3_at {cs v:List PV} {k n:Nat} (h:cs.length=n * 3) (hv:v.length=3) (hk:k < n):(upd3 cs k v)[k * 3 + 1]? = v[1]?:=by
 unfold upd3
 rw [List.getElem?_append_right (by rw [List.length_take];omega),List.length_take,Nat.min_eq_left (by omega),List.getElem?_append_left (by omega)]
 congr 1;omega
theorem upd3_ne {cs v:List PV} {k k' n:Nat} (h:cs.length=n * 3) (hv:v.length=3) (hk:k < n) (hne:k' ≠ k):(upd3 cs k v)[k' * 3 + 1]? = cs[k' * 3 + 1]?:=by
 unfold upd3
 by_cases hlt:k' < k
 ·rw [List.getElem?_append_left (by rw [List.length_take];omega),List.getElem?_take_of_lt (by omega)]
 ·rw [List.getElem?_append_right (by rw [List.length_take];omega),List.length_take,Nat.min_eq_left (by omega),List.getElem?_append_right (by omega),List.getElem?_drop]
  congr 1;omega
theorem Lists.mark {H:List (Nat × PObj)} {nx b j:Nat} {ps:List (Nat × Nat)} (hd:Distinct j ps) {i k:Nat} {p:Nat × Nat} (hp:ps[i]? = some p) (hp0:p.2 ≠ 0) (hk:k < p.2) {cs:List PV} {ex:Bool}
  (hc:look H p.1=some (.cells cs 27 3 ex false [])) (hcl:cs.length=p.2 * 3) (h:Lists H nx b j ps fun i' k'=>i' < i∨(i'=i∧k' < k)) :
  Lists (setO H p.1 (.cells (upd3 cs k (mf1 i k)) 27 3 ex false [])) nx b j ps fun i' k'=>i' < i∨(i'=i∧k' < k + 1):=by
 constructor
 ·obtain ⟨h1,ty,esz,ex,ret,al,h2⟩:=h.arr
  exact ⟨h1,ty,esz,ex,ret,al,look_set_ne h2 fun e=>hd.2 i p hp hp0 e.symm⟩
 ·intro i' p' hp' h0
  obtain ⟨g1,g2,cs',ex',g3,g4,g5⟩:=h.lst i' p' hp' h0
  refine ⟨g1,g2,?_⟩
  by_cases he:i'=i
  ·subst he
   rw [hp] at hp';cases hp'
   rw [hc] at g4;cases g4
   refine ⟨upd3 cs k (mf1 i' k),ex,upd3_len hcl rfl hk,by rw [look_setO,if_pos rfl,hc];rfl,fun k' hk' hm=>?_⟩
   by_cases hkk:k'=k
   ·subst hkk;rw [upd3_at hcl rfl hk];rfl
   ·rw [upd3_ne hcl rfl hk hkk]
    exact g5 k' hk' (hm.imp id fun h=>⟨rfl,by have:=h.2;omega⟩)
  ·refine ⟨cs',ex',g3,look_set_ne g4 fun e=>he (hd.1 i' i p' p hp' hp h0 hp0 e),fun k' hk' hm=>g5 k' hk' ?_⟩
   rcases hm with hm | ⟨hm,_⟩
   ·exact .inl hm
   ·exact absurd hm he
theorem Lists.done {H:List (Nat × PObj)} {nx b j:Nat} {ps:List (Nat × Nat)} {i:Nat} {p:Nat × Nat} (hp:ps[i]? = some p) (h:Lists H nx b j ps fun i' k'=>i' < i∨(i'=i∧k' < p.2)):Lists H nx b j ps fun i' _=>i' < i + 1:=
 ⟨h.arr,fun i' p' hp' h0=>by
  obtain ⟨g1,g2,cs,ex,g3,g4,g5⟩:=h.lst i' p' hp' h0
  refine ⟨g1,g2,cs,ex,g3,g4,fun k hk hm=>g5 k hk ?_⟩
  by_cases he:i'=i
  ·subst he;rw [hp] at hp';cases hp';exact .inr ⟨rfl,hk⟩
  ·exact .inl (by omega)⟩
theorem Lists.none {H:List (Nat × PObj)} {nx b j:Nat} {ps:List (Nat × Nat)} {i:Nat} {p:Nat × Nat} (hp:ps[i]? = some p) (h0:p.2=0) (h:Lists H nx b j ps fun i' _=>i' < i):Lists H nx b j ps fun i' _=>i' < i + 1:=
 ⟨h.arr,fun i' p' hp' h0'=>by
  obtain ⟨g1,g2,cs,ex,g3,g4,g5⟩:=h.lst i' p' hp' h0'
  refine ⟨g1,g2,cs,ex,g3,g4,fun k hk hm=>g5 k hk ?_⟩
  by_cases he:i'=i
  ·subst he;rw [hp] at hp';cases hp';exact absurd h0 h0'
  ·show i' < i;omega⟩
structure Long (H:List (Nat × PObj)) (nx b j lv i:Nat) (ps xs:List (Nat × Nat)):Prop where
 bn:b≤nx
 arr:Rdb H nx j (ps.map slotP)
 old:∀ (i':Nat) (p:Nat × Nat),ps[i']? = some p→p.2 ≠ 0→b≤p.1∧∃ cs,Rdb H nx p.1 cs∧cs.length=p.2 * 3∧∀ k,k < p.2→cs[k * 3 + 1]? = some (mk1 i' k)
 live:∀ (i':Nat) (p:Nat × Nat),ps[i']? = some p→p.2 ≠ 0→lv≤i'→∃ cs ex,look H p.1=some (.cells cs 27 3 ex false [])
 xl:xs.length=i
 new:∀ (i':Nat) (p:Nat × Nat),i' < i→ps[i']? = some p→∃ x cs,xs[i']? = some (x,p.2 + 16)∧Rdb H nx x cs∧cs.length=(p.2 + 16) * 3∧(∀ k,k < p.2→cs[k * 3 + 1]? = some (mk1 i' k))∧∀ k,k < 16→cs[(p.2 + k) * 3 + 1]? = some (mk2 i' k)
theorem Long.push {H:List (Nat × PObj)} {nx b j lv i:Nat} {ps xs:List (Nat × Nat)} (h:Long H nx b j lv i ps xs) (o:PObj):Long ((nx,o)::H) (nx + 1) b j lv i ps xs:=
 ⟨by have:=h.bn;omega,h.arr.push o,fun i' p hp h0=>by
  obtain ⟨g0,cs,g1,g2,g3⟩:=h.old i' p hp h0
  exact ⟨g0,cs,g1.push o,g2,g3⟩,fun i' p hp h0 hl=>by
  obtain ⟨cs,ex,g1⟩:=h.live i' p hp h0 hl
  obtain ⟨_,_,g2,_⟩:=h.old i' p hp h0
  exact ⟨cs,ex,look_push g1 g2.1⟩,h.xl,fun i' p hi hp=>by
  obtain ⟨x,cs,g1,g2,g3⟩:=h.new i' p hi hp
  exact ⟨x,cs,g1,g2.push o,g3⟩⟩
theorem Long.retire {H:List (Nat × PObj)} {nx b j lv i c:Nat} {ps xs:List (Nat × Nat)} (h:Long H nx b j lv i ps xs) {cs0:List PV} {ty esz:Nat} {ex r r':Bool} {al al':List Nat} (hc:look H c=some (.cells cs0 ty esz ex r al))
  (hl:∀ (i':Nat) (p:Nat × Nat),ps[i']? = some p→p.2 ≠ 0→lv≤i'→p.1 ≠ c):Long (setO H c (.cells cs0 ty esz ex r' al')) nx b j lv i ps xs:=
 ⟨h.bn,h.arr.retire hc,fun i' p hp h0=>by
  obtain ⟨g0,cs,g1,g2,g3⟩:=h.old i' p hp h0
  exact ⟨g0,cs,g1.retire hc,g2,g3⟩,fun i' p hp h0 hv=>by
  obtain ⟨cs,ex,g1⟩:=h.live i' p hp h0 hv
  exact ⟨cs,ex,look_set_ne g1 (hl i' p hp h0 hv)⟩,h.xl,fun i' p hi hp=>by
  obtain ⟨x,cs,g1,g2,g3⟩:=h.new i' p hi hp
  exact ⟨x,cs,g1,g2.retire hc,g3⟩⟩
theorem Long.later {H:List (Nat × PObj)} {nx b j lv i:Nat} {ps xs:List (Nat × Nat)} (h:Long H nx b j lv i ps xs):Long H nx b j (lv + 1) i ps xs:=
 ⟨h.bn,h.arr,h.old,fun i' p hp h0 hv=>h.live i' p hp h0 (by omega),h.xl,h.new⟩
def Cur (H:List (Nat × PObj)) (nx b c n k i:Nat) (ps:List (Nat × Nat)):Prop:=
 n + k=0∨(b≤c∧c < nx∧∃ cs ex al,cs.length=(n + k) * 3∧look H c=some (.cells cs 27 3 ex false al)∧(∀ k',k' < n→cs[k' * 3 + 1]? = some (mk1 i k'))∧(∀ k',k' < k→cs[(n + k') * 3 + 1]? = some (mk2 i k'))∧∀ (i':Nat) (p:Nat × Nat),ps[i']? = some p→p.2 ≠ 0→i + 1≤i'→p.1 ≠ c)
def Lg (H:List (Nat × PObj)) (nx b jl i:Nat) (xs:List (Nat × Nat)):Prop:=
 i=0∨(b≤jl∧jl < nx∧∃ al,look H jl=some (.cells (xs.map slotP) 25 1 false false al))
theorem Lg.push {H:List (Nat × PObj)} {nx b jl i:Nat} {xs:List (Nat × Nat)} (h:Lg H nx b jl i xs) (o:PObj):Lg ((nx,o)::H) (nx + 1) b jl i xs:=by
 rcases h with h | ⟨h1,h2,al,h3⟩
 ·exact .inl h
 ·exact .inr ⟨h1,by omega,al,look_push h3 h2⟩
theorem Lg.retire {H:List (Nat × PObj)} {nx b jl i c:Nat} {xs:List (Nat × Nat)} (h:Lg H nx b jl i xs) {cs0:List PV} {esz:Nat} {ex r r':Bool} {al al':List Nat} (hc:look H c=some (.cells cs0 27 esz ex r al)):Lg (setO H c (.cells cs0 27 esz ex r' al')) nx b jl i xs:=by
 rcases h with h | ⟨h1,h2,al,h3⟩
 ·exact .inl h
 ·exact .inr ⟨h1,h2,al,look_set_ne h3 fun e=>by subst e;rw [hc] at h3;cases h3⟩
def Keep (b:Nat) (H0 H:List (Nat × PObj)):Prop:=∀ id o,id < b→look H0 id=some o→look H id=some o
theorem Keep.push {b nx:Nat} {H0 H:List (Nat × PObj)} (h:Keep b H0 H) (hb:b≤nx) (o:PObj):Keep b H0 ((nx,o)::H):=fun id x hi hx=>look_push (h id x hi hx) (by omega)
theorem Keep.set {b c:Nat} {H0 H:List (Nat × PObj)} (h:Keep b H0 H) (hb:b≤c) (o:PObj):Keep b H0 (setO H c o):=fun id x hi hx=>look_set_ne (h id x hi hx) (by omega)
structure KeepB (b B nx:Nat) (H0 H:List (Nat × PObj)):Prop where
 keep:Keep b H0 H
 nx:B≤nx
theorem KeepB.push {b B nx:Nat} {H0 H:List (Nat × PObj)} (h:KeepB b B nx H0 H) (hb:b≤nx) (o:PObj):KeepB b B (nx + 1) H0 ((nx,o)::H):=⟨h.keep.push hb o,Nat.le_succ_of_le h.nx⟩
theorem KeepB.set {b B nx c:Nat} {H0 H:List (Nat × PObj)} (h:KeepB b B nx H0 H) (hb:b≤c) (o:PObj):KeepB b B nx H0 (setO H c o):=⟨h.keep.set hb o,h.nx⟩
theorem Long.snoc {H:List (Nat × PObj)} {nx b j lv i c:Nat} {ps xs:List (Nat × Nat)} {p:Nat × Nat} {cs:List PV} (h:Long H nx b j lv i ps xs) (hp:ps[i]? = some p) (hc:Rdb H nx c cs) (hl:cs.length=(p.2 + 16) * 3)
  (h1:∀ k,k < p.2→cs[k * 3 + 1]? = some (mk1 i k)) (h2:∀ k,k < 16→cs[(p.2 + k) * 3 + 1]? = some (mk2 i k)):Long H nx b j lv (i + 1) ps (xs++[(c,p.2 + 16)]):=
 ⟨h.bn,h.arr,h.old,h.live,by rw [List.length_append,h.xl];rfl,fun i' p' hi hp'=>by
  by_cases he:i'=i
  ·subst he
   rw [hp] at hp';cases hp'
   exact ⟨c,cs,by rw [List.getElem?_append_right (by rw [h.xl];omega),h.xl,Nat.sub_self];rfl,hc,hl,h1,h2⟩
  ·obtain ⟨x,cs',g1,g2⟩:=h.new i' p' (by omega) hp'
   exact ⟨x,cs',by rw [List.getElem?_append_left (by rw [h.xl];omega)];exact g1,g2⟩⟩
theorem mark_more {cs:List PV} {n k i:Nat} (hl:cs.length=(n + k) * 3) (h1:∀ k',k' < n→cs[k' * 3 + 1]? = some (mk1 i k')) (h2:∀ k',k' < k→cs[(n + k') * 3 + 1]? = some (mk2 i k')) :
  (∀ k',k' < n→(cs++mf2 i k)[k' * 3 + 1]? = some (mk1 i k'))∧∀ k',k' < k + 1→(cs++mf2 i k)[(n + k') * 3 + 1]? = some (mk2 i k'):=by
 refine ⟨fun k' hk=>?_,fun k' hk=>?_⟩
 ·rw [List.getElem?_append_left (by omega)];exact h1 k' hk
 ·by_cases he:k'=k
  ·subst he;rw [List.getElem?_append_right (by omega),show (n + k') * 3 + 1 - cs.length=1 by omega];rfl
  ·rw [List.getElem?_append_left (by omega)];exact h2 k' (by omega)
section
variable {C:Ctx} (hm:C.P.follows .mixedOrders=true) (hC:TabOK C.P C.ng C.ts Tryz.tab)
include hm hC
theorem own_ok (b B nx j:Nat) (ps:List (Nat × Nat)) (H0:List (Nat × PObj)) (hb:b≤nx) (hB:B≤nx) (hd:Distinct j ps) (hl:ps.length < 2 ^ 38) (hz:∀ (i:Nat) (p:Nat × Nat),ps[i]? = some p→p.2 < 2 ^ 36) (h0:Lists H0 nx b j ps fun _ _=>False) :
  PToB C B 84 [.loc j 0 ps.length ps.length] ⟨nx,H0⟩ fun r π'=>r = .lit (.bool true)∧Keep b H0 π'.heap∧B≤π'.next:=by
 refine PToB.of_body hm hC (show Tryz.tab.get 84=some Tryz.c84 from rfl) ?_
 simp only [SW,Tryz.c84,startP,Nat.reduceAdd,Nat.reduceSub,List.replicate]
 have nb:∀ s:ByteArray,neS s s=false:=fun s=>neS_f rfl
 have z0:=ltB_f (show ¬ (0:Int) < 0 by omega)
 have hbl:Nat.ble B nx=true:=Nat.ble_eq_true_of_le hB
 repeat (refine PRun.wpn rfl ?_;simp only [SW,reduceCtorEq])
 refine PRun.gh (Gh.mask mkPuC1 ?_)
 simp only [mkPuC1,↓reduceIte,Bool.false_eq_true,maskP]
 refine PRun.loopG (fun m t π=>∃ (i:Nat) (H:List (Nat × PObj)),t=(.loc j 0 ps.length ps.length::.junk::.junk::.lit (.int .i64 (i:Nat))::.junk::.junk::.junk::.junk::.junk::.junk::.junk::.junk::.junk::.junk::.junk::.junk::.junk::.junk::.junk::.junk::.junk::.junk::.junk::.junk::.junk::.junk::.junk::.junk::.junk::.junk::.junk::.junk::.junk::.junk::.junk::.junk::.junk::.junk::.junk::.junk::.junk::.junk::.junk::.junk::.junk::.junk::.junk::.junk::.junk::.junk::.junk::.junk::.junk::.junk::.junk::.junk::.junk::.junk::.junk::.junk::.junk::.junk::.junk::.junk::.junk::.junk::.junk::.junk::.junk::.junk::.junk::.junk::.junk::.junk::.junk::.junk::.junk::.junk::.junk::.junk::.junk::.junk::.junk::.junk::.junk::.junk::.junk::.junk::.junk::.junk::.junk::.junk::.junk::.junk::.junk::.junk::.junk::.junk::.junk::.junk::.junk::.junk::.junk::.junk::.junk::.junk::.junk::.junk::.junk::.junk::.junk::.junk::.junk::.junk::.junk::.junk::.junk::.junk::.junk::.junk::.junk::.junk::.junk::.junk::.junk::.junk::.junk::.junk::.junk::.junk::.junk::[])∧i≤ps.length∧m=ps.length - i∧π=⟨nx,H⟩∧Lists H nx b j ps (fun i' _=>i' < i)∧KeepB b B nx H0 H) ?_ ps.length _ _ ⟨0,H0,rfl,by omega,rfl,rfl,⟨h0.arr,fun i p h1 h2=>by
  obtain ⟨g1,g2,cs,ex,g3,g4,g5⟩:=h0.lst i p h1 h2
  exact ⟨g1,g2,cs,ex,g3,g4,fun k _ hk=>absurd hk (by omega)⟩⟩,⟨fun _ _ _ h=>h,hB⟩⟩
 rintro m t π ⟨i,H,rfl,hi,rfl,rfl,hL,hK⟩
 by_cases hlt:(i:Int) < (ps.length:Nat)
 ·obtain ⟨p,hp⟩:∃ p,ps[i]? = some p:=⟨ps[i]'(by omega),List.getElem?_eq_getElem (by omega)⟩
  have hw:IntKind.i64.wrap (((i:Nat):Int) + 1)=((i + 1:Nat):Int):=by rw [wrap64 (by omega) (by omega)];omega
  have hpz:=hz i p hp
  have hn:=nth_slot hp
  obtain ⟨hjn,ty,esz,ex,ret,al,hT⟩:=hL.arr
  by_cases hp0:p.2=0
  ·rw [slotP_nil hp0] at hn
   repeat (refine PRun.wpn rfl ?_;simp only [SW,↓reduceIte,ltB_t hlt])
   refine PRun.gh (Gh.mask mkPuC2 ?_)
   simp only [mkPuC2,↓reduceIte,Bool.false_eq_true,maskP]
   refine PRun.loopG (fun m t π=>∃ k:Nat,k=0∧t=(.loc j 0 ps.length ps.length::.junk::.junk::.lit (.int .i64 (i:Nat))::.lit (.int .i64 (k:Nat))::.junk::.junk::.junk::.junk::.junk::.junk::.junk::.junk::.junk::.junk::.junk::.junk::.junk::.junk::.junk::.junk::.junk::.junk::.junk::.junk::.junk::.junk::.junk::.junk::.junk::.junk::.junk::.junk::.junk::.junk::.junk::.junk::.junk::.junk::.junk::.junk::.junk::.junk::.junk::.junk::.junk::.junk::.junk::.junk::.junk::.junk::.junk::.junk::.junk::.junk::.junk::.junk::.junk::.junk::.junk::.junk::.junk::.junk::.junk::.junk::.junk::.junk::.junk::.junk::.junk::.junk::.junk::.junk::.junk::.junk::.junk::.junk::.junk::.junk::.junk::.junk::.junk::.junk::.junk::.junk::.junk::.junk::.junk::.junk::.junk::.junk::.junk::.junk::.junk::.junk::.junk::.junk::.junk::.junk::.junk::.junk::.junk::.junk::.junk::.junk::.junk::.junk::.junk::.junk::.junk::.junk::.junk::.junk::.junk::.junk::.junk::.junk::.junk::.junk::.junk::.junk::.junk::.junk::.junk::.junk::.junk::.junk::.junk::.junk::.junk::.junk::[])∧π=⟨nx,H⟩) ?_ 0 _ _ ⟨0,rfl,rfl,rfl⟩
   rintro m t π ⟨k,rfl,rfl,rfl⟩
   repeat (refine PRun.wpn rfl ?_;simp only [SW,↓reduceIte,hT,hlt,hn,z0,hw])
   refine Gh.mask mkPuC1 ?_
   exact ⟨ps.length - (i + 1),by omega,i + 1,H,rfl,by omega,rfl,rfl,hL.none hp hp0,hK⟩
  ·rw [slotP_loc hp0] at hn
   repeat (refine PRun.wpn rfl ?_;simp only [SW,↓reduceIte,ltB_t hlt])
   refine PRun.gh (Gh.mask mkPuC2 ?_)
   simp only [mkPuC2,↓reduceIte,Bool.false_eq_true,maskP]
   refine PRun.loopG (fun m t π=>∃ (k:Nat) (H:List (Nat × PObj)),t=(.loc j 0 ps.length ps.length::.junk::.junk::.lit (.int .i64 (i:Nat))::.lit (.int .i64 (k:Nat))::.junk::.junk::.junk::.junk::.junk::.junk::.junk::.junk::.junk::.junk::.junk::.junk::.junk::.junk::.junk::.junk::.junk::.junk::.junk::.junk::.junk::.junk::.junk::.junk::.junk::.junk::.junk::.junk::.junk::.junk::.junk::.junk::.junk::.junk::.junk::.junk::.junk::.junk::.junk::.junk::.junk::.junk::.junk::.junk::.junk::.junk::.junk::.junk::.junk::.junk::.junk::.junk::.junk::.junk::.junk::.junk::.junk::.junk::.junk::.junk::.junk::.junk::.junk::.junk::.junk::.junk::.junk::.junk::.junk::.junk::.junk::.junk::.junk::.junk::.junk::.junk::.junk::.junk::.junk::.junk::.junk::.junk::.junk::.junk::.junk::.junk::.junk::.junk::.junk::.junk::.junk::.junk::.junk::.junk::.junk::.junk::.junk::.junk::.junk::.junk::.junk::.junk::.junk::.junk::.junk::.junk::.junk::.junk::.junk::.junk::.junk::.junk::.junk::.junk::.junk::.junk::.junk::.junk::.junk::.junk::.junk::.junk::.junk::.junk::.junk::.junk::[])∧k≤p.2∧m=p.2 - k∧π=⟨nx,H⟩∧Lists H nx b j ps (fun i' k'=>i' < i∨(i'=i∧k' < k))∧KeepB b B nx H0 H) ?_ p.2 _ _ ⟨0,H,rfl,by omega,rfl,rfl,⟨hL.arr,fun i' p' h1 h2=>by
    obtain ⟨g1,g2,cs,ex,g3,g4,g5⟩:=hL.lst i' p' h1 h2
    exact ⟨g1,g2,cs,ex,g3,g4,fun k hk hm=>g5 k hk (by omega)⟩⟩,hK⟩
   clear hL hK hT hjn ty esz ex ret al
   rintro m t π ⟨k,H,rfl,hk,rfl,rfl,hL,hK⟩
   obtain ⟨hjn,ty,esz,ex,ret,al,hT⟩:=hL.arr
   by_cases hlk:(k:Int) < (p.2:Nat)
   ·obtain ⟨g1,g2,cs,ex',g3,g4,_⟩:=hL.lst i p hp hp0
    have hmk:=mark_ok hm hC (i:Nat) k (by omega) (by omega) (by omega)
    have hsp:=upd3_splice (v:=mf1 i k) g3 rfl (show k < p.2 by omega)
    have hmf:mf1 i k=[.lit (.int .u8 0),.lit (.string (markS (i:Nat) k)),.lit (.slice none 0 0)]:=rfl
    rw [hmf] at hsp
    have hwk:IntKind.i64.wrap (((k:Nat):Int) + 1)=((k + 1:Nat):Int):=by rw [wrap64 (by omega) (by omega)];omega
    have l1:=ltN_t hjn
    have l2:=ltN_t g2
    repeat (refine PRun.wpn rfl ?_;simp only [SW,↓reduceIte,hT,hlt,hn,ltB_t hlk])
    refine PDraw.stage hB rfl ?_
    try dsimp only
    simp only [SW,↓reduceIte,Nat.reduceAdd,hT,hlt,hn,l1]
    refine PDE.pure hmk rfl ?_
    refine PDraw.stage hB rfl ?_
    try dsimp only
    simp only [SW,↓reduceIte,hlk]
    refine PDE.ev hB ?_
    simp only [SW,↓reduceIte,Nat.reduceAdd,g4,hsp]
    refine PDraw.last hB rfl ?_
    try dsimp only
    simp only [wx_nil]
    repeat (refine PRun.wpn rfl ?_;simp only [SW,hwk])
    refine Gh.mask mkPuC2 ?_
    exact ⟨p.2 - (k + 1),by omega,k + 1,_,rfl,by omega,rfl,rfl,hL.mark hd hp hp0 (by omega) g4 g3,hK.set g1 _⟩
   ·repeat (refine PRun.wpn rfl ?_;simp only [SW,↓reduceIte,hT,hlt,hn,ltB_f hlk,hw])
    refine Gh.mask mkPuC1 ?_
    obtain rfl:k=p.2:=by omega
    exact ⟨ps.length - (i + 1),by omega,i + 1,H,rfl,by omega,rfl,rfl,hL.done hp,hK⟩
 ·obtain rfl:i=ps.length:=by omega
  repeat (refine PRun.wpn rfl ?_;simp only [SW,↓reduceIte,reduceCtorEq,ltB_f hlt])
  refine PRun.gh (Gh.mask mkPuC3 ?_)
  simp only [mkPuC3,↓reduceIte,Bool.false_eq_true,maskP]
  refine PRun.loopG (fun m t π=>∃ (i nx jl:Nat) (H:List (Nat × PObj)) (xs:List (Nat × Nat)),t=(.loc j 0 ps.length ps.length::.junk::.junk::.junk::.junk::slotP (jl,i)::.lit (.int .i64 (i:Nat))::.junk::.junk::.junk::.junk::.junk::.junk::.junk::.junk::.junk::.junk::.junk::.junk::.junk::.junk::.junk::.junk::.junk::.junk::.junk::.junk::.junk::.junk::.junk::.junk::.junk::.junk::.junk::.junk::.junk::.junk::.junk::.junk::.junk::.junk::.junk::.junk::.junk::.junk::.junk::.junk::.junk::.junk::.junk::.junk::.junk::.junk::.junk::.junk::.junk::.junk::.junk::.junk::.junk::.junk::.junk::.junk::.junk::.junk::.junk::.junk::.junk::.junk::.junk::.junk::.junk::.junk::.junk::.junk::.junk::.junk::.junk::.junk::.junk::.junk::.junk::.junk::.junk::.junk::.junk::.junk::.junk::.junk::.junk::.junk::.junk::.junk::.junk::.junk::.junk::.junk::.junk::.junk::.junk::.junk::.junk::.junk::.junk::.junk::.junk::.junk::.junk::.junk::.junk::.junk::.junk::.junk::.junk::.junk::.junk::.junk::.junk::.junk::.junk::.junk::.junk::.junk::.junk::.junk::.junk::.junk::.junk::.junk::.junk::.junk::[])∧i≤ps.length∧m=ps.length - i∧π=⟨nx,H⟩∧Long H nx b j i i ps xs∧Lg H nx b jl i xs∧KeepB b B nx H0 H) ?_ ps.length _ _ ⟨0,nx,0,H,[],rfl,by omega,rfl,rfl,⟨hb,hL.arr,fun i' p h1 h2=>by
   obtain ⟨g1,g2,cs,ex,g3,g4,g5⟩:=hL.lst i' p h1 h2
   exact ⟨g1,cs,⟨g2,_,_,_,_,_,g4⟩,g3,fun k hk=>g5 k hk (List.getElem?_eq_some_iff.1 h1).1⟩,fun i' p h1 h2 _=>by
   obtain ⟨g1,g2,cs,ex,g3,g4,g5⟩:=hL.lst i' p h1 h2
   exact ⟨cs,ex,g4⟩,rfl,fun i' p h=>by omega⟩,.inl rfl,hK⟩
  clear hL hK hi hlt H h0
  clear hbl hb hB
  clear nx
  rintro m t π ⟨i,nx,jl,H,xs,rfl,hi,rfl,rfl,hL,hG,hK⟩
  have hbn:=hL.bn
  have hBn:=hK.nx
  have hb0:Nat.ble B nx=true:=Nat.ble_eq_true_of_le hBn
  have hb1:Nat.ble B (nx + 1)=true:=Nat.ble_eq_true_of_le (by omega)
  have hb2:Nat.ble B (nx + 1 + 1)=true:=Nat.ble_eq_true_of_le (by omega)
  obtain ⟨hjn,ty,esz,ex,ret,al,hT⟩:=hL.arr
  by_cases hlt:(i:Int) < (ps.length:Nat)
  ·obtain ⟨p,hp⟩:∃ p,ps[i]? = some p:=⟨ps[i]'(by omega),List.getElem?_eq_getElem (by omega)⟩
   have hw:IntKind.i64.wrap (((i:Nat):Int) + 1)=((i + 1:Nat):Int):=by rw [wrap64 (by omega) (by omega)];omega
   have hpz:=hz i p hp
   have hn:=nth_slot hp
   have hcur:Cur H nx b p.1 p.2 0 i ps:=by
    by_cases hp0:p.2=0
    ·exact .inl (by omega)
    ·obtain ⟨cs,ex,g1⟩:=hL.live i p hp hp0 (Nat.le_refl i)
     obtain ⟨g2,cs',⟨g3,_,_,_,_,_,g4⟩,g5,g6⟩:=hL.old i p hp hp0
     rw [g1] at g4;cases g4
     exact .inr ⟨g2,g3,cs,ex,[],g5,g1,g6,fun k' hk=>by omega,fun i' p' h1 h2 h3 e=>by
      have:=hd.1 i' i p' p h1 hp h2 hp0 e;omega⟩
   repeat (refine PRun.wpn rfl ?_;simp only [SW,↓reduceIte,ltB_t hlt,hT,hlt,hn])
   refine PRun.gh (Gh.mask mkPuC4 ?_)
   simp only [mkPuC4,↓reduceIte,Bool.false_eq_true,maskP]
   refine PRun.loopG (fun m t π=>∃ (k nx c:Nat) (H:List (Nat × PObj)),t=(.loc j 0 ps.length ps.length::.junk::.junk::.junk::.junk::slotP (jl,i)::.lit (.int .i64 (i:Nat))::slotP (c,p.2 + k)::.lit (.int .i64 (k:Nat))::.junk::.junk::.junk::.junk::.junk::.junk::.junk::.junk::.junk::.junk::.junk::.junk::.junk::.junk::.junk::.junk::.junk::.junk::.junk::.junk::.junk::.junk::.junk::.junk::.junk::.junk::.junk::.junk::.junk::.junk::.junk::.junk::.junk::.junk::.junk::.junk::.junk::.junk::.junk::.junk::.junk::.junk::.junk::.junk::.junk::.junk::.junk::.junk::.junk::.junk::.junk::.junk::.junk::.junk::.junk::.junk::.junk::.junk::.junk::.junk::.junk::.junk::.junk::.junk::.junk::.junk::.junk::.junk::.junk::.junk::.junk::.junk::.junk::.junk::.junk::.junk::.junk::.junk::.junk::.junk::.junk::.junk::.junk::.junk::.junk::.junk::.junk::.junk::.junk::.junk::.junk::.junk::.junk::.junk::.junk::.junk::.junk::.junk::.junk::.junk::.junk::.junk::.junk::.junk::.junk::.junk::.junk::.junk::.junk::.junk::.junk::.junk::.junk::.junk::.junk::.junk::.junk::.junk::.junk::.junk::.junk::.junk::[])∧k≤16∧m=16 - k∧π=⟨nx,H⟩∧Long H nx b j (i + 1) i ps xs∧Lg H nx b jl i xs∧Cur H nx b c p.2 k i ps∧KeepB b B nx H0 H) ?_ 16 _ _ ⟨0,nx,p.1,H,rfl,by omega,rfl,rfl,hL.later,hG,hcur,hK⟩
   clear hL hG hK hcur hbn hBn hb0 hb1 hb2 hT hjn ty esz ex ret al H
   clear nx
   rintro m t π ⟨k,nx,c,H,rfl,hk,rfl,rfl,hL,hG,hcur,hK⟩
   have hbn:=hL.bn
   have hBn:=hK.nx
   have hb0:Nat.ble B nx=true:=Nat.ble_eq_true_of_le hBn
   have hb1:Nat.ble B (nx + 1)=true:=Nat.ble_eq_true_of_le (by omega)
   have hb2:Nat.ble B (nx + 1 + 1)=true:=Nat.ble_eq_true_of_le (by omega)
   by_cases hlk:(k:Int) < 16
   ·have hwk:IntKind.i64.wrap (((k:Nat):Int) + 1)=((k + 1:Nat):Int):=by rw [wrap64 (by omega) (by omega)];omega
    have hwm:IntKind.i64.wrap (-1 - ((i:Nat):Int)) = -1 - ((i:Nat):Int):=wrap64 (by omega) (by omega)
    have hmk:=mark_ok hm hC (-1 - ((i:Nat):Int)) k (by omega) (by omega) (by omega)
    rcases hcur with h00 | ⟨g1,g2,cs,ex,al,g3,g4,g5,g6,g7⟩
    ·have hs:=slotP_nil (p:=(c,p.2 + k)) h00
     have hp0:p.2=0:=by omega
     repeat (refine PRun.wpn rfl ?_;simp only [SW,↓reduceIte,ltB_t hlk,hs,hwm])
     refine .refl ⟨hBn,PFun.to hmk rfl (POps.wp ?_)⟩
     simp only [SW,↓reduceIte,Nat.reduceAdd,Nat.reduceMul,Nat.reduceLeDiff,Nat.reduceLT,hb0,hb1,bne_self_eq_false]
     repeat (refine PRun.wpn rfl ?_;simp only [SW,hwk])
     refine Gh.mask mkPuC4 ?_
     obtain rfl:k=0:=by omega
     refine ⟨15,by omega,1,nx + 1 + 1,nx + 1,_,?_,by omega,rfl,rfl,(hL.push _).push _,(hG.push _).push _,.inr ⟨by omega,by omega,mf2 i 0,false,[],by rw [hp0];rfl,by simp only [look];rfl,fun k' hk=>by omega,fun k' hk=>?_,fun i' p' h1 h2 h3=>?_⟩,(hK.push hbn _).push (by omega) _⟩
     ·rw [slotP_loc (p:=(nx + 1,p.2 + 1)) (by show p.2 + 1 ≠ 0;omega),hp0];rfl
     ·obtain rfl:k'=0:=by omega
      rw [hp0];rfl
     ·obtain ⟨_,_,q,_⟩:=hL.old i' p' h1 h2
      have:=q.1;omega
    ·by_cases hm0:p.2 + k=0
     ·have hs:=slotP_nil (p:=(c,p.2 + k)) hm0
      have hp0:p.2=0:=by omega
      repeat (refine PRun.wpn rfl ?_;simp only [SW,↓reduceIte,ltB_t hlk,hs,hwm])
      refine .refl ⟨hBn,PFun.to hmk rfl (POps.wp ?_)⟩
      simp only [SW,↓reduceIte,Nat.reduceAdd,Nat.reduceMul,Nat.reduceLeDiff,Nat.reduceLT,hb0,hb1,bne_self_eq_false]
      repeat (refine PRun.wpn rfl ?_;simp only [SW,hwk])
      refine Gh.mask mkPuC4 ?_
      obtain rfl:k=0:=by omega
      refine ⟨15,by omega,1,nx + 1 + 1,nx + 1,_,?_,by omega,rfl,rfl,(hL.push _).push _,(hG.push _).push _,.inr ⟨by omega,by omega,mf2 i 0,false,[],by rw [hp0];rfl,by simp only [look];rfl,fun k' hk=>by omega,fun k' hk=>?_,fun i' p' h1 h2 h3=>?_⟩,(hK.push hbn _).push (by omega) _⟩
      ·rw [slotP_loc (p:=(nx + 1,p.2 + 1)) (by show p.2 + 1 ≠ 0;omega),hp0];rfl
      ·obtain rfl:k'=0:=by omega
       rw [hp0];rfl
      ·obtain ⟨_,_,q,_⟩:=hL.old i' p' h1 h2
       have:=q.1;omega
     have hs:=slotP_loc (p:=(c,p.2 + k)) hm0
     have r1:¬ p.2 + k + 1≤p.2 + k:=by omega
     have r2:¬ 140737488355328 < (2 * (p.2 + k + 1) + 768) * 48:=by omega
     have r3:=cut_all g3
     have r5:¬ c=nx:=by omega
     cases ex
     ·repeat (refine PRun.wpn rfl ?_;simp only [SW,↓reduceIte,ltB_t hlk,hs,hwm])
      refine .refl ⟨hBn,PFun.to hmk rfl (POps.wp ?_)⟩
      simp only [SW,↓reduceIte,Nat.reduceAdd,Nat.reduceMul,hb0,hb1,g3,g4,r1,r2,r3,r5,bne_self_eq_false]
      repeat (refine PRun.wpn rfl ?_;simp only [SW,hwk])
      refine Gh.mask mkPuC4 ?_
      have hmm:=mark_more g3 g5 g6
      refine ⟨16 - (k + 1),by omega,k + 1,nx + 1 + 1,nx + 1,_,?_,by omega,rfl,rfl,((hL.retire g4 g7).push _).push _,((hG.retire g4).push _).push _,.inr ⟨by omega,by omega,cs++mf2 i k,false,c::al,by rw [List.length_append,g3];show _ + 3=_;omega,by simp only [look];rfl,hmm.1,hmm.2,fun i' p' h1 h2 h3=>?_⟩,((hK.set g1 _).push hbn _).push (by omega) _⟩
      ·rw [slotP_loc (p:=(nx + 1,p.2 + (k + 1))) (by show p.2 + (k + 1) ≠ 0;omega)];rfl
      ·obtain ⟨_,_,q,_⟩:=hL.old i' p' h1 h2
       have:=q.1;omega
     ·repeat (refine PRun.wpn rfl ?_;simp only [SW,↓reduceIte,ltB_t hlk,hs,hwm])
      refine .refl ⟨hBn,PFun.to hmk rfl (POps.wp ?_)⟩
      simp only [SW,↓reduceIte,Nat.reduceAdd,Nat.reduceMul,hb0,hb1,g4,r1,r2,r3,r5]
      repeat (refine PRun.wpn rfl ?_;simp only [SW,hwk])
      refine Gh.mask mkPuC4 ?_
      have hmm:=mark_more g3 g5 g6
      refine ⟨16 - (k + 1),by omega,k + 1,nx + 1 + 1,nx + 1,_,?_,by omega,rfl,rfl,(hL.push _).push _,(hG.push _).push _,.inr ⟨by omega,by omega,cs++mf2 i k,false,[],by rw [List.length_append,g3];show _ + 3=_;omega,by simp only [look];rfl,hmm.1,hmm.2,fun i' p' h1 h2 h3=>?_⟩,(hK.push hbn _).push (by omega) _⟩
      ·rw [slotP_loc (p:=(nx + 1,p.2 + (k + 1))) (by show p.2 + (k + 1) ≠ 0;omega)];rfl
      ·obtain ⟨_,_,q,_⟩:=hL.old i' p' h1 h2
       have:=q.1;omega
   ·obtain rfl:k=16:=by omega
    rcases hcur with h00 | ⟨g1,g2,cs,ex,al,g3,g4,g5,g6,g7⟩
    ·omega
    have hs:=slotP_loc (p:=(c,p.2 + 16)) (show p.2 + 16 ≠ 0 by omega)
    have hL2:=hL.snoc hp ⟨g2,_,_,_,_,_,g4⟩ g3 g5 g6
    rcases hG with hi0 | ⟨q1,q2,al2,q3⟩
    ·have hs2:=slotP_nil (p:=(jl,i)) hi0
     repeat (refine PRun.wpn rfl ?_;simp only [SW,↓reduceIte,Nat.reduceAdd,Nat.reduceMul,Nat.reduceLeDiff,Nat.reduceLT,Nat.reduceSub,ltB_f hlk,hs,hs2,hb0,hb1,hw])
     refine Gh.mask mkPuC3 ?_
     obtain rfl:i=0:=hi0
     obtain rfl:xs=[]:=List.length_eq_zero_iff.1 hL.xl
     refine ⟨ps.length - 1,by omega,1,nx + 1 + 1,nx + 1,_,[(c,p.2 + 16)],?_,by omega,rfl,rfl,(hL2.push _).push _,.inr ⟨by omega,by omega,[],by simp only [look,if_true];rw [show [(c,p.2 + 16)].map slotP=[slotP (c,p.2 + 16)] from rfl,hs]⟩,(hK.push hbn _).push (by omega) _⟩
     rw [slotP_loc (p:=(nx + 1,1)) Nat.one_ne_zero];rfl
    ·by_cases hi0:i=0
     ·have hs2:=slotP_nil (p:=(jl,i)) hi0
      repeat (refine PRun.wpn rfl ?_;simp only [SW,↓reduceIte,Nat.reduceAdd,Nat.reduceMul,Nat.reduceLeDiff,Nat.reduceLT,Nat.reduceSub,ltB_f hlk,hs,hs2,hb0,hb1,hw])
      refine Gh.mask mkPuC3 ?_
      obtain rfl:i=0:=hi0
      obtain rfl:xs=[]:=List.length_eq_zero_iff.1 hL.xl
      refine ⟨ps.length - 1,by omega,1,nx + 1 + 1,nx + 1,_,[(c,p.2 + 16)],?_,by omega,rfl,rfl,(hL2.push _).push _,.inr ⟨by omega,by omega,[],by simp only [look,if_true];rw [show [(c,p.2 + 16)].map slotP=[slotP (c,p.2 + 16)] from rfl,hs]⟩,(hK.push hbn _).push (by omega) _⟩
      rw [slotP_loc (p:=(nx + 1,1)) Nat.one_ne_zero];rfl
     have hs2:=slotP_loc (p:=(jl,i)) hi0
     have hxl:=hL.xl
     have r1:¬ i + 1≤i:=by omega
     have r2:¬ 140737488355328 < (2 * (i + 1) + 768) * 24:=by omega
     have r4:(xs.map slotP).length=i:=by rw [List.length_map,hxl]
     have r3:=cut_all r4
     have r5:¬ jl=nx:=by omega
     repeat (refine PRun.wpn rfl ?_;simp only [SW,↓reduceIte,Nat.reduceSub,ltB_f hlk,hs,hs2,hb0,hb1,hw,q3,r1,r2,r3,r4,r5,bne_self_eq_false])
     refine Gh.mask mkPuC3 ?_
     have hne:∀ (i':Nat) (p:Nat × Nat),ps[i']? = some p→p.2 ≠ 0→i + 1≤i'→p.1 ≠ jl:=fun i' p h1 h2 h3 e=>by
      obtain ⟨cs',ex',k1⟩:=hL.live i' p h1 h2 h3
      rw [e,q3] at k1;cases k1
     refine ⟨ps.length - (i + 1),by omega,i + 1,nx + 1 + 1,nx + 1,_,xs++[(c,p.2 + 16)],?_,by omega,rfl,rfl,((hL2.retire q3 hne).push _).push _,.inr ⟨by omega,by omega,jl::al2,by simp only [look,if_true];rw [List.map_append,show [(c,p.2 + 16)].map slotP=[slotP (c,p.2 + 16)] from rfl,hs]⟩,((hK.set q1 _).push hbn _).push (by omega) _⟩
     rw [slotP_loc (p:=(nx + 1,i + 1)) (by show i + 1 ≠ 0;omega)];rfl
  ·obtain rfl:i=ps.length:=by omega
   repeat (refine PRun.wpn rfl ?_;simp only [SW,↓reduceIte,reduceCtorEq,ltB_f hlt])
   refine PRun.gh (Gh.mask mkPuC5 ?_)
   simp only [mkPuC5,↓reduceIte,Bool.false_eq_true,maskP]
   refine PRun.loopG (fun m t π=>∃ i:Nat,t=(.loc j 0 ps.length ps.length::.junk::.junk::.junk::.junk::slotP (jl,ps.length)::.junk::.junk::.junk::.lit (.int .i64 (i:Nat))::.junk::.junk::.junk::.junk::.junk::.junk::.junk::.junk::.junk::.junk::.junk::.junk::.junk::.junk::.junk::.junk::.junk::.junk::.junk::.junk::.junk::.junk::.junk::.junk::.junk::.junk::.junk::.junk::.junk::.junk::.junk::.junk::.junk::.junk::.junk::.junk::.junk::.junk::.junk::.junk::.junk::.junk::.junk::.junk::.junk::.junk::.junk::.junk::.junk::.junk::.junk::.junk::.junk::.junk::.junk::.junk::.junk::.junk::.junk::.junk::.junk::.junk::.junk::.junk::.junk::.junk::.junk::.junk::.junk::.junk::.junk::.junk::.junk::.junk::.junk::.junk::.junk::.junk::.junk::.junk::.junk::.junk::.junk::.junk::.junk::.junk::.junk::.junk::.junk::.junk::.junk::.junk::.junk::.junk::.junk::.junk::.junk::.junk::.junk::.junk::.junk::.junk::.junk::.junk::.junk::.junk::.junk::.junk::.junk::.junk::.junk::.junk::.junk::.junk::.junk::.junk::.junk::.junk::.junk::.junk::.junk::[])∧i≤ps.length∧m=ps.length - i∧π=⟨nx,H⟩) ?_ ps.length _ _ ⟨0,rfl,by omega,rfl,rfl⟩
   rintro m t π ⟨i,rfl,hi,rfl,rfl⟩
   by_cases hlt:(i:Int) < (ps.length:Nat)
   ·obtain ⟨p,hp⟩:∃ p,ps[i]? = some p:=⟨ps[i]'(by omega),List.getElem?_eq_getElem (by omega)⟩
    have hw:IntKind.i64.wrap (((i:Nat):Int) + 1)=((i + 1:Nat):Int):=by rw [wrap64 (by omega) (by omega)];omega
    have hpz:=hz i p hp
    have hn:=nth_slot hp
    obtain ⟨x,xc,y1,⟨y2,_,_,_,_,_,y3⟩,y4,y5,y6⟩:=hL.new i p (by omega) hp
    have hn2:=nth_slot y1
    rw [slotP_loc (p:=(x,p.2 + 16)) (show p.2 + 16 ≠ 0 by omega)] at hn2
    rcases hG with hK0 | ⟨q1,q2,al2,q3⟩
    ·omega
    have hs2:=slotP_loc (p:=(jl,ps.length)) (show ps.length ≠ 0 by omega)
    have l1:=ltN_t hjn
    have l2:=ltN_t q2
    have l3:=ltN_t y2
    have hwm:IntKind.i64.wrap (-1 - ((i:Nat):Int)) = -1 - ((i:Nat):Int):=wrap64 (by omega) (by omega)
    by_cases hp0:p.2=0
    ·rw [slotP_nil hp0] at hn
     repeat (refine PRun.wpn rfl ?_;simp only [SW,↓reduceIte,ltB_t hlt,hT,hlt,hn])
     refine PRun.gh (Gh.mask mkPuC6 ?_)
     simp only [mkPuC6,↓reduceIte,Bool.false_eq_true,maskP]
     refine PRun.loopG (fun m t π=>∃ k:Nat,k=0∧t=(.loc j 0 ps.length ps.length::.junk::.junk::.junk::.junk::slotP (jl,ps.length)::.junk::.junk::.junk::.lit (.int .i64 (i:Nat))::.lit (.int .i64 0)::.lit (.int .i64 (k:Nat))::.junk::.junk::.junk::.junk::.junk::.junk::.junk::.junk::.junk::.junk::.junk::.junk::.junk::.junk::.junk::.junk::.junk::.junk::.junk::.junk::.junk::.junk::.junk::.junk::.junk::.junk::.junk::.junk::.junk::.junk::.junk::.junk::.junk::.junk::.junk::.junk::.junk::.junk::.junk::.junk::.junk::.junk::.junk::.junk::.junk::.junk::.junk::.junk::.junk::.junk::.junk::.junk::.junk::.junk::.junk::.junk::.junk::.junk::.junk::.junk::.junk::.junk::.junk::.junk::.junk::.junk::.junk::.junk::.junk::.junk::.junk::.junk::.junk::.junk::.junk::.junk::.junk::.junk::.junk::.junk::.junk::.junk::.junk::.junk::.junk::.junk::.junk::.junk::.junk::.junk::.junk::.junk::.junk::.junk::.junk::.junk::.junk::.junk::.junk::.junk::.junk::.junk::.junk::.junk::.junk::.junk::.junk::.junk::.junk::.junk::.junk::.junk::.junk::.junk::.junk::.junk::.junk::.junk::.junk::[])∧π=⟨nx,H⟩) ?_ 0 _ _ ⟨0,rfl,rfl,rfl⟩
     rintro m t π ⟨k,rfl,rfl,rfl⟩
     repeat (refine PRun.wpn rfl ?_;simp only [SW,↓reduceIte,z0])
     refine PRun.gh (Gh.mask mkPuC7 ?_)
     simp only [mkPuC7,↓reduceIte,Bool.false_eq_true,maskP]
     refine PRun.loopG (fun m t π=>∃ k:Nat,t=(.loc j 0 ps.length ps.length::.junk::.junk::.junk::.junk::slotP (jl,ps.length)::.junk::.junk::.junk::.lit (.int .i64 (i:Nat))::.lit (.int .i64 0)::.junk::.lit (.int .i64 (k:Nat))::.junk::.junk::.junk::.junk::.junk::.junk::.junk::.junk::.junk::.junk::.junk::.junk::.junk::.junk::.junk::.junk::.junk::.junk::.junk::.junk::.junk::.junk::.junk::.junk::.junk::.junk::.junk::.junk::.junk::.junk::.junk::.junk::.junk::.junk::.junk::.junk::.junk::.junk::.junk::.junk::.junk::.junk::.junk::.junk::.junk::.junk::.junk::.junk::.junk::.junk::.junk::.junk::.junk::.junk::.junk::.junk::.junk::.junk::.junk::.junk::.junk::.junk::.junk::.junk::.junk::.junk::.junk::.junk::.junk::.junk::.junk::.junk::.junk::.junk::.junk::.junk::.junk::.junk::.junk::.junk::.junk::.junk::.junk::.junk::.junk::.junk::.junk::.junk::.junk::.junk::.junk::.junk::.junk::.junk::.junk::.junk::.junk::.junk::.junk::.junk::.junk::.junk::.junk::.junk::.junk::.junk::.junk::.junk::.junk::.junk::.junk::.junk::.junk::.junk::.junk::.junk::.junk::.junk::[])∧k≤16∧m=16 - k∧π=⟨nx,H⟩) ?_ 16 _ _ ⟨0,rfl,by omega,rfl,rfl⟩
     rintro m t π ⟨k,rfl,hk,rfl,rfl⟩
     by_cases hlk:(k:Int) < 16
     ·have hmk:=mark_ok hm hC (-1 - ((i:Nat):Int)) k (by omega) (by omega) (by omega)
      have hwk:IntKind.i64.wrap (((k:Nat):Int) + 1)=((k + 1:Nat):Int):=by rw [wrap64 (by omega) (by omega)];omega
      have hwn:IntKind.i64.wrap (0 + ((k:Nat):Int))=((k:Nat):Int):=by rw [wrap64 (by omega) (by omega)];omega
      have e2:nthP xc (k * 3 + 1)=some (.lit (.string (markS (-1 - ((i:Nat):Int)) k))):=by
       have:=y6 k (by omega)
       rw [hp0,Nat.zero_add] at this
       rw [nthP_eq];exact this
      have hlk2:((k:Nat):Int) < ((p.2 + 16:Nat):Int):=by omega
      rw [hs2]
      repeat (refine PRun.wpn rfl ?_;simp only [SW,↓reduceIte,ltB_t hlk])
      refine PDraw.stage hBn rfl ?_
      try dsimp only
      simp only [SW,↓reduceIte,Nat.reduceAdd,hlk2,hlt,hn2,q3,y3,e2,hwm,hwn,l2,l3]
      refine PDE.pure hmk rfl ?_
      refine PDraw.last hBn rfl ?_
      try dsimp only
      simp only [SW,↓reduceIte,nb]
      repeat (refine PRun.wpn rfl ?_;simp only [SW,↓reduceIte,hwk])
      refine Gh.mask mkPuC7 ?_
      exact ⟨16 - (k + 1),by omega,k + 1,rfl,by omega,rfl,rfl⟩
     ·repeat (refine PRun.wpn rfl ?_;simp only [SW,↓reduceIte,ltB_f hlk,hw])
      refine Gh.mask mkPuC5 ?_
      exact ⟨ps.length - (i + 1),by omega,i + 1,rfl,by omega,rfl,rfl⟩
    ·rw [slotP_loc hp0] at hn
     obtain ⟨o1,oc,⟨o2,_,_,_,_,_,o3⟩,o4,o5⟩:=hL.old i p hp hp0
     have l4:=ltN_t o2
     repeat (refine PRun.wpn rfl ?_;simp only [SW,↓reduceIte,ltB_t hlt,hT,hlt,hn])
     refine PRun.gh (Gh.mask mkPuC6 ?_)
     simp only [mkPuC6,↓reduceIte,Bool.false_eq_true,maskP]
     refine PRun.loopG (fun m t π=>∃ k:Nat,t=(.loc j 0 ps.length ps.length::.junk::.junk::.junk::.junk::slotP (jl,ps.length)::.junk::.junk::.junk::.lit (.int .i64 (i:Nat))::.lit (.int .i64 (p.2:Nat))::.lit (.int .i64 (k:Nat))::.junk::.junk::.junk::.junk::.junk::.junk::.junk::.junk::.junk::.junk::.junk::.junk::.junk::.junk::.junk::.junk::.junk::.junk::.junk::.junk::.junk::.junk::.junk::.junk::.junk::.junk::.junk::.junk::.junk::.junk::.junk::.junk::.junk::.junk::.junk::.junk::.junk::.junk::.junk::.junk::.junk::.junk::.junk::.junk::.junk::.junk::.junk::.junk::.junk::.junk::.junk::.junk::.junk::.junk::.junk::.junk::.junk::.junk::.junk::.junk::.junk::.junk::.junk::.junk::.junk::.junk::.junk::.junk::.junk::.junk::.junk::.junk::.junk::.junk::.junk::.junk::.junk::.junk::.junk::.junk::.junk::.junk::.junk::.junk::.junk::.junk::.junk::.junk::.junk::.junk::.junk::.junk::.junk::.junk::.junk::.junk::.junk::.junk::.junk::.junk::.junk::.junk::.junk::.junk::.junk::.junk::.junk::.junk::.junk::.junk::.junk::.junk::.junk::.junk::.junk::.junk::.junk::.junk::.junk::[])∧k≤p.2∧m=p.2 - k∧π=⟨nx,H⟩) ?_ p.2 _ _ ⟨0,rfl,by omega,rfl,rfl⟩
     rintro m t π ⟨k,rfl,hk,rfl,rfl⟩
     by_cases hlk:(k:Int) < (p.2:Nat)
     ·have hmk:=mark_ok hm hC ((i:Nat):Int) k (by omega) (by omega) (by omega)
      have hwk:IntKind.i64.wrap (((k:Nat):Int) + 1)=((k + 1:Nat):Int):=by rw [wrap64 (by omega) (by omega)];omega
      have e1:nthP oc (k * 3 + 1)=some (.lit (.string (markS ((i:Nat):Int) k))):=by rw [nthP_eq];exact o5 k (by omega)
      have e2:nthP xc (k * 3 + 1)=some (.lit (.string (markS ((i:Nat):Int) k))):=by rw [nthP_eq];exact y5 k (by omega)
      have hlk2:((k:Nat):Int) < ((p.2 + 16:Nat):Int):=by omega
      rw [hs2]
      repeat (refine PRun.wpn rfl ?_;simp only [SW,↓reduceIte,ltB_t hlk])
      refine PDraw.stage hBn rfl ?_
      try dsimp only
      simp only [SW,↓reduceIte,Nat.reduceAdd,hlk,hT,hlt,hn,o3,e1,l1,l4]
      refine PDE.pure hmk rfl ?_
      refine PDraw.stage hBn rfl ?_
      try dsimp only
      simp only [SW,↓reduceIte,Nat.reduceAdd,hlk2,hlt,hn2,q3,y3,e2,nb,l2,l3]
      refine PDE.pure hmk rfl ?_
      refine PDraw.last hBn rfl ?_
      try dsimp only
      simp only [SW,↓reduceIte,nb]
      repeat (refine PRun.wpn rfl ?_;simp only [SW,↓reduceIte,hwk])
      refine Gh.mask mkPuC6 ?_
      exact ⟨p.2 - (k + 1),by omega,k + 1,rfl,by omega,rfl,rfl⟩
     ·repeat (refine PRun.wpn rfl ?_;simp only [SW,↓reduceIte,ltB_f hlk])
      refine PRun.gh (Gh.mask mkPuC7 ?_)
      simp only [mkPuC7,↓reduceIte,Bool.false_eq_true,maskP]
      refine PRun.loopG (fun m t π=>∃ k:Nat,t=(.loc j 0 ps.length ps.length::.junk::.junk::.junk::.junk::slotP (jl,ps.length)::.junk::.junk::.junk::.lit (.int .i64 (i:Nat))::.lit (.int .i64 (p.2:Nat))::.junk::.lit (.int .i64 (k:Nat))::.junk::.junk::.junk::.junk::.junk::.junk::.junk::.junk::.junk::.junk::.junk::.junk::.junk::.junk::.junk::.junk::.junk::.junk::.junk::.junk::.junk::.junk::.junk::.junk::.junk::.junk::.junk::.junk::.junk::.junk::.junk::.junk::.junk::.junk::.junk::.junk::.junk::.junk::.junk::.junk::.junk::.junk::.junk::.junk::.junk::.junk::.junk::.junk::.junk::.junk::.junk::.junk::.junk::.junk::.junk::.junk::.junk::.junk::.junk::.junk::.junk::.junk::.junk::.junk::.junk::.junk::.junk::.junk::.junk::.junk::.junk::.junk::.junk::.junk::.junk::.junk::.junk::.junk::.junk::.junk::.junk::.junk::.junk::.junk::.junk::.junk::.junk::.junk::.junk::.junk::.junk::.junk::.junk::.junk::.junk::.junk::.junk::.junk::.junk::.junk::.junk::.junk::.junk::.junk::.junk::.junk::.junk::.junk::.junk::.junk::.junk::.junk::.junk::.junk::.junk::.junk::.junk::.junk::[])∧k≤16∧m=16 - k∧π=⟨nx,H⟩) ?_ 16 _ _ ⟨0,rfl,by omega,rfl,rfl⟩
      clear hlk hk k
      rintro m t π ⟨k,rfl,hk,rfl,rfl⟩
      by_cases hlk:(k:Int) < 16
      ·have hmk:=mark_ok hm hC (-1 - ((i:Nat):Int)) k (by omega) (by omega) (by omega)
       have hwk:IntKind.i64.wrap (((k:Nat):Int) + 1)=((k + 1:Nat):Int):=by rw [wrap64 (by omega) (by omega)];omega
       have hwn:IntKind.i64.wrap (((p.2:Nat):Int) + ((k:Nat):Int))=((p.2 + k:Nat):Int):=by rw [wrap64 (by omega) (by omega)];omega
       have e2:nthP xc ((p.2 + k) * 3 + 1)=some (.lit (.string (markS (-1 - ((i:Nat):Int)) k))):=by rw [nthP_eq];exact y6 k (by omega)
       have hlk2:((p.2 + k:Nat):Int) < ((p.2 + 16:Nat):Int):=by omega
       rw [hs2]
       repeat (refine PRun.wpn rfl ?_;simp only [SW,↓reduceIte,ltB_t hlk])
       refine PDraw.stage hBn rfl ?_
       try dsimp only
       simp only [SW,↓reduceIte,Nat.reduceAdd,hlk2,hlt,hn2,q3,y3,e2,hwm,hwn,l2,l3]
       refine PDE.pure hmk rfl ?_
       refine PDraw.last hBn rfl ?_
       try dsimp only
       simp only [SW,↓reduceIte,nb]
       repeat (refine PRun.wpn rfl ?_;simp only [SW,↓reduceIte,hwk])
       refine Gh.mask mkPuC7 ?_
       exact ⟨16 - (k + 1),by omega,k + 1,rfl,by omega,rfl,rfl⟩
      ·repeat (refine PRun.wpn rfl ?_;simp only [SW,↓reduceIte,ltB_f hlk,hw])
       refine Gh.mask mkPuC5 ?_
       exact ⟨ps.length - (i + 1),by omega,i + 1,rfl,by omega,rfl,rfl⟩
   ·repeat (refine PRun.wpn rfl ?_;simp only [SW,↓reduceIte,reduceCtorEq,ltB_f hlt])
    exact .refl ⟨_,rfl,rfl,hK.keep,hK.nx⟩
end
end Go.Proofs.YtnpoloachkcadaaGreatDoor.Ai
namespace Go.Proofs.YtnpoloachkcadaaGreatDoor.Ai
set_option linter.unusedSimpArgs false
open Go
set_option linter.unusedVariables false
set_option linter.unusedSectionVars false
set_option maxRecDepth 10000
set_option maxHeartbeats 4000000
section
variable {C:Ctx} (hm:C.P.follows .mixedOrders=true) (hC:TabOK C.P C.ng C.ts Tryz.tab)
include hm hC
theorem own_nil:PFun C 72 [.lit (.slice none 0 0)] (.lit (.bool true))∧PFun C 73 [.lit (.slice none 0 0)] (.lit (.bool true))∧PFun C 74 [.lit (.slice none 0 0)] (.lit (.bool true))∧PFun C 76 [.lit (.slice none 0 0)] (.lit (.bool true))∧PFun C 77 [.lit (.slice none 0 0)] (.lit (.bool true))∧PFun C 78 [.lit (.slice none 0 0)] (.lit (.bool true))∧PFun C 79 [.lit (.slice none 0 0)] (.lit (.bool true))∧PFun C 80 [.lit (.slice none 0 0)] (.lit (.bool true))∧PFun C 81 [.lit (.slice none 0 0)] (.lit (.bool true))∧PFun C 82 [.lit (.slice none 0 0)] (.lit (.bool true))∧PFun C 83 [.lit (.slice none 0 0)] (.lit (.bool true)):=by
 have z0:=ltB_f (show ¬ (0:Int) < 0 by omega)
 refine ⟨PFun.body hm hC (show Tryz.tab.get 72=some Tryz.c72 from rfl) rfl ?_,PFun.body hm hC (show Tryz.tab.get 73=some Tryz.c73 from rfl) rfl ?_,PFun.body hm hC (show Tryz.tab.get 74=some Tryz.c74 from rfl) rfl ?_,PFun.body hm hC (show Tryz.tab.get 76=some Tryz.c76 from rfl) rfl ?_,PFun.body hm hC (show Tryz.tab.get 77=some Tryz.c77 from rfl) rfl ?_,PFun.body hm hC (show Tryz.tab.get 78=some Tryz.c78 from rfl) rfl ?_,PFun.body hm hC (show Tryz.tab.get 79=some Tryz.c79 from rfl) rfl ?_,PFun.body hm hC (show Tryz.tab.get 80=some Tryz.c80 from rfl) rfl ?_,PFun.body hm hC (show Tryz.tab.get 81=some Tryz.c81 from rfl) rfl ?_,PFun.body hm hC (show Tryz.tab.get 82=some Tryz.c82 from rfl) rfl ?_,PFun.body hm hC (show Tryz.tab.get 83=some Tryz.c83 from rfl) rfl ?_⟩
 all_goals
  simp only [SW,Tryz.c72,Tryz.c73,Tryz.c74,Tryz.c76,Tryz.c77,Tryz.c78,Tryz.c79,Tryz.c80,Tryz.c81,Tryz.c82,Tryz.c83,startP,Nat.reduceAdd,Nat.reduceSub,List.replicate]
  repeat (refine PRun.wpn rfl ?_;simp only [SW,reduceCtorEq])
  refine PRun.loopG (fun m t π=>t=_∧π=_) ?_ 0 _ _ ⟨rfl,rfl⟩
  rintro m t π ⟨rfl,rfl⟩
  repeat (refine PRun.wpn rfl ?_;simp only [SW,↓reduceIte,reduceCtorEq,z0])
  refine PRun.loopG (fun m t π=>t=_∧π=_) ?_ 0 _ _ ⟨rfl,rfl⟩
  rintro m t π ⟨rfl,rfl⟩
  repeat (refine PRun.wpn rfl ?_;simp only [SW,↓reduceIte,reduceCtorEq,z0])
  refine PRun.loopG (fun m t π=>t=_∧π=_) ?_ 0 _ _ ⟨rfl,rfl⟩
  rintro m t π ⟨rfl,rfl⟩
  repeat (refine PRun.wpn rfl ?_;simp only [SW,↓reduceIte,reduceCtorEq,z0])
  exact .refl ⟨_,rfl,.refl _⟩
theorem own75:PFun C 75 [.lit (.slice none 0 0)] (.lit (.bool true)):=by
 have z0:=ltB_f (show ¬ (0:Int) < 0 by omega)
 refine PFun.body hm hC (show Tryz.tab.get 75=some Tryz.c75 from rfl) rfl ?_
 simp only [SW,Tryz.c75,startP,Nat.reduceAdd,Nat.reduceSub,List.replicate]
 repeat (refine PRun.wpn rfl ?_;simp only [SW,reduceCtorEq])
 refine PRun.gh (Gh.mask mkPuC8 ?_)
 simp only [mkPuC8,↓reduceIte,Bool.false_eq_true,maskP]
 refine PRun.loopG (fun m t π=>∃ i:Nat,t=(.lit (.slice none 0 0)::.junk::.junk::.lit (.int .i64 (i:Nat))::.junk::.junk::.junk::.junk::.junk::.junk::.junk::.junk::.junk::.junk::.junk::.junk::.junk::.junk::.junk::.junk::.junk::.junk::.junk::.junk::.junk::.junk::.junk::.junk::.junk::.junk::.junk::.junk::.junk::.junk::.junk::.junk::.junk::.junk::.junk::.junk::.junk::.junk::.junk::.junk::.junk::.junk::.junk::.junk::.junk::.junk::.junk::.junk::.junk::.junk::.junk::.junk::.junk::.junk::.junk::.junk::.junk::.junk::.junk::.junk::.junk::.junk::.junk::.junk::.junk::.junk::.junk::.junk::.junk::.junk::.junk::.junk::.junk::.junk::.junk::.junk::.junk::.junk::.junk::.junk::.junk::.junk::.junk::.junk::.junk::.junk::.junk::.junk::.junk::.junk::.junk::.junk::.junk::.junk::.junk::.junk::.junk::.junk::.junk::.junk::.junk::.junk::.junk::.junk::.junk::.junk::.junk::.junk::.junk::.junk::.junk::.junk::.junk::.junk::.junk::.junk::.junk::.junk::.junk::.junk::.junk::.junk::.junk::.junk::.junk::.junk::.junk::.junk::.junk::.junk::.junk::.junk::.junk::.junk::.junk::.junk::.junk::.junk::.junk::.junk::.junk::.junk::.junk::.junk::.junk::.junk::[])∧m=1 - i∧i≤1∧π=⟨0,[]⟩) ?_ 1 _ _ ⟨0,rfl,rfl,by omega,rfl⟩
 rintro m t π ⟨i,rfl,rfl,hi,rfl⟩
 by_cases h0:((i:Nat):Int)=0
 ·have hw:IntKind.i64.wrap (((i:Nat):Int) + 1)=((i + 1:Nat):Int):=by rw [wrap64 (by omega) (by omega)];omega
  repeat (refine PRun.wpn rfl ?_;simp only [SW,↓reduceIte,eqB_t h0])
  refine PRun.loopG (fun m t π=>t=_∧π=_) ?_ 0 _ _ ⟨rfl,rfl⟩
  rintro m t π ⟨rfl,rfl⟩
  repeat (refine PRun.wpn rfl ?_;simp only [SW,↓reduceIte,z0])
  refine PRun.loopG (fun m t π=>t=_∧π=_) ?_ 0 _ _ ⟨rfl,rfl⟩
  rintro m t π ⟨rfl,rfl⟩
  repeat (refine PRun.wpn rfl ?_;simp only [SW,↓reduceIte,z0])
  refine PRun.loopG (fun m t π=>t=_∧π=_) ?_ 0 _ _ ⟨rfl,rfl⟩
  rintro m t π ⟨rfl,rfl⟩
  repeat (refine PRun.wpn rfl ?_;simp only [SW,↓reduceIte,z0,hw])
  refine Gh.mask mkPuC8 ?_
  exact ⟨0,by omega,i + 1,rfl,by omega,by omega,rfl⟩
 ·obtain rfl:i=1:=by omega
  repeat (refine PRun.wpn rfl ?_;simp only [SW,↓reduceIte,reduceCtorEq,Nat.reduceSub,eqB_f (show ¬ (1:Int)=0 by omega)])
  skip
  exact .refl ⟨_,rfl,.refl _⟩
end
structure BookI (H:List (Nat × PObj)) (nx bk j:Nat) (ps:List (Nat × Nat)):Prop where
 hbk:bk < nx∧∃ ex,look H bk=some (.cells [.lit (.slice none 0 0),.lit (.slice none 0 0),.lit (.slice none 0 0),.lit (.slice none 0 0),.lit (.slice none 0 0),.lit (.slice none 0 0),.lit (.slice none 0 0),.lit (.slice none 0 0),.lit (.slice none 0 0),.lit (.slice none 0 0),.lit (.slice none 0 0),.lit (.slice none 0 0),slotP (j,ps.length)] 51 13 ex false [])
 arr:ps ≠ []→bk < j∧j < nx∧∃ al,look H j=some (.cells (ps.map slotP) 25 1 false false al)
 lst:∀ (i:Nat) (p:Nat × Nat),ps[i]? = some p→p.2 ≠ 0→bk < p.1∧p.1 < nx∧p.2 < 2 ^ 36∧∃ cs ex,cs.length=p.2 * 3∧look H p.1=some (.cells cs 27 3 ex false [])
 dis:Distinct j ps
def Rest (nx bk j:Nat) (H H':List (Nat × PObj)):Prop:=∀ id o,id < nx→id ≠ bk→id ≠ j→look H id=some o→look H' id=some o
theorem BookI.push {H:List (Nat × PObj)} {nx bk j:Nat} {ps:List (Nat × Nat)} (h:BookI H nx bk j ps) (o:PObj):BookI ((nx,o)::H) (nx + 1) bk j ps:=
 ⟨⟨Nat.lt_succ_of_lt h.hbk.1,h.hbk.2.imp fun ex e=>look_push e h.hbk.1⟩,fun h0=>by
  obtain ⟨h1,h2,al,h3⟩:=h.arr h0
  exact ⟨h1,Nat.lt_succ_of_lt h2,al,look_push h3 h2⟩,fun i p hp h0=>by
  obtain ⟨h1,h2,h2',cs,ex,h3,h4⟩:=h.lst i p hp h0
  exact ⟨h1,Nat.lt_succ_of_lt h2,h2',cs,ex,h3,look_push h4 h2⟩,h.dis⟩
theorem BookI.keep {H H':List (Nat × PObj)} {nx nx' bk j:Nat} {ps:List (Nat × Nat)} (h:BookI H nx bk j ps) (hn:nx≤nx') (hk:∀ id o,id < nx→look H id=some o→look H' id=some o):BookI H' nx' bk j ps:=
 ⟨⟨Nat.lt_of_lt_of_le h.hbk.1 hn,h.hbk.2.imp fun ex e=>hk _ _ h.hbk.1 e⟩,fun h0=>by
  obtain ⟨h1,h2,al,h3⟩:=h.arr h0
  exact ⟨h1,Nat.lt_of_lt_of_le h2 hn,al,hk _ _ h2 h3⟩,fun i p hp h0=>by
  obtain ⟨h1,h2,h2',cs,ex,h3,h4⟩:=h.lst i p hp h0
  exact ⟨h1,Nat.lt_of_lt_of_le h2 hn,h2',cs,ex,h3,hk _ _ h2 h4⟩,h.dis⟩
theorem BookI.snoc {H H':List (Nat × PObj)} {nx nx' bk j j':Nat} {ps:List (Nat × Nat)} {p:Nat × Nat} {l:List PV} {ex:Bool} (h:BookI H nx bk j ps)
  (hp:p.2 ≠ 0→bk < p.1∧p.1 < nx∧p.2 < 2 ^ 36∧l.length=p.2 * 3∧look H p.1=some (.cells l 27 3 ex false [])∧∀ q∈ps,q.2 ≠ 0→q.1 ≠ p.1)
  (hn:nx≤nx') (hj:nx≤j') (hj':j' < nx') (hb:∃ ex,look H' bk=some (.cells [.lit (.slice none 0 0),.lit (.slice none 0 0),.lit (.slice none 0 0),.lit (.slice none 0 0),.lit (.slice none 0 0),.lit (.slice none 0 0),.lit (.slice none 0 0),.lit (.slice none 0 0),.lit (.slice none 0 0),.lit (.slice none 0 0),.lit (.slice none 0 0),.lit (.slice none 0 0),slotP (j',(ps++[p]).length)] 51 13 ex false []))
  (ha:∃ al,look H' j'=some (.cells ((ps++[p]).map slotP) 25 1 false false al)) (hr:∀ id o,id < nx→id ≠ bk→(ps ≠ []→id ≠ j)→look H id=some o→look H' id=some o):BookI H' nx' bk j' (ps++[p]):=by
 have hbk:=h.hbk.1
 have hne:∀ (i:Nat) (q:Nat × Nat),(ps++[p])[i]? = some q→(i < ps.length∧ps[i]? = some q)∨(i=ps.length∧q=p):=fun i q hq=>by
  by_cases hi:i < ps.length
  ·rw [List.getElem?_append_left hi] at hq;exact .inl ⟨hi,hq⟩
  ·rw [List.getElem?_append_right (by omega)] at hq
   have:i - ps.length=0:=by
    cases hd:i - ps.length with
    | zero=>rfl
    | succ n=>rw [hd] at hq;simp at hq
   rw [this] at hq
   simp only [List.getElem?_cons_zero,Option.some.injEq] at hq
   exact .inr ⟨by omega,hq.symm⟩
 have hlt:∀ (i:Nat) (q:Nat × Nat),(ps++[p])[i]? = some q→q.2 ≠ 0→q.1 < nx:=fun i q hq h0=>by
  rcases hne i q hq with ⟨_,hq⟩ | ⟨_,rfl⟩
  ·exact (h.lst i q hq h0).2.1
  ·exact (hp h0).2.1
 refine ⟨⟨by omega,hb⟩,fun _=>⟨by omega,hj',ha⟩,fun i q hq h0=>?_,fun i i' q q' hq hq' h0 h0' e=>?_,fun i q hq h0=>?_⟩
 ·rcases hne i q hq with ⟨_,hq⟩ | ⟨_,rfl⟩
  ·obtain ⟨g1,g2,g2',cs,ex',g3,g4⟩:=h.lst i q hq h0
   exact ⟨g1,by omega,g2',cs,ex',g3,hr _ _ g2 (by omega) (fun hps e=>by
    have:=h.dis.2 i q hq h0;exact this e) g4⟩
  ·obtain ⟨g1,g2,g2',g3,g4,g5⟩:=hp h0
   refine ⟨g1,by omega,g2',l,ex,g3,hr _ _ g2 (by omega) (fun hps e=>?_) g4⟩
   obtain ⟨_,_,al,h3⟩:=h.arr hps
   rw [e] at g4;rw [g4] at h3;cases h3
 ·rcases hne i q hq with ⟨hi,hq1⟩ | ⟨hi,rfl⟩ <;> rcases hne i' q' hq' with ⟨hi',hq1'⟩ | ⟨hi',rfl⟩
  ·exact h.dis.1 i i' q q' hq1 hq1' h0 h0' e
  ·exact absurd e ((hp h0').2.2.2.2.2 q (List.mem_iff_getElem?.2 ⟨i,hq1⟩) h0)
  ·exact absurd e.symm ((hp h0).2.2.2.2.2 q' (List.mem_iff_getElem?.2 ⟨i',hq1'⟩) h0')
  ·omega
 ·have:=hlt i q hq h0;omega
theorem BookI.off {H:List (Nat × PObj)} {nx bk j:Nat} {ps:List (Nat × Nat)} (h:BookI H nx bk j ps) {i:Nat} {l:List PV} {ex:Bool} (hi:look H i=some (.cells l 27 3 ex false [])):i ≠ bk∧(ps ≠ []→i ≠ j):=by
 refine ⟨fun e=>?_,fun hp e=>?_⟩
 ·obtain ⟨_,ex,hb⟩:=h.hbk
  rw [← e,hi] at hb;cases hb
 ·obtain ⟨_,_,al,hj⟩:=h.arr hp
  rw [← e,hi] at hj;cases hj
section
variable {C:Ctx} (hm:C.P.follows .mixedOrders=true) (hC:TabOK C.P C.ng C.ts Tryz.tab)
include hm hC
theorem book_own_g (bk nx j:Nat) (ps:List (Nat × Nat)) (H:List (Nat × PObj)) (h:BookI H nx bk j ps) (hne:ps ≠ []) (hl:ps.length < 2 ^ 38) :
  PToB C nx 38 [.ptr bk 0] ⟨nx,H⟩ fun r π'=>r = .lit (.bool true):=by
 obtain ⟨hb,ex,hbk⟩:=h.hbk
 obtain ⟨hj1,hj2,al,hj⟩:=h.arr hne
 have hK:ps.length ≠ 0:=fun e=>hne (List.length_eq_zero_iff.1 e)
 rw [slotP_loc hK] at hbk
 dsimp only at hbk
 have m1:Nat.blt bk nx=true:=by rw [Nat.blt_eq];exact hb
 have m2:Nat.blt j nx=true:=by rw [Nat.blt_eq];exact hj2
 have hb:bk + 1≤nx:=hb
 have o75:=own75 hm hC
 obtain ⟨o72,o73,o74,o76,o77,o78,o79,o80,o81,o82,o83⟩:=own_nil hm hC
 have o84:=own_ok hm hC (bk + 1) nx nx j ps H hb (Nat.le_refl _) h.dis hl (fun i p hp=>by
  by_cases h0:p.2=0
  ·omega
  ·exact (h.lst i p hp h0).2.2.1) ⟨⟨hj2,_,_,_,_,_,hj⟩,fun i p hp h0=>by
  obtain ⟨g1,g2,g3,cs,ex,g4,g5⟩:=h.lst i p hp h0
  exact ⟨g1,g2,cs,ex,g4,g5,fun _ _ hf=>hf.elim⟩⟩
 refine PToB.of_body hm hC (show Tryz.tab.get 38=some Tryz.c38 from rfl) ?_
 simp only [SW,Tryz.c38,startP,Nat.reduceAdd,Nat.reduceSub,List.replicate]
 repeat (refine PRun.wpn rfl ?_;simp only [SW,hbk])
 refine .refl ⟨Nat.le_refl _,PFun.to o72 rfl (POps.wp ?_)⟩
 simp only [SW,hbk]
 refine .refl ⟨Nat.le_refl _,PFun.to o73 rfl (POps.wp ?_)⟩
 simp only [SW,hbk]
 refine .refl ⟨Nat.le_refl _,PFun.to o74 rfl (POps.wp ?_)⟩
 simp only [SW,hbk]
 refine .refl ⟨Nat.le_refl _,PFun.to o75 rfl (POps.wp ?_)⟩
 simp only [SW,hbk]
 refine .refl ⟨Nat.le_refl _,PFun.to o76 rfl (POps.wp ?_)⟩
 simp only [SW,hbk]
 refine .refl ⟨Nat.le_refl _,PFun.to o77 rfl (POps.wp ?_)⟩
 simp only [SW,hbk]
 refine .refl ⟨Nat.le_refl _,PFun.to o78 rfl (POps.wp ?_)⟩
 simp only [SW,hbk]
 refine .refl ⟨Nat.le_refl _,PFun.to o79 rfl (POps.wp ?_)⟩
 simp only [SW,hbk]
 refine .refl ⟨Nat.le_refl _,PFun.to o80 rfl (POps.wp ?_)⟩
 simp only [SW,hbk]
 refine .refl ⟨Nat.le_refl _,PFun.to o81 rfl (POps.wp ?_)⟩
 simp only [SW,hbk]
 refine .refl ⟨Nat.le_refl _,PFun.to o82 rfl (POps.wp ?_)⟩
 simp only [SW,hbk]
 refine .refl ⟨Nat.le_refl _,PFun.to o83 rfl (POps.wp ?_)⟩
 simp only [SW,hbk]
 refine .refl ⟨Nat.le_refl _,PToE.mono (PToB.toE o84 (by simp only [nmL,nmP,Bool.and_self,m1,m2]) (Nat.le_refl _)) ?_⟩
 rintro r ⟨nx',H'⟩ ⟨rfl,hK,hn'⟩
 simp only at hK hn'
 refine POps.wp ?_
 simp only [SW]
 repeat (refine PRun.wpn rfl ?_;simp only [wp,or_true,true_and,reduceCtorEq])
 exact .refl ⟨_,rfl,rfl⟩
end
end Go.Proofs.YtnpoloachkcadaaGreatDoor.Ai
namespace Go.Proofs.YtnpoloachkcadaaGreatDoor.Ai
set_option linter.unusedSimpArgs false
open Go
set_option linter.unusedVariables false
set_option linter.unusedSectionVars false
set_option maxRecDepth 10000
set_option maxHeartbeats 4000000
mutual
def Mt.nodes:Mt→List (Nat × Nat)
 | .mk _ _ _ id ks=>(id,ks.length)::nodesL ks
def nodesL:List Mt→List (Nat × Nat)
 | []=>[]
 | k::ks=>k.nodes++nodesL ks
end
theorem nodesL_app:∀ a b:List Mt,nodesL (a++b)=nodesL a++nodesL b
 | [],b=>by simp [nodesL]
 | k::a,b=>by simp [nodesL,nodesL_app a b,List.append_assoc]
mutual
theorem nodes_ids:∀ {t:Mt} {p:Nat × Nat},p∈t.nodes→p.2 ≠ 0→p.1∈t.ids
 | .mk rm o n id ks,p,h,h0=>by
  simp only [Mt.nodes,List.mem_cons,Mt.ids,List.mem_append] at h ⊢
  rcases h with rfl | h
  ·left
   rw [if_pos (.inr (fun e=>h0 (by show ks.length=0;rw [e];rfl)))];simp
  ·exact .inr (nodesL_ids h h0)
theorem nodesL_ids:∀ {ts:List Mt} {p:Nat × Nat},p∈nodesL ts→p.2 ≠ 0→p.1∈idsL ts
 | [],p,h,_=>by simp [nodesL] at h
 | t::ts,p,h,h0=>by
  simp only [nodesL,List.mem_append,idsL] at h ⊢
  exact h.imp (fun h=>nodes_ids h h0) fun h=>nodesL_ids h h0
end
mutual
theorem nodes_size:∀ t:Mt,t.nodes.length=t.fm.size
 | .mk rm o n id ks=>by simp only [Mt.nodes,List.length_cons,Mt.fm,Fm.size,nodesL_size ks];omega
theorem nodesL_size:∀ ts:List Mt,(nodesL ts).length=sizes (fms ts)
 | []=>rfl
 | t::ts=>by simp only [nodesL,List.length_append,fms,sizes,nodes_size t,nodesL_size ts]
end
theorem sltP (id n:Nat):slt false id n=slotP (id,n):=by
 unfold slt slotP
 simp only [SW]
def BkPost (nx bk j:Nat) (ps qs:List (Nat × Nat)) (H:List (Nat × PObj)) (r:PV) (π':PW):Prop:=
 r=tupP []∧nx≤π'.next∧∃ j',nx≤j'∧BookI π'.heap π'.next bk j' (ps++qs)∧∀ id o,id < nx→id ≠ bk→(ps ≠ []→id ≠ j)→look H id=some o→look π'.heap id=some o
def Off (bk:Nat) (ps:List (Nat × Nat)) (ids:List Nat):Prop:=(∀ i∈ids,bk < i)∧∀ q∈ps,q.2 ≠ 0→q.1∉ids
section
variable {C:Ctx} (hm:C.P.follows .mixedOrders=true) (hC:TabOK C.P C.ng C.ts Tryz.tab)
include hm hC
theorem books_of (bk:Nat) (ts:List Mt) (hl:sizes (fms ts) < 2 ^ 36) (hk:∀ (i:Nat) (k:Mt),ts[i]? = some k→k.rmI false→∀ nx H j ps,BookI H nx bk j ps→ps.length + k.fm.size < 2 ^ 38→InH H nx k→k.ids.Nodup→Off bk ps k.ids→PToB C nx 37 [.ptr bk 0,mtP k] ⟨nx,H⟩ (BkPost nx bk j ps k.nodes H))
  (o:Nat) (nm:ByteArray) (id nx j:Nat) (ps:List (Nat × Nat)) (H:List (Nat × PObj)) (hb:BookI H nx bk j ps) (hps:ps.length + (sizes (fms ts) + 1) < 2 ^ 38) (hr:rmIL false ts) (hin:InH H nx (.mk false o nm id ts)) (hnd:(Mt.mk false o nm id ts).ids.Nodup) (hoff:Off bk ps (Mt.mk false o nm id ts).ids) :
  PToB C nx 36 [.ptr bk 0,slotP (id,ts.length)] ⟨nx,H⟩ (BkPost nx bk j ps (Mt.mk false o nm id ts).nodes H):=by
 obtain ⟨hb1,ex,hbk⟩:=hb.hbk
 have hlen:=len_sizes (fms ts)
 rw [fms_len] at hlen
 have bnx:Nat.ble nx nx=true:=Nat.ble_eq_true_of_le (Nat.le_refl _)
 have bn1:Nat.ble nx (nx + 1)=true:=Nat.ble_eq_true_of_le (by omega)
 have bn2:Nat.ble nx (nx + 1 + 1)=true:=Nat.ble_eq_true_of_le (by omega)
 have hin0:=hin
 simp only [SW,InH,false_or,exC] at hin
 obtain ⟨exl,hp⟩:∃ exl,(id,ts.length).2 ≠ 0→bk < (id,ts.length).1∧(id,ts.length).1 < nx∧(id,ts.length).2 < 2 ^ 36∧(mL ts).length=(id,ts.length).2 * 3∧look H (id,ts.length).1=some (.cells (mL ts) 27 3 exl false [])∧∀ q∈ps,q.2 ≠ 0→q.1 ≠ (id,ts.length).1:=by
  by_cases hne:ts=[]
  ·exact ⟨true,fun h0=>absurd (by rw [hne];rfl) h0⟩
  ·obtain ⟨h1,ex,_,h2⟩:=hin.1 hne
   have hmem:id∈(Mt.mk false o nm id ts).ids:=by simp only [Mt.ids];rw [if_pos (.inr hne)];simp
   exact ⟨ex,fun h0=>⟨hoff.1 id hmem,h1,by show ts.length < _;omega,mL_len ts,h2,fun q hq h3 e=>hoff.2 q hq h3 (by rw [e];exact hmem)⟩⟩
 refine PToB.of_body hm hC (show Tryz.tab.get 36=some Tryz.c36 from rfl) ?_
 simp only [SW,Tryz.c36,startP,Nat.reduceAdd,Nat.reduceSub,List.replicate]
 refine PRun.seqc (fun t π=>t=(.ptr bk 0::slotP (id,ts.length)::.junk::.junk::.junk::.junk::.junk::.junk::.junk::.junk::.junk::.junk::.junk::.junk::.junk::.junk::.junk::.junk::.junk::.junk::.junk::.junk::.junk::.junk::.junk::.junk::.junk::[])∧∃ H1,π=⟨nx + 1 + 1,H1⟩∧BookI H1 (nx + 1 + 1) bk (nx + 1) (ps++[(id,ts.length)])∧∀ id o,id < nx→id ≠ bk→(ps ≠ []→id ≠ j)→look H id=some o→look H1 id=some o) ?_ ?_
 ·have e1:¬ bk=nx + 1:=by omega
  have e2:¬ bk=nx:=by omega
  have fin:∀ v,slotP (id,ts.length)=v→(v = .lit (.slice none 0 0)∨v = .loc id 0 ts.length ts.length)→PRun C nx
    (ICode.ops [⟨some 5,.p (.mov (.t 0)),none⟩,⟨some 6,.p (.mov (.t 0)),none⟩,⟨some 7,.p (.nilchk [("Error",185)] (.t 6)),none⟩,⟨some 8,.p (.faddr 12 (.t 7)),none⟩,⟨some 9,.r (.ld (.t 8)),none⟩,⟨some 10,.p (.mov (.t 1)),none⟩,⟨some 11,.n (.buildSlice 25 1 1 [.slice none 0 0] [(0,1,.t 10)]),none⟩,⟨some 12,.e (.append 25 1 24 [.slice none 0 0] (.t 9) (.t 11)),none⟩,⟨some 13,.p (.nilchk [("Error",185)] (.t 5)),none⟩,⟨some 14,.p (.faddr 12 (.t 13)),none⟩,⟨none,.e (.st 1 (.t 14) (.t 12)),none⟩])
    (.ptr bk 0::v::.junk::.junk::.junk::.junk::.junk::.junk::.junk::.junk::.junk::.junk::.junk::.junk::.junk::.junk::.junk::.junk::.junk::.junk::.junk::.junk::.junk::.junk::.junk::.junk::.junk::[]) ⟨nx,H⟩ fun x t π=>match x with
     | .normal=>Gh C nx t π fun t π=>t=(.ptr bk 0::v::.junk::.junk::.junk::.junk::.junk::.junk::.junk::.junk::.junk::.junk::.junk::.junk::.junk::.junk::.junk::.junk::.junk::.junk::.junk::.junk::.junk::.junk::.junk::.junk::.junk::[])∧∃ H1,π=⟨nx + 1 + 1,H1⟩∧BookI H1 (nx + 1 + 1) bk (nx + 1) (ps++[(id,ts.length)])∧∀ id o,id < nx→id ≠ bk→(ps ≠ []→id ≠ j)→look H id=some o→look H1 id=some o
     | _=>False:=by
   intro v hs hv
   by_cases hps:ps=[]
   ·subst hps
    rw [show slotP (j,([]:List (Nat × Nat)).length) = .lit (.slice none 0 0) from rfl] at hbk
    have e3:slotP (nx + 1,(([]:List (Nat × Nat))++[(id,ts.length)]).length) = .loc (nx + 1) 0 1 1:=slotP_loc (by simp)
    rcases hv with rfl | rfl
    all_goals
     repeat (refine PRun.wpn rfl ?_;simp only [SW,↓reduceIte,Nat.reduceAdd,Nat.reduceMul,Nat.reduceLeDiff,Nat.reduceLT,hbk,e1,e2,bn2,bne_self_eq_false])
     refine Gh.mask mkPuC9 ?_
     refine ⟨rfl,_,rfl,hb.snoc (l:=mL ts) hp (by omega) (by omega) (by omega) ⟨ex,?_⟩ ⟨[],by simp only [SW,List.map_cons,List.map_nil,hs]⟩ (fun id o h1 h2 _ h4=>look_push (look_push (look_set_ne h4 h2) h1) (by omega)),fun id o h1 h2 _ h4=>look_push (look_push (look_set_ne h4 h2) h1) (by omega)⟩
     rw [e3,look_ne e1,look_ne e2,look_setO,if_pos rfl,hbk];rfl
   ·obtain ⟨hbj,hjn,al,hj⟩:=hb.arr hps
    have hK:ps.length ≠ 0:=fun e=>hps (List.length_eq_zero_iff.1 e)
    rw [slotP_loc hK] at hbk
    have r1:¬ ps.length + 1≤ps.length:=by omega
    have r2:¬ 140737488355328 < (2 * (ps.length + 1) + 768) * 24:=by omega
    have r4:(ps.map slotP).length=ps.length:=List.length_map _
    have r3:=cut_all r4
    have r5:¬ j=nx:=by omega
    have hbk2:=fun o=>look_set_ne (c:=j) (o:=o) hbk (by omega)
    have e3:slotP (nx + 1,(ps++[(id,ts.length)]).length) = .loc (nx + 1) 0 (ps.length + 1) (ps.length + 1):=by rw [slotP_loc (by simp),List.length_append];rfl
    rcases hv with rfl | rfl
    all_goals
     repeat (refine PRun.wpn rfl ?_;simp only [SW,↓reduceIte,hbk,hbk2,e1,e2,bn2,hj,r1,r2,r3,r4,r5,bne_self_eq_false])
     refine Gh.mask mkPuC9 ?_
     refine ⟨rfl,_,rfl,hb.snoc (l:=mL ts) hp (by omega) (by omega) (by omega) ⟨ex,?_⟩ ⟨j::al,by simp only [look,if_true,List.map_append,List.map_cons,List.map_nil,hs]⟩ (fun id o h1 h2 h3 h4=>look_push (look_push (look_set_ne (look_set_ne h4 (h3 hps)) h2) h1) (by omega)),fun id o h1 h2 h3 h4=>look_push (look_push (look_set_ne (look_set_ne h4 (h3 hps)) h2) h1) (by omega)⟩
     rw [e3,look_ne e1,look_ne e2,look_setO,if_pos rfl,hbk2];rfl
  exact fin _ rfl (by
   unfold slotP
   split
   ·exact .inl rfl
   ·exact .inr rfl)
 ·rintro t π ⟨rfl,H1,rfl,hB1,hK1⟩
  repeat (refine PRun.wpn rfl ?_;simp only [SW,reduceCtorEq])
  refine PRun.gh (Gh.mask mkPuC10 ?_)
  simp only [mkPuC10,↓reduceIte,Bool.false_eq_true,maskP]
  refine PRun.loopG (fun m t π=>∃ (i nx' j':Nat) (H':List (Nat × PObj)),t=(.ptr bk 0::slotP (id,ts.length)::.junk::.junk::.lit (.int .i64 (i:Nat))::.junk::.junk::.junk::.junk::.junk::.junk::.junk::.junk::.junk::.junk::.junk::.junk::.junk::.junk::.junk::.junk::.junk::.junk::.junk::.junk::.junk::.junk::[])∧i≤ts.length∧m=ts.length - i∧π=⟨nx',H'⟩∧nx + 1 + 1≤nx'∧nx≤j'∧BookI H' nx' bk j' (ps++[(id,ts.length)]++nodesL (ts.take i))∧∀ id o,id < nx→id ≠ bk→(ps ≠ []→id ≠ j)→look H id=some o→look H' id=some o) ?_ ts.length _ _ ⟨0,nx + 1 + 1,nx + 1,H1,rfl,by omega,rfl,rfl,by omega,by omega,by simpa [nodesL] using hB1,hK1⟩
  rintro m t π ⟨i,nx',j',H',rfl,hi,rfl,rfl,hnx,hj',hB',hK'⟩
  by_cases hlt:(i:Int) < (ts.length:Nat)
  ·obtain ⟨k,hki⟩:∃ k,ts[i]? = some k:=⟨ts[i]'(by omega),List.getElem?_eq_getElem (by omega)⟩
   have hne:ts ≠ []:=fun e=>by rw [e] at hki;simp at hki
   have hids:(Mt.mk false o nm id ts).ids=id::idsL ts:=by simp only [Mt.ids];rw [if_pos (.inr hne)];rfl
   rw [hids] at hnd hoff
   obtain ⟨hnd1,hnd2⟩:=List.nodup_cons.1 hnd
   obtain ⟨hid,exi,_,hli⟩:=hin.1 hne
   have hlen0:ts.length ≠ 0:=by omega
   have ho:=hb.off hli
   have hli':=hK' id _ hid ho.1 ho.2 hli
   have hcut:cutP 3 ((mL ts).drop (i * 3))=some (mC k):=by have:=mL_cut (ext:=[]) hki;rwa [List.append_nil] at this
   have hkin:∀ x∈k.ids,x∈idsL ts:=idsL_get hki
   have hsplit:idsL ts=idsL (ts.take i)++(k.ids++idsL (ts.drop (i + 1))):=by
    have h2:ts=ts.take i++(k::ts.drop (i + 1)):=by rw [← drop_get hki,List.take_append_drop]
    conv=>lhs;rw [h2,idsL_app]
    simp only [idsL]
   have hnd3:=hnd2
   rw [hsplit] at hnd3
   obtain ⟨_,hnd4,hnd5⟩:=List.nodup_append.1 hnd3
   obtain ⟨hnd6,_,_⟩:=List.nodup_append.1 hnd4
   have hIk:=inL_get hin.2 hki
   have hIk':InH H' nx' k:=hIk.keep (by omega) fun x hx y hy=>by
    obtain ⟨rm',ks',ex',h3⟩:=hIk.obj x hx
    have:=hb.off h3
    exact hK' x y (hIk.lt x hx) this.1 this.2 hy
   have hsz:sizes (fms (ts.take (i + 1)))≤sizes (fms ts):=by rw [fms_map,fms_map,List.map_take];exact sizes_le _ _
   have htk:ts.take (i + 1)=ts.take i++[k]:=by rw [List.take_add_one,hki];rfl
   have hsz2:sizes (fms (ts.take (i + 1)))=sizes (fms (ts.take i)) + k.fm.size:=by rw [htk,fms_app,sizes_app];simp [fms,sizes]
   have hnd':nodesL (ts.take (i + 1))=nodesL (ts.take i)++k.nodes:=by rw [htk,nodesL_app];simp [nodesL]
   have hc:=hk i k hki (rmL_get hr hki) nx' H' j' _ hB' (by simp only [SW,List.length_append,nodesL_size];omega) hIk' hnd6 ⟨fun x hx=>hoff.1 x (List.mem_cons_of_mem _ (hkin x hx)),fun q hq h0 hqk=>by
    rcases List.mem_append.1 hq with hq | hq
    ·rcases List.mem_append.1 hq with hq | hq
     ·exact hoff.2 q hq h0 (List.mem_cons_of_mem _ (hkin _ hqk))
     ·obtain rfl:=List.mem_singleton.1 hq
      exact hnd1 (hkin _ hqk)
    ·exact hnd5 _ (nodesL_ids hq h0) _ (List.mem_append_left _ hqk) rfl⟩
   have w1:IntKind.i64.wrap (((i:Nat):Int) + 1)=((i + 1:Nat):Int):=by rw [wrap64 (by omega) (by omega)];omega
   have hs:=slotP_loc (p:=(id,ts.length)) hlen0
   have hnm:=nm_mC hIk'
   have hm0:mtP k = .agg (mC k):=rfl
   rw [hm0] at hc
   have hq3':(mC k).length=3:=mC_len k
   generalize mC k=mc at hcut hc hnm hq3'
   match mc,hq3' with
   | [c0,c1,c2],_=>
   simp only [nmL,Bool.and_true,Bool.and_eq_true] at hnm
   obtain ⟨n2,n3,n4⟩:=hnm
   have n1:Nat.blt id nx'=true:=blt_t (by omega)
   have n0:Nat.blt bk nx'=true:=blt_t (by omega)
   rw [hs]
   repeat (refine PRun.wpn rfl ?_;simp only [SW,↓reduceIte,ltB_t hlt,hlt,hli',hcut])
   refine .refl ⟨show nx≤nx' by omega,PToE.mono (PToB.toE hc (by simp only [nmL,nm_ptr,nm_agg,nm_junk,nm_loc,n0,n1,n2,n3,n4,nm_lit,Bool.and_self]) (by omega)) ?_⟩
   rintro r ⟨nx2,H2⟩ ⟨rfl,g1,j2,g2,g3,g4⟩
   dsimp only at g1 g2 g3 g4
   refine POps.wp ?_
   simp only [wo_nil,setP,tupP]
   repeat (refine PRun.wpn rfl ?_;simp only [SW,w1])
   refine Gh.mask mkPuC10 ?_
   refine ⟨ts.length - (i + 1),by omega,i + 1,nx2,j2,H2,rfl,by omega,rfl,rfl,by omega,by omega,by rw [hnd',← List.append_assoc];exact g3,fun x y h1 h2 h3 h4=>g4 x y (by omega) h2 (fun _ e=>?_) (hK' x y h1 h2 h3 h4)⟩
   omega
  ·have hil:i=ts.length:=by omega
   have hend:BookI H' nx' bk j' (ps++(Mt.mk false o nm id ts).nodes):=by
    rw [hil,List.take_length,List.append_assoc] at hB'
    exact hB'
   have hsl:∀ v,slotP (id,ts.length)=v→(v = .lit (.slice none 0 0)∨v = .loc id 0 ts.length ts.length)→True:=fun _ _ _=>trivial
   by_cases hne:ts.length=0
   ·rw [slotP_nil (p:=(id,ts.length)) hne]
    rw [hne] at hlt
    repeat (refine PRun.wpn rfl ?_;simp only [SW,↓reduceIte])
    exact .refl ⟨_,rfl,rfl,by show nx≤nx';omega,j',by omega,hend,hK'⟩
   ·rw [slotP_loc (p:=(id,ts.length)) hne]
    repeat (refine PRun.wpn rfl ?_;simp only [SW,↓reduceIte,ltB_f hlt])
    exact .refl ⟨_,rfl,rfl,by show nx≤nx';omega,j',by omega,hend,hK'⟩
theorem book_m (bk:Nat):∀ (n:Nat) (t:Mt),t.fm.size≤n→n < 2 ^ 36→t.rmI false→∀ nx H j ps,BookI H nx bk j ps→ps.length + t.fm.size < 2 ^ 38→InH H nx t→t.ids.Nodup→Off bk ps t.ids→PToB C nx 37 [.ptr bk 0,mtP t] ⟨nx,H⟩ (BkPost nx bk j ps t.nodes H):=by
 intro n
 induction n with
 | zero=>intro t h;have:=t.fm.size_pos;omega
 | succ n ih=>
  intro t hf hn hr nx H j ps hB hps hin hnd hoff
  obtain ⟨rm,o,nm,id,ks⟩:=t
  obtain ⟨rfl,hrk⟩:=hr
  simp only [Mt.fm,Fm.size] at hf hps
  have hbx:=fun o=>hin.keep (nx':=nx + 1) (H':=(nx,o)::H) (by omega) fun j hj y hy=>by
   rw [look_ne (by have:=hin.lt j hj;omega)];exact hy
  have hc:=fun ob=>books_of hm hC bk ks (by omega) (fun i k hk=>by
   have h1:(fms ks)[i]? = some k.fm:=by
    rw [fms_map,List.getElem?_map,hk];rfl
   have:=size_kid h1
   exact ih k (by omega) (by omega)) o nm id (nx + 1) j ps ((nx,ob)::H) (hB.push _) (by omega) hrk (hbx ob) hnd hoff
  have n2:Nat.blt nx (nx + 1)=true:=blt_t (by omega)
  have n0:Nat.blt bk (nx + 1)=true:=blt_t (by have:=hB.hbk.1;omega)
  have bnx:Nat.ble nx nx=true:=Nat.ble_eq_true_of_le (Nat.le_refl _)
  have key:∀ v,slotP (id,ks.length)=v→(v = .lit (.slice none 0 0)∨v = .loc id 0 ks.length ks.length)→PToB C nx 37 [.ptr bk 0,.agg [.lit (.int .u8 (o:Nat)),.lit (.string nm),v]] ⟨nx,H⟩ (BkPost nx bk j ps (Mt.mk false o nm id ks).nodes H):=by
   intro v hs hv
   have hnv:nmP (nx + 1) v=true:=by
    rw [← hs]
    unfold slotP
    split
    ·rfl
    ·rename_i h0
     rw [nm_loc]
     refine blt_t ?_
     have:=hin.lt id (by simp only [Mt.ids];rw [if_pos (.inr fun e=>h0 (by show ks.length=0;rw [e];rfl))];simp)
     show id < nx + 1
     omega
   rw [hs] at hc
   refine PToB.of_body hm hC (show Tryz.tab.get 37=some Tryz.c37 from rfl) ?_
   simp only [SW,Tryz.c37,startP,Nat.reduceAdd,Nat.reduceSub,List.replicate]
   rcases hv with rfl | rfl
   all_goals
    repeat (refine PRun.wpn rfl ?_;simp only [SW,↓reduceIte,reduceCtorEq])
    refine .refl ⟨show nx≤nx + 1 by omega,PToE.mono (PToB.toE (hc _) (by simp only [nmL,nm_ptr,nm_agg,nm_junk,n0,n2,hnv,nm_lit,Bool.and_self]) (by omega)) ?_⟩
    rintro r ⟨nx2,H2⟩ ⟨rfl,g1,j2,g2,g3,g4⟩
    dsimp only at g1 g2 g3 g4
    refine POps.wp ?_
    simp only [wo_nil,setP,tupP]
    refine .refl ⟨_,rfl,rfl,by show nx≤nx2;omega,j2,by omega,g3,fun x y h1 h2 h3 h4=>g4 x y (by omega) h2 h3 (by rw [look_ne (by omega)];exact h4)⟩
  have:=key _ rfl (by
   unfold slotP
   split
   ·exact .inl rfl
   ·exact .inr rfl)
  simp only [mtP,mC,sltP]
  exact this
end
end Go.Proofs.YtnpoloachkcadaaGreatDoor.Ai
