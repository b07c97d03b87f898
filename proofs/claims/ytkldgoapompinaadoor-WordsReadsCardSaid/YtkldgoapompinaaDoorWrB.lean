/- A PART OF THE PROOF: a step of the proof that the law's code does what its contracts say, by an interpreter of the program's functions that is proved to be sound. -/
import Derived.Test.YtkldgoapompinaaDoorWrA
import Derived.Test.YtkldgoapompinaaDoorPv4
namespace Go.Proofs.YtkldgoapompinaaDoor.Ai
open Go
set_option linter.unusedVariables false
set_option linter.unusedSectionVars false
set_option maxRecDepth 10000
set_option maxHeartbeats 4000000
def slotP (p:Nat × Nat):PV:=if p.2=0 then .lit (.slice none 0 0) else .loc p.1 0 p.2 p.2
theorem slotP_nil {p:Nat × Nat} (h:p.2=0):slotP p = .lit (.slice none 0 0):=by unfold slotP;rw [if_pos h]
theorem slotP_loc {p:Nat × Nat} (h:p.2 ≠ 0):slotP p = .loc p.1 0 p.2 p.2:=by unfold slotP;rw [if_neg h]
def w1 (i k:Nat):Int:=IntKind.u16.wrap (IntKind.i64.wrap (IntKind.i64.wrap ((i:Int) * 1009) + IntKind.i64.wrap ((k:Int) * 31)))
def w2 (i k:Nat):Int:=IntKind.u16.wrap (IntKind.i64.wrap (IntKind.i64.wrap (IntKind.i64.wrap (-1 - (i:Int)) * 1009) + IntKind.i64.wrap ((k:Int) * 31)))
def mk1 (i k:Nat):PV:=.lit (.int .u16 (w1 i k))
def mk2 (i k:Nat):PV:=.lit (.int .u16 (w2 i k))
def Rdb (H:List (Nat × PObj)) (nx id:Nat) (cs:List PV):Prop:=id < nx∧∃ ty esz ex ret al,look H id=some (.cells cs ty esz ex ret al)
theorem Rdb.push {H:List (Nat × PObj)} {nx id:Nat} {cs:List PV} (h:Rdb H nx id cs) (o:PObj):Rdb ((nx,o)::H) (nx + 1) id cs:=by
 obtain ⟨h1,ty,esz,ex,ret,al,h2⟩:=h
 refine ⟨by omega,ty,esz,ex,ret,al,?_⟩
 simp only [look]
 rw [if_neg (by omega)];exact h2
theorem Rdb.retire {H:List (Nat × PObj)} {nx id c:Nat} {cs cs0:List PV} {ty esz:Nat} {ex r r':Bool} {al al':List Nat} (hc:look H c=some (.cells cs0 ty esz ex r al)) (h:Rdb H nx id cs):Rdb (setO H c (.cells cs0 ty esz ex r' al')) nx id cs:=by
 obtain ⟨h1,ty',esz',ex',ret,al2,h2⟩:=h
 refine ⟨h1,?_⟩
 rw [look_setO]
 split
 ·rename_i e;subst e
  rw [hc] at h2;cases h2
  exact ⟨_,_,_,_,_,by rw [hc];rfl⟩
 ·exact ⟨_,_,_,_,_,h2⟩
theorem look_push {H:List (Nat × PObj)} {nx id:Nat} {o x:PObj} (h:look H id=some x) (hl:id < nx):look ((nx,o)::H) id=some x:=by
 simp only [look];rw [if_neg (by omega)];exact h
theorem look_set_ne {H:List (Nat × PObj)} {id c:Nat} {o x:PObj} (h:look H id=some x) (hl:id ≠ c):look (setO H c o) id=some x:=by
 rw [look_setO,if_neg hl];exact h
structure Lists (H:List (Nat × PObj)) (nx b j:Nat) (ps:List (Nat × Nat)) (Mk:Nat→Nat→Prop):Prop where
 arr:Rdb H nx j (ps.map slotP)
 lst:∀ (i:Nat) (p:Nat × Nat),ps[i]? = some p→p.2 ≠ 0→b≤p.1∧p.1 < nx∧∃ cs,cs.length=p.2∧look H p.1=some (.cells cs 54 1 false false [])∧∀ k,k < p.2→Mk i k→cs[k]? = some (mk1 i k)
def Distinct (j:Nat) (ps:List (Nat × Nat)):Prop:=(∀ (i i':Nat) (p p':Nat × Nat),ps[i]? = some p→ps[i']? = some p'→p.2 ≠ 0→p'.2 ≠ 0→p.1=p'.1→i=i')∧∀ (i:Nat) (p:Nat × Nat),ps[i]? = some p→p.2 ≠ 0→p.1 ≠ j
theorem nth_slot {ps:List (Nat × Nat)} {i:Nat} {p:Nat × Nat} (h:ps[i]? = some p):nthP (ps.map slotP) i=some (slotP p):=by
 rw [nthP_eq,List.getElem?_map,h];rfl
theorem splice1 {cs:List PV} {k:Nat} (v:PV) (h:k < cs.length):spliceP cs k [v]=some (cs.set k v):=by
 rw [spliceP_eq cs k [v] (by simp only [List.length_cons,List.length_nil];omega),List.set_eq_take_append_cons_drop,if_pos h];rfl
theorem Lists.mark {H:List (Nat × PObj)} {nx b j:Nat} {ps:List (Nat × Nat)} (hd:Distinct j ps) {i k:Nat} {p:Nat × Nat} (hp:ps[i]? = some p) (hp0:p.2 ≠ 0) (hk:k < p.2) {cs:List PV}
  (hc:look H p.1=some (.cells cs 54 1 false false [])) (hcl:cs.length=p.2) (h:Lists H nx b j ps fun i' k'=>i' < i∨(i'=i∧k' < k)) :
  Lists (setO H p.1 (.cells (cs.set k (mk1 i k)) 54 1 false false [])) nx b j ps fun i' k'=>i' < i∨(i'=i∧k' < k + 1):=by
 constructor
 ·obtain ⟨h1,ty,esz,ex,ret,al,h2⟩:=h.arr
  exact ⟨h1,ty,esz,ex,ret,al,look_set_ne h2 fun e=>hd.2 i p hp hp0 e.symm⟩
 ·intro i' p' hp' h0
  obtain ⟨g1,g2,cs',g3,g4,g5⟩:=h.lst i' p' hp' h0
  refine ⟨g1,g2,?_⟩
  by_cases he:i'=i
  ·subst he
   rw [hp] at hp';cases hp'
   rw [hc] at g4;cases g4
   refine ⟨cs.set k (mk1 i' k),by rw [List.length_set];exact hcl,by rw [look_setO,if_pos rfl,hc];rfl,fun k' hk' hm=>?_⟩
   by_cases hkk:k'=k
   ·subst hkk;rw [List.getElem?_set_self (by omega)]
   ·rw [List.getElem?_set_ne (fun e=>hkk e.symm)]
    exact g5 k' hk' (hm.imp id fun h=>⟨rfl,by have:=h.2;omega⟩)
  ·refine ⟨cs',g3,look_set_ne g4 fun e=>he (hd.1 i' i p' p hp' hp h0 hp0 e),fun k' hk' hm=>g5 k' hk' ?_⟩
   rcases hm with hm | ⟨hm,_⟩
   ·exact .inl hm
   ·exact absurd hm he
theorem Lists.done {H:List (Nat × PObj)} {nx b j:Nat} {ps:List (Nat × Nat)} {i:Nat} {p:Nat × Nat} (hp:ps[i]? = some p) (h:Lists H nx b j ps fun i' k'=>i' < i∨(i'=i∧k' < p.2)):Lists H nx b j ps fun i' _=>i' < i + 1:=
 ⟨h.arr,fun i' p' hp' h0=>by
  obtain ⟨g1,g2,cs,g3,g4,g5⟩:=h.lst i' p' hp' h0
  refine ⟨g1,g2,cs,g3,g4,fun k hk hm=>g5 k hk ?_⟩
  by_cases he:i'=i
  ·subst he;rw [hp] at hp';cases hp';exact .inr ⟨rfl,hk⟩
  ·exact .inl (by omega)⟩
theorem Lists.none {H:List (Nat × PObj)} {nx b j:Nat} {ps:List (Nat × Nat)} {i:Nat} {p:Nat × Nat} (hp:ps[i]? = some p) (h0:p.2=0) (h:Lists H nx b j ps fun i' _=>i' < i):Lists H nx b j ps fun i' _=>i' < i + 1:=
 ⟨h.arr,fun i' p' hp' h0'=>by
  obtain ⟨g1,g2,cs,g3,g4,g5⟩:=h.lst i' p' hp' h0'
  refine ⟨g1,g2,cs,g3,g4,fun k hk hm=>g5 k hk ?_⟩
  by_cases he:i'=i
  ·subst he;rw [hp] at hp';cases hp';exact absurd h0 h0'
  ·show i' < i;omega⟩
structure Long (H:List (Nat × PObj)) (nx b j lv i:Nat) (ps xs:List (Nat × Nat)):Prop where
 bn:b≤nx
 arr:Rdb H nx j (ps.map slotP)
 old:∀ (i':Nat) (p:Nat × Nat),ps[i']? = some p→p.2 ≠ 0→b≤p.1∧∃ cs,Rdb H nx p.1 cs∧cs.length=p.2∧∀ k,k < p.2→cs[k]? = some (mk1 i' k)
 live:∀ (i':Nat) (p:Nat × Nat),ps[i']? = some p→p.2 ≠ 0→lv≤i'→∃ cs,look H p.1=some (.cells cs 54 1 false false [])
 xl:xs.length=i
 new:∀ (i':Nat) (p:Nat × Nat),i' < i→ps[i']? = some p→∃ x cs,xs[i']? = some (x,p.2 + 16)∧Rdb H nx x cs∧cs.length=p.2 + 16∧(∀ k,k < p.2→cs[k]? = some (mk1 i' k))∧∀ k,k < 16→cs[p.2 + k]? = some (mk2 i' k)
theorem Long.push {H:List (Nat × PObj)} {nx b j lv i:Nat} {ps xs:List (Nat × Nat)} (h:Long H nx b j lv i ps xs) (o:PObj):Long ((nx,o)::H) (nx + 1) b j lv i ps xs:=
 ⟨by have:=h.bn;omega,h.arr.push o,fun i' p hp h0=>by
  obtain ⟨g0,cs,g1,g2,g3⟩:=h.old i' p hp h0
  exact ⟨g0,cs,g1.push o,g2,g3⟩,fun i' p hp h0 hl=>by
  obtain ⟨cs,g1⟩:=h.live i' p hp h0 hl
  obtain ⟨_,_,g2,_⟩:=h.old i' p hp h0
  exact ⟨cs,look_push g1 g2.1⟩,h.xl,fun i' p hi hp=>by
  obtain ⟨x,cs,g1,g2,g3⟩:=h.new i' p hi hp
  exact ⟨x,cs,g1,g2.push o,g3⟩⟩
theorem Long.retire {H:List (Nat × PObj)} {nx b j lv i c:Nat} {ps xs:List (Nat × Nat)} (h:Long H nx b j lv i ps xs) {cs0:List PV} {ty esz:Nat} {ex r r':Bool} {al al':List Nat} (hc:look H c=some (.cells cs0 ty esz ex r al))
  (hl:∀ (i':Nat) (p:Nat × Nat),ps[i']? = some p→p.2 ≠ 0→lv≤i'→p.1 ≠ c):Long (setO H c (.cells cs0 ty esz ex r' al')) nx b j lv i ps xs:=
 ⟨h.bn,h.arr.retire hc,fun i' p hp h0=>by
  obtain ⟨g0,cs,g1,g2,g3⟩:=h.old i' p hp h0
  exact ⟨g0,cs,g1.retire hc,g2,g3⟩,fun i' p hp h0 hv=>by
  obtain ⟨cs,g1⟩:=h.live i' p hp h0 hv
  exact ⟨cs,look_set_ne g1 (hl i' p hp h0 hv)⟩,h.xl,fun i' p hi hp=>by
  obtain ⟨x,cs,g1,g2,g3⟩:=h.new i' p hi hp
  exact ⟨x,cs,g1,g2.retire hc,g3⟩⟩
theorem Long.later {H:List (Nat × PObj)} {nx b j lv i:Nat} {ps xs:List (Nat × Nat)} (h:Long H nx b j lv i ps xs):Long H nx b j (lv + 1) i ps xs:=
 ⟨h.bn,h.arr,h.old,fun i' p hp h0 hv=>h.live i' p hp h0 (by omega),h.xl,h.new⟩
def Cur (H:List (Nat × PObj)) (nx b c n k i:Nat) (ps:List (Nat × Nat)):Prop:=
 n + k=0∨(b≤c∧c < nx∧∃ cs al,cs.length=n + k∧look H c=some (.cells cs 54 1 false false al)∧(∀ k',k' < n→cs[k']? = some (mk1 i k'))∧(∀ k',k' < k→cs[n + k']? = some (mk2 i k'))∧∀ (i':Nat) (p:Nat × Nat),ps[i']? = some p→p.2 ≠ 0→i + 1≤i'→p.1 ≠ c)
def Lg (H:List (Nat × PObj)) (nx b jl i:Nat) (xs:List (Nat × Nat)):Prop:=
 i=0∨(b≤jl∧jl < nx∧∃ al,look H jl=some (.cells (xs.map slotP) 23 1 false false al))
theorem Lg.push {H:List (Nat × PObj)} {nx b jl i:Nat} {xs:List (Nat × Nat)} (h:Lg H nx b jl i xs) (o:PObj):Lg ((nx,o)::H) (nx + 1) b jl i xs:=by
 rcases h with h | ⟨h1,h2,al,h3⟩
 ·exact .inl h
 ·exact .inr ⟨h1,by omega,al,look_push h3 h2⟩
theorem Lg.retire {H:List (Nat × PObj)} {nx b jl i c:Nat} {xs:List (Nat × Nat)} (h:Lg H nx b jl i xs) {cs0:List PV} {esz:Nat} {ex r r':Bool} {al al':List Nat} (hc:look H c=some (.cells cs0 54 esz ex r al)):Lg (setO H c (.cells cs0 54 esz ex r' al')) nx b jl i xs:=by
 rcases h with h | ⟨h1,h2,al,h3⟩
 ·exact .inl h
 ·exact .inr ⟨h1,h2,al,look_set_ne h3 fun e=>by subst e;rw [hc] at h3;cases h3⟩
def Keep (b:Nat) (H0 H:List (Nat × PObj)):Prop:=∀ id o,id < b→look H0 id=some o→look H id=some o
theorem Keep.push {b nx:Nat} {H0 H:List (Nat × PObj)} (h:Keep b H0 H) (hb:b≤nx) (o:PObj):Keep b H0 ((nx,o)::H):=fun id x hi hx=>look_push (h id x hi hx) (by omega)
theorem Keep.set {b c:Nat} {H0 H:List (Nat × PObj)} (h:Keep b H0 H) (hb:b≤c) (o:PObj):Keep b H0 (setO H c o):=fun id x hi hx=>look_set_ne (h id x hi hx) (by omega)
structure KeepB (b B nx:Nat) (H0 H:List (Nat × PObj)):Prop where
 keep:Keep b H0 H
 nx:B≤nx
theorem KeepB.push {b B nx:Nat} {H0 H:List (Nat × PObj)} (h:KeepB b B nx H0 H) (hb:b≤nx) (o:PObj):KeepB b B (nx + 1) H0 ((nx,o)::H):=⟨h.keep.push hb o,Nat.le_succ_of_le h.nx⟩
theorem KeepB.set {b B nx c:Nat} {H0 H:List (Nat × PObj)} (h:KeepB b B nx H0 H) (hb:b≤c) (o:PObj):KeepB b B nx H0 (setO H c o):=⟨h.keep.set hb o,h.nx⟩
theorem Long.snoc {H:List (Nat × PObj)} {nx b j lv i c:Nat} {ps xs:List (Nat × Nat)} {p:Nat × Nat} {cs:List PV} (h:Long H nx b j lv i ps xs) (hp:ps[i]? = some p) (hc:Rdb H nx c cs) (hl:cs.length=p.2 + 16)
  (h1:∀ k,k < p.2→cs[k]? = some (mk1 i k)) (h2:∀ k,k < 16→cs[p.2 + k]? = some (mk2 i k)):Long H nx b j lv (i + 1) ps (xs++[(c,p.2 + 16)]):=
 ⟨h.bn,h.arr,h.old,h.live,by rw [List.length_append,h.xl];rfl,fun i' p' hi hp'=>by
  by_cases he:i'=i
  ·subst he
   rw [hp] at hp';cases hp'
   exact ⟨c,cs,by rw [List.getElem?_append_right (by rw [h.xl];omega),h.xl,Nat.sub_self];rfl,hc,hl,h1,h2⟩
  ·obtain ⟨x,cs',g1,g2⟩:=h.new i' p' (by omega) hp'
   exact ⟨x,cs',by rw [List.getElem?_append_left (by rw [h.xl];omega)];exact g1,g2⟩⟩
theorem mark_more {cs:List PV} {n k i:Nat} (hl:cs.length=n + k) (h1:∀ k',k' < n→cs[k']? = some (mk1 i k')) (h2:∀ k',k' < k→cs[n + k']? = some (mk2 i k')) :
  (∀ k',k' < n→(cs++[mk2 i k])[k']? = some (mk1 i k'))∧∀ k',k' < k + 1→(cs++[mk2 i k])[n + k']? = some (mk2 i k'):=by
 refine ⟨fun k' hk=>?_,fun k' hk=>?_⟩
 ·rw [List.getElem?_append_left (by omega)];exact h1 k' hk
 ·by_cases he:k'=k
  ·subst he;rw [List.getElem?_append_right (by omega),show n + k' - cs.length=0 by omega];rfl
  ·rw [List.getElem?_append_left (by omega)];exact h2 k' (by omega)
section
variable {C:Ctx} (hm:C.P.follows .mixedOrders=true) (hC:TabOK C.P C.ng C.ts Tryd.tab)
include hm hC
theorem own_ok (b B nx j:Nat) (ps:List (Nat × Nat)) (H0:List (Nat × PObj)) (hb:b≤nx) (hB:B≤nx) (hd:Distinct j ps) (hl:ps.length < 2 ^ 30) (hz:∀ (i:Nat) (p:Nat × Nat),ps[i]? = some p→p.2 < 2 ^ 36) (h0:Lists H0 nx b j ps fun _ _=>False) :
  PToB C B 66 [.loc j 0 ps.length ps.length] ⟨nx,H0⟩ fun r π'=>r = .lit (.bool true)∧Keep b H0 π'.heap∧B≤π'.next:=by
 refine PToB.of_body hm hC (show Tryd.tab.get 66=some Tryd.c66 from rfl) ?_
 simp only [Tryd.c66,startP,List.length_cons,List.length_nil,Nat.reduceAdd,Nat.reduceSub,List.replicate,List.cons_append,List.nil_append]
 have nb:∀ x:Int,neB x x=false:=fun x=>by simp [neB]
 have z0:=ltB_f (show ¬ (0:Int) < 0 by omega)
 have hbl:Nat.ble B nx=true:=Nat.ble_eq_true_of_le hB
 repeat (refine PRun.wpn rfl ?_;simp only [wp,wo_nil,wo_p,onO_s,pv_int,pv_bool,put_some,pevP,setP,reduceCtorEq,resPs,resP,tupP])
 refine PRun.gh (Gh.mask (true::false::false::true::false::false::false::false::false::false::false::false::false::false::false::false::false::false::false::false::false::false::false::false::false::false::false::false::false::false::false::false::false::false::false::false::false::false::false::false::false::false::false::false::false::false::false::false::false::false::false::false::false::false::false::false::false::false::false::false::false::false::false::false::false::false::false::false::false::false::false::false::false::false::false::false::false::false::false::false::false::false::false::false::false::false::false::false::false::false::false::false::false::false::false::false::false::false::false::false::false::false::false::false::false::false::false::false::false::false::false::false::false::false::false::false::false::false::false::false::false::false::false::false::false::false::false::false::false::false::false::false::false::false::false::[]) ?_)
 simp only [↓reduceIte,Bool.false_eq_true,maskP]
 refine PRun.loopG (fun m t π=>∃ (i:Nat) (H:List (Nat × PObj)),t=(.loc j 0 ps.length ps.length::.junk::.junk::.lit (.int .i64 (i:Nat))::.junk::.junk::.junk::.junk::.junk::.junk::.junk::.junk::.junk::.junk::.junk::.junk::.junk::.junk::.junk::.junk::.junk::.junk::.junk::.junk::.junk::.junk::.junk::.junk::.junk::.junk::.junk::.junk::.junk::.junk::.junk::.junk::.junk::.junk::.junk::.junk::.junk::.junk::.junk::.junk::.junk::.junk::.junk::.junk::.junk::.junk::.junk::.junk::.junk::.junk::.junk::.junk::.junk::.junk::.junk::.junk::.junk::.junk::.junk::.junk::.junk::.junk::.junk::.junk::.junk::.junk::.junk::.junk::.junk::.junk::.junk::.junk::.junk::.junk::.junk::.junk::.junk::.junk::.junk::.junk::.junk::.junk::.junk::.junk::.junk::.junk::.junk::.junk::.junk::.junk::.junk::.junk::.junk::.junk::.junk::.junk::.junk::.junk::.junk::.junk::.junk::.junk::.junk::.junk::.junk::.junk::.junk::.junk::.junk::.junk::.junk::.junk::.junk::.junk::.junk::.junk::.junk::.junk::.junk::.junk::.junk::.junk::.junk::.junk::.junk::.junk::.junk::.junk::.junk::.junk::.junk::[])∧i≤ps.length∧m=ps.length - i∧π=⟨nx,H⟩∧Lists H nx b j ps (fun i' _=>i' < i)∧KeepB b B nx H0 H) ?_ ps.length _ _ ⟨0,H0,rfl,by omega,rfl,rfl,⟨h0.arr,fun i p h1 h2=>by
  obtain ⟨g1,g2,cs,g3,g4,g5⟩:=h0.lst i p h1 h2
  exact ⟨g1,g2,cs,g3,g4,fun k _ hk=>absurd hk (by omega)⟩⟩,⟨fun _ _ _ h=>h,hB⟩⟩
 rintro m t π ⟨i,H,rfl,hi,rfl,rfl,hL,hK⟩
 by_cases hlt:(i:Int) < (ps.length:Nat)
 ·obtain ⟨p,hp⟩:∃ p,ps[i]? = some p:=⟨ps[i]'(by omega),List.getElem?_eq_getElem (by omega)⟩
  have hw:IntKind.i64.wrap (((i:Nat):Int) + 1)=((i + 1:Nat):Int):=by rw [wrap64 (by omega) (by omega)];omega
  have hpz:=hz i p hp
  have hn:=nth_slot hp
  by_cases hp0:p.2=0
  ·rw [slotP_nil hp0] at hn
   obtain ⟨hjn,ty,esz,ex,ret,al,hT⟩:=hL.arr
   repeat (refine PRun.wpn rfl ?_;simp only [wp,wo_nil,wo_p,onO_s,pv_t,pv_int,put_some,bi_lss,pevP,getP,setP,Option.map_some,↓reduceIte,ltB_t hlt])
   refine PRun.gh (Gh.mask (true::false::false::true::true::false::false::false::false::false::false::false::false::false::false::false::false::false::false::false::false::false::false::false::false::false::false::false::false::false::false::false::false::false::false::false::false::false::false::false::false::false::false::false::false::false::false::false::false::false::false::false::false::false::false::false::false::false::false::false::false::false::false::false::false::false::false::false::false::false::false::false::false::false::false::false::false::false::false::false::false::false::false::false::false::false::false::false::false::false::false::false::false::false::false::false::false::false::false::false::false::false::false::false::false::false::false::false::false::false::false::false::false::false::false::false::false::false::false::false::false::false::false::false::false::false::false::false::false::false::false::false::false::false::false::[]) ?_)
   simp only [↓reduceIte,Bool.false_eq_true,maskP]
   refine PRun.loopG (fun m t π=>∃ k:Nat,k=0∧t=(.loc j 0 ps.length ps.length::.junk::.junk::.lit (.int .i64 (i:Nat))::.lit (.int .i64 (k:Nat))::.junk::.junk::.junk::.junk::.junk::.junk::.junk::.junk::.junk::.junk::.junk::.junk::.junk::.junk::.junk::.junk::.junk::.junk::.junk::.junk::.junk::.junk::.junk::.junk::.junk::.junk::.junk::.junk::.junk::.junk::.junk::.junk::.junk::.junk::.junk::.junk::.junk::.junk::.junk::.junk::.junk::.junk::.junk::.junk::.junk::.junk::.junk::.junk::.junk::.junk::.junk::.junk::.junk::.junk::.junk::.junk::.junk::.junk::.junk::.junk::.junk::.junk::.junk::.junk::.junk::.junk::.junk::.junk::.junk::.junk::.junk::.junk::.junk::.junk::.junk::.junk::.junk::.junk::.junk::.junk::.junk::.junk::.junk::.junk::.junk::.junk::.junk::.junk::.junk::.junk::.junk::.junk::.junk::.junk::.junk::.junk::.junk::.junk::.junk::.junk::.junk::.junk::.junk::.junk::.junk::.junk::.junk::.junk::.junk::.junk::.junk::.junk::.junk::.junk::.junk::.junk::.junk::.junk::.junk::.junk::.junk::.junk::.junk::.junk::.junk::.junk::.junk::.junk::.junk::.junk::[])∧π=⟨nx,H⟩) ?_ 0 _ _ ⟨0,rfl,rfl,rfl⟩
   rintro m t π ⟨k,rfl,rfl,rfl⟩
   repeat (refine PRun.wpn rfl ?_;simp only [wp,wo_nil,wo_p,wo_r,onO_s,pv_t,pv_int,put_some,bi_add,bi_lss,pevP,pevR,getP,setP,PW.cs?,Option.map_some,Option.bind_some,Nat.mul_one,Int.natCast_nonneg,Int.toNat_natCast,nc0,and_self,↓reduceIte,Bool.false_eq_true,Nat.zero_add,hT,hlt,hn,z0,hw])
   refine Gh.mask (true::false::false::true::false::false::false::false::false::false::false::false::false::false::false::false::false::false::false::false::false::false::false::false::false::false::false::false::false::false::false::false::false::false::false::false::false::false::false::false::false::false::false::false::false::false::false::false::false::false::false::false::false::false::false::false::false::false::false::false::false::false::false::false::false::false::false::false::false::false::false::false::false::false::false::false::false::false::false::false::false::false::false::false::false::false::false::false::false::false::false::false::false::false::false::false::false::false::false::false::false::false::false::false::false::false::false::false::false::false::false::false::false::false::false::false::false::false::false::false::false::false::false::false::false::false::false::false::false::false::false::false::false::false::false::[]) ?_
   exact ⟨ps.length - (i + 1),by omega,i + 1,H,rfl,by omega,rfl,rfl,hL.none hp hp0,hK⟩
  ·rw [slotP_loc hp0] at hn
   repeat (refine PRun.wpn rfl ?_;simp only [wp,wo_nil,wo_p,onO_s,pv_t,pv_int,put_some,bi_lss,pevP,getP,setP,Option.map_some,↓reduceIte,ltB_t hlt])
   refine PRun.gh (Gh.mask (true::false::false::true::true::false::false::false::false::false::false::false::false::false::false::false::false::false::false::false::false::false::false::false::false::false::false::false::false::false::false::false::false::false::false::false::false::false::false::false::false::false::false::false::false::false::false::false::false::false::false::false::false::false::false::false::false::false::false::false::false::false::false::false::false::false::false::false::false::false::false::false::false::false::false::false::false::false::false::false::false::false::false::false::false::false::false::false::false::false::false::false::false::false::false::false::false::false::false::false::false::false::false::false::false::false::false::false::false::false::false::false::false::false::false::false::false::false::false::false::false::false::false::false::false::false::false::false::false::false::false::false::false::false::false::[]) ?_)
   simp only [↓reduceIte,Bool.false_eq_true,maskP]
   refine PRun.loopG (fun m t π=>∃ (k:Nat) (H:List (Nat × PObj)),t=(.loc j 0 ps.length ps.length::.junk::.junk::.lit (.int .i64 (i:Nat))::.lit (.int .i64 (k:Nat))::.junk::.junk::.junk::.junk::.junk::.junk::.junk::.junk::.junk::.junk::.junk::.junk::.junk::.junk::.junk::.junk::.junk::.junk::.junk::.junk::.junk::.junk::.junk::.junk::.junk::.junk::.junk::.junk::.junk::.junk::.junk::.junk::.junk::.junk::.junk::.junk::.junk::.junk::.junk::.junk::.junk::.junk::.junk::.junk::.junk::.junk::.junk::.junk::.junk::.junk::.junk::.junk::.junk::.junk::.junk::.junk::.junk::.junk::.junk::.junk::.junk::.junk::.junk::.junk::.junk::.junk::.junk::.junk::.junk::.junk::.junk::.junk::.junk::.junk::.junk::.junk::.junk::.junk::.junk::.junk::.junk::.junk::.junk::.junk::.junk::.junk::.junk::.junk::.junk::.junk::.junk::.junk::.junk::.junk::.junk::.junk::.junk::.junk::.junk::.junk::.junk::.junk::.junk::.junk::.junk::.junk::.junk::.junk::.junk::.junk::.junk::.junk::.junk::.junk::.junk::.junk::.junk::.junk::.junk::.junk::.junk::.junk::.junk::.junk::.junk::.junk::.junk::.junk::.junk::.junk::[])∧k≤p.2∧m=p.2 - k∧π=⟨nx,H⟩∧Lists H nx b j ps (fun i' k'=>i' < i∨(i'=i∧k' < k))∧KeepB b B nx H0 H) ?_ p.2 _ _ ⟨0,H,rfl,by omega,rfl,rfl,⟨hL.arr,fun i' p' h1 h2=>by
    obtain ⟨g1,g2,cs,g3,g4,g5⟩:=hL.lst i' p' h1 h2
    exact ⟨g1,g2,cs,g3,g4,fun k hk hm=>g5 k hk (by omega)⟩⟩,hK⟩
   clear hL hK
   rintro m t π ⟨k,H,rfl,hk,rfl,rfl,hL,hK⟩
   obtain ⟨hjn,ty,esz,ex,ret,al,hT⟩:=hL.arr
   by_cases hlk:(k:Int) < (p.2:Nat)
   ·obtain ⟨g1,g2,cs,g3,g4,_⟩:=hL.lst i p hp hp0
    have hw1:IntKind.u16.wrap (IntKind.i64.wrap (IntKind.i64.wrap ((i:Int) * 1009) + IntKind.i64.wrap ((k:Int) * 31)))=w1 i k:=rfl
    have hsp:=splice1 (mk1 i k) (show k < cs.length by omega)
    rw [mk1] at hsp
    have hwk:IntKind.i64.wrap (((k:Nat):Int) + 1)=((k + 1:Nat):Int):=by rw [wrap64 (by omega) (by omega)];omega
    repeat (refine PRun.wpn rfl ?_;simp only [wp,wo_nil,wo_p,wo_r,wo_st,beq_self_eq_true,onO_s,onE_s,pv_t,pv_int,put_some,put_none,bi_add,bi_mul,bi_lss,pevP,pevR,pevE,getP,setP,plainP,isCell,PW.cs?,Option.map_some,Option.bind_some,Nat.mul_one,Int.natCast_nonneg,Int.toNat_natCast,and_self,Bool.and_true,↓reduceIte,Bool.false_eq_true,Nat.zero_add,allPlain,PW.wr,killO,Bool.or_self,Bool.not_true,hT,hlt,hn,ltB_t hlk,hlk,g4,hw1,hsp,hwk,killO,hbl])
    refine Gh.mask (true::false::false::true::true::false::false::false::false::false::false::false::false::false::false::false::false::false::false::false::false::false::false::false::false::false::false::false::false::false::false::false::false::false::false::false::false::false::false::false::false::false::false::false::false::false::false::false::false::false::false::false::false::false::false::false::false::false::false::false::false::false::false::false::false::false::false::false::false::false::false::false::false::false::false::false::false::false::false::false::false::false::false::false::false::false::false::false::false::false::false::false::false::false::false::false::false::false::false::false::false::false::false::false::false::false::false::false::false::false::false::false::false::false::false::false::false::false::false::false::false::false::false::false::false::false::false::false::false::false::false::false::false::false::false::[]) ?_
    exact ⟨p.2 - (k + 1),by omega,k + 1,_,rfl,by omega,rfl,rfl,hL.mark hd hp hp0 (by omega) g4 g3,hK.set g1 _⟩
   ·repeat (refine PRun.wpn rfl ?_;simp only [wp,wo_nil,wo_p,wo_r,onO_s,pv_t,pv_int,put_some,bi_add,bi_lss,pevP,pevR,getP,setP,PW.cs?,Option.map_some,Option.bind_some,Nat.mul_one,Int.natCast_nonneg,Int.toNat_natCast,and_self,↓reduceIte,Bool.false_eq_true,Nat.zero_add,hT,hlt,hn,ltB_f hlk,hw])
    refine Gh.mask (true::false::false::true::false::false::false::false::false::false::false::false::false::false::false::false::false::false::false::false::false::false::false::false::false::false::false::false::false::false::false::false::false::false::false::false::false::false::false::false::false::false::false::false::false::false::false::false::false::false::false::false::false::false::false::false::false::false::false::false::false::false::false::false::false::false::false::false::false::false::false::false::false::false::false::false::false::false::false::false::false::false::false::false::false::false::false::false::false::false::false::false::false::false::false::false::false::false::false::false::false::false::false::false::false::false::false::false::false::false::false::false::false::false::false::false::false::false::false::false::false::false::false::false::false::false::false::false::false::false::false::false::false::false::false::[]) ?_
    obtain rfl:k=p.2:=by omega
    exact ⟨ps.length - (i + 1),by omega,i + 1,H,rfl,by omega,rfl,rfl,hL.done hp,hK⟩
 ·obtain rfl:i=ps.length:=by omega
  repeat (refine PRun.wpn rfl ?_;simp only [wp,wo_nil,wo_p,onO_s,pv_t,pv_int,pv_nilS,put_some,bi_lss,pevP,getP,setP,Option.map_some,↓reduceIte,reduceCtorEq,Bool.false_eq_true,ltB_f hlt])
  refine PRun.gh (Gh.mask (true::false::false::false::false::true::true::false::false::false::false::false::false::false::false::false::false::false::false::false::false::false::false::false::false::false::false::false::false::false::false::false::false::false::false::false::false::false::false::false::false::false::false::false::false::false::false::false::false::false::false::false::false::false::false::false::false::false::false::false::false::false::false::false::false::false::false::false::false::false::false::false::false::false::false::false::false::false::false::false::false::false::false::false::false::false::false::false::false::false::false::false::false::false::false::false::false::false::false::false::false::false::false::false::false::false::false::false::false::false::false::false::false::false::false::false::false::false::false::false::false::false::false::false::false::false::false::false::false::false::false::false::false::false::false::[]) ?_)
  simp only [↓reduceIte,Bool.false_eq_true,maskP]
  refine PRun.loopG (fun m t π=>∃ (i nx jl:Nat) (H:List (Nat × PObj)) (xs:List (Nat × Nat)),t=(.loc j 0 ps.length ps.length::.junk::.junk::.junk::.junk::slotP (jl,i)::.lit (.int .i64 (i:Nat))::.junk::.junk::.junk::.junk::.junk::.junk::.junk::.junk::.junk::.junk::.junk::.junk::.junk::.junk::.junk::.junk::.junk::.junk::.junk::.junk::.junk::.junk::.junk::.junk::.junk::.junk::.junk::.junk::.junk::.junk::.junk::.junk::.junk::.junk::.junk::.junk::.junk::.junk::.junk::.junk::.junk::.junk::.junk::.junk::.junk::.junk::.junk::.junk::.junk::.junk::.junk::.junk::.junk::.junk::.junk::.junk::.junk::.junk::.junk::.junk::.junk::.junk::.junk::.junk::.junk::.junk::.junk::.junk::.junk::.junk::.junk::.junk::.junk::.junk::.junk::.junk::.junk::.junk::.junk::.junk::.junk::.junk::.junk::.junk::.junk::.junk::.junk::.junk::.junk::.junk::.junk::.junk::.junk::.junk::.junk::.junk::.junk::.junk::.junk::.junk::.junk::.junk::.junk::.junk::.junk::.junk::.junk::.junk::.junk::.junk::.junk::.junk::.junk::.junk::.junk::.junk::.junk::.junk::.junk::.junk::.junk::.junk::.junk::.junk::.junk::.junk::.junk::.junk::[])∧i≤ps.length∧m=ps.length - i∧π=⟨nx,H⟩∧Long H nx b j i i ps xs∧Lg H nx b jl i xs∧KeepB b B nx H0 H) ?_ ps.length _ _ ⟨0,nx,0,H,[],rfl,by omega,rfl,rfl,⟨hb,hL.arr,fun i' p h1 h2=>by
   obtain ⟨g1,g2,cs,g3,g4,g5⟩:=hL.lst i' p h1 h2
   exact ⟨g1,cs,⟨g2,_,_,_,_,_,g4⟩,g3,fun k hk=>g5 k hk (List.getElem?_eq_some_iff.1 h1).1⟩,fun i' p h1 h2 _=>by
   obtain ⟨g1,g2,cs,g3,g4,g5⟩:=hL.lst i' p h1 h2
   exact ⟨cs,g4⟩,rfl,fun i' p h=>by omega⟩,.inl rfl,hK⟩
  clear hL hK hi hlt H h0
  clear hbl hb hB
  clear nx
  rintro m t π ⟨i,nx,jl,H,xs,rfl,hi,rfl,rfl,hL,hG,hK⟩
  have hbn:=hL.bn
  have hBn:=hK.nx
  have hb0:Nat.ble B nx=true:=Nat.ble_eq_true_of_le hBn
  have hb1:Nat.ble B (nx + 1)=true:=Nat.ble_eq_true_of_le (by omega)
  have hb2:Nat.ble B (nx + 1 + 1)=true:=Nat.ble_eq_true_of_le (by omega)
  obtain ⟨hjn,ty,esz,ex,ret,al,hT⟩:=hL.arr
  by_cases hlt:(i:Int) < (ps.length:Nat)
  ·obtain ⟨p,hp⟩:∃ p,ps[i]? = some p:=⟨ps[i]'(by omega),List.getElem?_eq_getElem (by omega)⟩
   have hw:IntKind.i64.wrap (((i:Nat):Int) + 1)=((i + 1:Nat):Int):=by rw [wrap64 (by omega) (by omega)];omega
   have hpz:=hz i p hp
   have hn:=nth_slot hp
   have hcur:Cur H nx b p.1 p.2 0 i ps:=by
    by_cases hp0:p.2=0
    ·exact .inl (by omega)
    ·obtain ⟨cs,g1⟩:=hL.live i p hp hp0 (Nat.le_refl i)
     obtain ⟨g2,cs',⟨g3,_,_,_,_,_,g4⟩,g5,g6⟩:=hL.old i p hp hp0
     rw [g1] at g4;cases g4
     exact .inr ⟨g2,g3,cs,[],g5,g1,g6,fun k' hk=>by omega,fun i' p' h1 h2 h3 e=>by
      have:=hd.1 i' i p' p h1 hp h2 hp0 e;omega⟩
   repeat (refine PRun.wpn rfl ?_;simp only [wp,wo_nil,wo_p,wo_r,onO_s,pv_t,pv_int,put_some,bi_lss,pevP,pevR,getP,setP,PW.cs?,Option.map_some,Option.bind_some,Nat.mul_one,Int.natCast_nonneg,Int.toNat_natCast,and_self,↓reduceIte,Nat.zero_add,ltB_t hlt,hT,hlt,hn])
   refine PRun.gh (Gh.mask (true::false::false::false::false::true::true::true::true::false::false::false::false::false::false::false::false::false::false::false::false::false::false::false::false::false::false::false::false::false::false::false::false::false::false::false::false::false::false::false::false::false::false::false::false::false::false::false::false::false::false::false::false::false::false::false::false::false::false::false::false::false::false::false::false::false::false::false::false::false::false::false::false::false::false::false::false::false::false::false::false::false::false::false::false::false::false::false::false::false::false::false::false::false::false::false::false::false::false::false::false::false::false::false::false::false::false::false::false::false::false::false::false::false::false::false::false::false::false::false::false::false::false::false::false::false::false::false::false::false::false::false::false::false::false::[]) ?_)
   simp only [↓reduceIte,Bool.false_eq_true,maskP]
   refine PRun.loopG (fun m t π=>∃ (k nx c:Nat) (H:List (Nat × PObj)),t=(.loc j 0 ps.length ps.length::.junk::.junk::.junk::.junk::slotP (jl,i)::.lit (.int .i64 (i:Nat))::slotP (c,p.2 + k)::.lit (.int .i64 (k:Nat))::.junk::.junk::.junk::.junk::.junk::.junk::.junk::.junk::.junk::.junk::.junk::.junk::.junk::.junk::.junk::.junk::.junk::.junk::.junk::.junk::.junk::.junk::.junk::.junk::.junk::.junk::.junk::.junk::.junk::.junk::.junk::.junk::.junk::.junk::.junk::.junk::.junk::.junk::.junk::.junk::.junk::.junk::.junk::.junk::.junk::.junk::.junk::.junk::.junk::.junk::.junk::.junk::.junk::.junk::.junk::.junk::.junk::.junk::.junk::.junk::.junk::.junk::.junk::.junk::.junk::.junk::.junk::.junk::.junk::.junk::.junk::.junk::.junk::.junk::.junk::.junk::.junk::.junk::.junk::.junk::.junk::.junk::.junk::.junk::.junk::.junk::.junk::.junk::.junk::.junk::.junk::.junk::.junk::.junk::.junk::.junk::.junk::.junk::.junk::.junk::.junk::.junk::.junk::.junk::.junk::.junk::.junk::.junk::.junk::.junk::.junk::.junk::.junk::.junk::.junk::.junk::.junk::.junk::.junk::.junk::.junk::.junk::.junk::.junk::.junk::.junk::[])∧k≤16∧m=16 - k∧π=⟨nx,H⟩∧Long H nx b j (i + 1) i ps xs∧Lg H nx b jl i xs∧Cur H nx b c p.2 k i ps∧KeepB b B nx H0 H) ?_ 16 _ _ ⟨0,nx,p.1,H,rfl,by omega,rfl,rfl,hL.later,hG,hcur,hK⟩
   clear hL hG hK hcur hbn hBn hb0 hb1 hb2 hT hjn ty esz ex ret al H
   clear nx
   rintro m t π ⟨k,nx,c,H,rfl,hk,rfl,rfl,hL,hG,hcur,hK⟩
   have hbn:=hL.bn
   have hBn:=hK.nx
   have hb0:Nat.ble B nx=true:=Nat.ble_eq_true_of_le hBn
   have hb1:Nat.ble B (nx + 1)=true:=Nat.ble_eq_true_of_le (by omega)
   have hb2:Nat.ble B (nx + 1 + 1)=true:=Nat.ble_eq_true_of_le (by omega)
   by_cases hlk:(k:Int) < 16
   ·have hwk:IntKind.i64.wrap (((k:Nat):Int) + 1)=((k + 1:Nat):Int):=by rw [wrap64 (by omega) (by omega)];omega
    have hw2:IntKind.u16.wrap (IntKind.i64.wrap (IntKind.i64.wrap (IntKind.i64.wrap (-1 - (i:Int)) * 1009) + IntKind.i64.wrap ((k:Int) * 31)))=w2 i k:=rfl
    rcases hcur with h00 | ⟨g1,g2,cs,al,g3,g4,g5,g6,g7⟩
    ·have hs:=slotP_nil (p:=(c,p.2 + k)) h00
     have hp0:p.2=0:=by omega
     repeat (refine PRun.wpn rfl ?_;simp only [wp,wo_nil,wo_p,wo_n,wo_append,beq_self_eq_true,onO_s,onN_s,pv_t,pv_int,ov_nil,ov_cons,ov_int,put_some,bi_add,bi_sub,bi_mul,bi_lss,pevP,pevN,pevE,getP,setP,lenP,srcP,appendP,fillP,spliceP,overP,plainP,isCell,look,PW.cs?,PW.push,cut0,cutS,List.drop_zero,Option.map_some,Option.bind_some,Nat.mul_one,Bool.and_true,↓reduceIte,ltL,lt,Nat.reduceAdd,Nat.reduceMul,Nat.reduceLeDiff,Nat.reduceLT,Nat.zero_add,allPlain,Bool.false_or,Bool.not_true,gt_iff_lt,ltB_t hlk,hs,hw2,hwk,hb0,hb1])
     refine Gh.mask (true::false::false::false::false::true::true::true::true::false::false::false::false::false::false::false::false::false::false::false::false::false::false::false::false::false::false::false::false::false::false::false::false::false::false::false::false::false::false::false::false::false::false::false::false::false::false::false::false::false::false::false::false::false::false::false::false::false::false::false::false::false::false::false::false::false::false::false::false::false::false::false::false::false::false::false::false::false::false::false::false::false::false::false::false::false::false::false::false::false::false::false::false::false::false::false::false::false::false::false::false::false::false::false::false::false::false::false::false::false::false::false::false::false::false::false::false::false::false::false::false::false::false::false::false::false::false::false::false::false::false::false::false::false::false::[]) ?_
     obtain rfl:k=0:=by omega
     refine ⟨15,by omega,1,nx + 1 + 1,nx + 1,_,?_,by omega,rfl,rfl,(hL.push _).push _,(hG.push _).push _,.inr ⟨by omega,by omega,[mk2 i 0],[],by rw [hp0];rfl,by simp only [look];rfl,fun k' hk=>by omega,fun k' hk=>?_,fun i' p' h1 h2 h3=>?_⟩,(hK.push hbn _).push (by omega) _⟩
     ·rw [slotP_loc (p:=(nx + 1,p.2 + 1)) (by show p.2 + 1 ≠ 0;omega),hp0];rfl
     ·obtain rfl:k'=0:=by omega
      rw [hp0];rfl
     ·obtain ⟨_,_,q,_⟩:=hL.old i' p' h1 h2
      have:=q.1;omega
    ·by_cases hm0:p.2 + k=0
     ·have hs:=slotP_nil (p:=(c,p.2 + k)) hm0
      have hp0:p.2=0:=by omega
      repeat (refine PRun.wpn rfl ?_;simp only [wp,wo_nil,wo_p,wo_n,wo_append,beq_self_eq_true,onO_s,onN_s,pv_t,pv_int,ov_nil,ov_cons,ov_int,put_some,bi_add,bi_sub,bi_mul,bi_lss,pevP,pevN,pevE,getP,setP,lenP,srcP,appendP,fillP,spliceP,overP,plainP,isCell,look,PW.cs?,PW.push,cut0,cutS,List.drop_zero,Option.map_some,Option.bind_some,Nat.mul_one,Bool.and_true,↓reduceIte,ltL,lt,Nat.reduceAdd,Nat.reduceMul,Nat.reduceLeDiff,Nat.reduceLT,Nat.zero_add,allPlain,Bool.false_or,Bool.not_true,gt_iff_lt,ltB_t hlk,hs,hw2,hwk,hb0,hb1])
      refine Gh.mask (true::false::false::false::false::true::true::true::true::false::false::false::false::false::false::false::false::false::false::false::false::false::false::false::false::false::false::false::false::false::false::false::false::false::false::false::false::false::false::false::false::false::false::false::false::false::false::false::false::false::false::false::false::false::false::false::false::false::false::false::false::false::false::false::false::false::false::false::false::false::false::false::false::false::false::false::false::false::false::false::false::false::false::false::false::false::false::false::false::false::false::false::false::false::false::false::false::false::false::false::false::false::false::false::false::false::false::false::false::false::false::false::false::false::false::false::false::false::false::false::false::false::false::false::false::false::false::false::false::false::false::false::false::false::false::[]) ?_
      obtain rfl:k=0:=by omega
      refine ⟨15,by omega,1,nx + 1 + 1,nx + 1,_,?_,by omega,rfl,rfl,(hL.push _).push _,(hG.push _).push _,.inr ⟨by omega,by omega,[mk2 i 0],[],by rw [hp0];rfl,by simp only [look];rfl,fun k' hk=>by omega,fun k' hk=>?_,fun i' p' h1 h2 h3=>?_⟩,(hK.push hbn _).push (by omega) _⟩
      ·rw [slotP_loc (p:=(nx + 1,p.2 + 1)) (by show p.2 + 1 ≠ 0;omega),hp0];rfl
      ·obtain rfl:k'=0:=by omega
       rw [hp0];rfl
      ·obtain ⟨_,_,q,_⟩:=hL.old i' p' h1 h2
       have:=q.1;omega
     have hs:=slotP_loc (p:=(c,p.2 + k)) hm0
     have r1:¬ p.2 + k + 1≤p.2 + k:=by omega
     have r2:¬ 140737488355328 < (2 * (p.2 + k + 1) + 768) * 2:=by omega
     have r3:=cutB g3
     have r5:¬ c=nx:=by omega
     repeat (refine PRun.wpn rfl ?_;simp only [wp,wo_nil,wo_p,wo_n,wo_append,beq_self_eq_true,onO_s,onN_s,onE_s,pv_t,pv_int,ov_nil,ov_cons,ov_int,put_some,bi_add,bi_sub,bi_mul,bi_lss,pevP,pevN,pevE,getP,setP,lenP,srcP,appendP,fillP,spliceP,overP,plainP,isCell,look,PW.cs?,PW.push,cut0,cutS,List.drop_zero,Option.map_some,Option.bind_some,Nat.mul_one,Bool.and_true,↓reduceIte,ltL,lt,Bool.false_eq_true,Nat.zero_add,allPlain,setO,Bool.or_self,Bool.not_true,gt_iff_lt,ltB_t hlk,hs,hw2,hwk,hb0,hb1,g3,g4,r1,r2,r3,r5,bne_self_eq_false])
     refine Gh.mask (true::false::false::false::false::true::true::true::true::false::false::false::false::false::false::false::false::false::false::false::false::false::false::false::false::false::false::false::false::false::false::false::false::false::false::false::false::false::false::false::false::false::false::false::false::false::false::false::false::false::false::false::false::false::false::false::false::false::false::false::false::false::false::false::false::false::false::false::false::false::false::false::false::false::false::false::false::false::false::false::false::false::false::false::false::false::false::false::false::false::false::false::false::false::false::false::false::false::false::false::false::false::false::false::false::false::false::false::false::false::false::false::false::false::false::false::false::false::false::false::false::false::false::false::false::false::false::false::false::false::false::false::false::false::false::[]) ?_
     have hmm:=mark_more g3 g5 g6
     refine ⟨16 - (k + 1),by omega,k + 1,nx + 1 + 1,nx + 1,_,?_,by omega,rfl,rfl,((hL.retire g4 g7).push _).push _,((hG.retire g4).push _).push _,.inr ⟨by omega,by omega,cs++[mk2 i k],c::al,by rw [List.length_append,g3];rfl,by simp only [look];rfl,hmm.1,hmm.2,fun i' p' h1 h2 h3=>?_⟩,((hK.set g1 _).push hbn _).push (by omega) _⟩
     ·rw [slotP_loc (p:=(nx + 1,p.2 + (k + 1))) (by show p.2 + (k + 1) ≠ 0;omega)];rfl
     ·obtain ⟨_,_,q,_⟩:=hL.old i' p' h1 h2
      have:=q.1;omega
   ·obtain rfl:k=16:=by omega
    rcases hcur with h00 | ⟨g1,g2,cs,al,g3,g4,g5,g6,g7⟩
    ·omega
    have hs:=slotP_loc (p:=(c,p.2 + 16)) (show p.2 + 16 ≠ 0 by omega)
    have hL2:=hL.snoc hp ⟨g2,_,_,_,_,_,g4⟩ g3 g5 g6
    rcases hG with hi0 | ⟨q1,q2,al2,q3⟩
    ·have hs2:=slotP_nil (p:=(jl,i)) hi0
     repeat (refine PRun.wpn rfl ?_;simp only [wp,wo_nil,wo_p,wo_n,wo_append,beq_self_eq_true,onO_s,onN_s,pv_t,pv_int,ov_nil,ov_cons,ov_nilS,put_some,bi_add,bi_lss,pevP,pevN,pevE,getP,setP,lenP,srcP,appendP,fillP,spliceP,overP,plainP,look,PW.cs?,PW.push,cut0,cutS,List.drop_zero,Option.map_some,Option.bind_some,Nat.mul_one,Bool.and_true,↓reduceIte,ltL,lt,Nat.reduceAdd,Nat.reduceMul,Nat.reduceLeDiff,Nat.reduceLT,Nat.reduceSub,Bool.false_eq_true,Nat.zero_add,allPlain,Bool.false_or,Bool.not_true,gt_iff_lt,ltB_f hlk,hs,hs2,hb0,hb1,hw])
     refine Gh.mask (true::false::false::false::false::true::true::false::false::false::false::false::false::false::false::false::false::false::false::false::false::false::false::false::false::false::false::false::false::false::false::false::false::false::false::false::false::false::false::false::false::false::false::false::false::false::false::false::false::false::false::false::false::false::false::false::false::false::false::false::false::false::false::false::false::false::false::false::false::false::false::false::false::false::false::false::false::false::false::false::false::false::false::false::false::false::false::false::false::false::false::false::false::false::false::false::false::false::false::false::false::false::false::false::false::false::false::false::false::false::false::false::false::false::false::false::false::false::false::false::false::false::false::false::false::false::false::false::false::false::false::false::false::false::false::[]) ?_
     obtain rfl:i=0:=hi0
     obtain rfl:xs=[]:=List.length_eq_zero_iff.1 hL.xl
     refine ⟨ps.length - 1,by omega,1,nx + 1 + 1,nx + 1,_,[(c,p.2 + 16)],?_,by omega,rfl,rfl,(hL2.push _).push _,.inr ⟨by omega,by omega,[],by simp only [look,if_true];rw [show [(c,p.2 + 16)].map slotP=[slotP (c,p.2 + 16)] from rfl,hs]⟩,(hK.push hbn _).push (by omega) _⟩
     rw [slotP_loc (p:=(nx + 1,1)) Nat.one_ne_zero];rfl
    ·by_cases hi0:i=0
     ·have hs2:=slotP_nil (p:=(jl,i)) hi0
      repeat (refine PRun.wpn rfl ?_;simp only [wp,wo_nil,wo_p,wo_n,wo_append,beq_self_eq_true,onO_s,onN_s,pv_t,pv_int,ov_nil,ov_cons,ov_nilS,put_some,bi_add,bi_lss,pevP,pevN,pevE,getP,setP,lenP,srcP,appendP,fillP,spliceP,overP,plainP,look,PW.cs?,PW.push,cut0,cutS,List.drop_zero,Option.map_some,Option.bind_some,Nat.mul_one,Bool.and_true,↓reduceIte,ltL,lt,Nat.reduceAdd,Nat.reduceMul,Nat.reduceLeDiff,Nat.reduceLT,Nat.reduceSub,Bool.false_eq_true,Nat.zero_add,allPlain,Bool.false_or,Bool.not_true,gt_iff_lt,ltB_f hlk,hs,hs2,hb0,hb1,hw])
      refine Gh.mask (true::false::false::false::false::true::true::false::false::false::false::false::false::false::false::false::false::false::false::false::false::false::false::false::false::false::false::false::false::false::false::false::false::false::false::false::false::false::false::false::false::false::false::false::false::false::false::false::false::false::false::false::false::false::false::false::false::false::false::false::false::false::false::false::false::false::false::false::false::false::false::false::false::false::false::false::false::false::false::false::false::false::false::false::false::false::false::false::false::false::false::false::false::false::false::false::false::false::false::false::false::false::false::false::false::false::false::false::false::false::false::false::false::false::false::false::false::false::false::false::false::false::false::false::false::false::false::false::false::false::false::false::false::false::false::[]) ?_
      obtain rfl:i=0:=hi0
      obtain rfl:xs=[]:=List.length_eq_zero_iff.1 hL.xl
      refine ⟨ps.length - 1,by omega,1,nx + 1 + 1,nx + 1,_,[(c,p.2 + 16)],?_,by omega,rfl,rfl,(hL2.push _).push _,.inr ⟨by omega,by omega,[],by simp only [look,if_true];rw [show [(c,p.2 + 16)].map slotP=[slotP (c,p.2 + 16)] from rfl,hs]⟩,(hK.push hbn _).push (by omega) _⟩
      rw [slotP_loc (p:=(nx + 1,1)) Nat.one_ne_zero];rfl
     have hs2:=slotP_loc (p:=(jl,i)) hi0
     have hxl:=hL.xl
     have r1:¬ i + 1≤i:=by omega
     have r2:¬ 140737488355328 < (2 * (i + 1) + 768) * 24:=by omega
     have r4:(xs.map slotP).length=i:=by rw [List.length_map,hxl]
     have r3:=cutB r4
     have r5:¬ jl=nx:=by omega
     repeat (refine PRun.wpn rfl ?_;simp only [wp,wo_nil,wo_p,wo_n,wo_append,beq_self_eq_true,onO_s,onN_s,onE_s,pv_t,pv_int,ov_nil,ov_cons,ov_nilS,put_some,bi_add,bi_lss,pevP,pevN,pevE,getP,setP,lenP,srcP,appendP,fillP,spliceP,overP,plainP,look,PW.cs?,PW.push,cut0,cutS,List.drop_zero,Option.map_some,Option.bind_some,Nat.mul_one,Bool.and_true,↓reduceIte,ltL,lt,Nat.reduceSub,Bool.false_eq_true,Nat.zero_add,allPlain,setO,Bool.or_self,Bool.not_true,gt_iff_lt,ltB_f hlk,hs,hs2,hb0,hb1,hw,q3,r1,r2,r3,r4,r5,bne_self_eq_false])
     refine Gh.mask (true::false::false::false::false::true::true::false::false::false::false::false::false::false::false::false::false::false::false::false::false::false::false::false::false::false::false::false::false::false::false::false::false::false::false::false::false::false::false::false::false::false::false::false::false::false::false::false::false::false::false::false::false::false::false::false::false::false::false::false::false::false::false::false::false::false::false::false::false::false::false::false::false::false::false::false::false::false::false::false::false::false::false::false::false::false::false::false::false::false::false::false::false::false::false::false::false::false::false::false::false::false::false::false::false::false::false::false::false::false::false::false::false::false::false::false::false::false::false::false::false::false::false::false::false::false::false::false::false::false::false::false::false::false::false::[]) ?_
     have hne:∀ (i':Nat) (p:Nat × Nat),ps[i']? = some p→p.2 ≠ 0→i + 1≤i'→p.1 ≠ jl:=fun i' p' h1 h2 h3 e=>by
      obtain ⟨cs',k1⟩:=hL.live i' p' h1 h2 h3
      rw [e,q3] at k1;cases k1
     refine ⟨ps.length - (i + 1),by omega,i + 1,nx + 1 + 1,nx + 1,_,xs++[(c,p.2 + 16)],?_,by omega,rfl,rfl,((hL2.retire q3 hne).push _).push _,.inr ⟨by omega,by omega,jl::al2,by simp only [look,if_true];rw [List.map_append,show [(c,p.2 + 16)].map slotP=[slotP (c,p.2 + 16)] from rfl,hs]⟩,((hK.set q1 _).push hbn _).push (by omega) _⟩
     rw [slotP_loc (p:=(nx + 1,i + 1)) (by show i + 1 ≠ 0;omega)];rfl
  ·obtain rfl:i=ps.length:=by omega
   repeat (refine PRun.wpn rfl ?_;simp only [wp,wo_nil,wo_p,onO_s,pv_t,pv_int,put_some,bi_lss,pevP,getP,setP,Option.map_some,↓reduceIte,reduceCtorEq,Bool.false_eq_true,ltB_f hlt])
   refine PRun.gh (Gh.mask (true::false::false::false::false::true::false::false::false::true::false::false::false::false::false::false::false::false::false::false::false::false::false::false::false::false::false::false::false::false::false::false::false::false::false::false::false::false::false::false::false::false::false::false::false::false::false::false::false::false::false::false::false::false::false::false::false::false::false::false::false::false::false::false::false::false::false::false::false::false::false::false::false::false::false::false::false::false::false::false::false::false::false::false::false::false::false::false::false::false::false::false::false::false::false::false::false::false::false::false::false::false::false::false::false::false::false::false::false::false::false::false::false::false::false::false::false::false::false::false::false::false::false::false::false::false::false::false::false::false::false::false::false::false::false::[]) ?_)
   simp only [↓reduceIte,Bool.false_eq_true,maskP]
   refine PRun.loopG (fun m t π=>∃ i:Nat,t=(.loc j 0 ps.length ps.length::.junk::.junk::.junk::.junk::slotP (jl,ps.length)::.junk::.junk::.junk::.lit (.int .i64 (i:Nat))::.junk::.junk::.junk::.junk::.junk::.junk::.junk::.junk::.junk::.junk::.junk::.junk::.junk::.junk::.junk::.junk::.junk::.junk::.junk::.junk::.junk::.junk::.junk::.junk::.junk::.junk::.junk::.junk::.junk::.junk::.junk::.junk::.junk::.junk::.junk::.junk::.junk::.junk::.junk::.junk::.junk::.junk::.junk::.junk::.junk::.junk::.junk::.junk::.junk::.junk::.junk::.junk::.junk::.junk::.junk::.junk::.junk::.junk::.junk::.junk::.junk::.junk::.junk::.junk::.junk::.junk::.junk::.junk::.junk::.junk::.junk::.junk::.junk::.junk::.junk::.junk::.junk::.junk::.junk::.junk::.junk::.junk::.junk::.junk::.junk::.junk::.junk::.junk::.junk::.junk::.junk::.junk::.junk::.junk::.junk::.junk::.junk::.junk::.junk::.junk::.junk::.junk::.junk::.junk::.junk::.junk::.junk::.junk::.junk::.junk::.junk::.junk::.junk::.junk::.junk::.junk::.junk::.junk::.junk::.junk::.junk::.junk::.junk::.junk::.junk::[])∧i≤ps.length∧m=ps.length - i∧π=⟨nx,H⟩) ?_ ps.length _ _ ⟨0,rfl,by omega,rfl,rfl⟩
   rintro m t π ⟨i,rfl,hi,rfl,rfl⟩
   by_cases hlt:(i:Int) < (ps.length:Nat)
   ·obtain ⟨p,hp⟩:∃ p,ps[i]? = some p:=⟨ps[i]'(by omega),List.getElem?_eq_getElem (by omega)⟩
    have hw:IntKind.i64.wrap (((i:Nat):Int) + 1)=((i + 1:Nat):Int):=by rw [wrap64 (by omega) (by omega)];omega
    have hpz:=hz i p hp
    have hn:=nth_slot hp
    obtain ⟨x,xc,y1,⟨y2,_,_,_,_,_,y3⟩,y4,y5,y6⟩:=hL.new i p (by omega) hp
    have hn2:=nth_slot y1
    rw [slotP_loc (p:=(x,p.2 + 16)) (show p.2 + 16 ≠ 0 by omega)] at hn2
    rcases hG with hK0 | ⟨q1,q2,al2,q3⟩
    ·omega
    have hs2:=slotP_loc (p:=(jl,ps.length)) (show ps.length ≠ 0 by omega)
    by_cases hp0:p.2=0
    ·rw [slotP_nil hp0] at hn
     repeat (refine PRun.wpn rfl ?_;simp only [wp,wo_nil,wo_p,wo_r,onO_s,pv_t,pv_int,put_some,bi_lss,pevP,pevR,getP,setP,PW.cs?,Option.map_some,Option.bind_some,Nat.mul_one,Int.natCast_nonneg,Int.toNat_natCast,nc0,and_self,↓reduceIte,Nat.zero_add,ltB_t hlt,hT,hlt,hn])
     refine PRun.gh (Gh.mask (true::false::false::false::false::true::false::false::false::true::true::true::false::false::false::false::false::false::false::false::false::false::false::false::false::false::false::false::false::false::false::false::false::false::false::false::false::false::false::false::false::false::false::false::false::false::false::false::false::false::false::false::false::false::false::false::false::false::false::false::false::false::false::false::false::false::false::false::false::false::false::false::false::false::false::false::false::false::false::false::false::false::false::false::false::false::false::false::false::false::false::false::false::false::false::false::false::false::false::false::false::false::false::false::false::false::false::false::false::false::false::false::false::false::false::false::false::false::false::false::false::false::false::false::false::false::false::false::false::false::false::false::false::false::false::[]) ?_)
     simp only [↓reduceIte,Bool.false_eq_true,maskP]
     refine PRun.loopG (fun m t π=>∃ k:Nat,k=0∧t=(.loc j 0 ps.length ps.length::.junk::.junk::.junk::.junk::slotP (jl,ps.length)::.junk::.junk::.junk::.lit (.int .i64 (i:Nat))::.lit (.int .i64 0)::.lit (.int .i64 (k:Nat))::.junk::.junk::.junk::.junk::.junk::.junk::.junk::.junk::.junk::.junk::.junk::.junk::.junk::.junk::.junk::.junk::.junk::.junk::.junk::.junk::.junk::.junk::.junk::.junk::.junk::.junk::.junk::.junk::.junk::.junk::.junk::.junk::.junk::.junk::.junk::.junk::.junk::.junk::.junk::.junk::.junk::.junk::.junk::.junk::.junk::.junk::.junk::.junk::.junk::.junk::.junk::.junk::.junk::.junk::.junk::.junk::.junk::.junk::.junk::.junk::.junk::.junk::.junk::.junk::.junk::.junk::.junk::.junk::.junk::.junk::.junk::.junk::.junk::.junk::.junk::.junk::.junk::.junk::.junk::.junk::.junk::.junk::.junk::.junk::.junk::.junk::.junk::.junk::.junk::.junk::.junk::.junk::.junk::.junk::.junk::.junk::.junk::.junk::.junk::.junk::.junk::.junk::.junk::.junk::.junk::.junk::.junk::.junk::.junk::.junk::.junk::.junk::.junk::.junk::.junk::.junk::.junk::.junk::.junk::.junk::.junk::.junk::.junk::[])∧π=⟨nx,H⟩) ?_ 0 _ _ ⟨0,rfl,rfl,rfl⟩
     rintro m t π ⟨k,rfl,rfl,rfl⟩
     repeat (refine PRun.wpn rfl ?_;simp only [wp,wo_nil,wo_p,onO_s,pv_t,pv_int,put_some,bi_lss,pevP,getP,setP,Option.map_some,nc0,↓reduceIte,Bool.false_eq_true,z0])
     refine PRun.gh (Gh.mask (true::false::false::false::false::true::false::false::false::true::true::false::true::false::false::false::false::false::false::false::false::false::false::false::false::false::false::false::false::false::false::false::false::false::false::false::false::false::false::false::false::false::false::false::false::false::false::false::false::false::false::false::false::false::false::false::false::false::false::false::false::false::false::false::false::false::false::false::false::false::false::false::false::false::false::false::false::false::false::false::false::false::false::false::false::false::false::false::false::false::false::false::false::false::false::false::false::false::false::false::false::false::false::false::false::false::false::false::false::false::false::false::false::false::false::false::false::false::false::false::false::false::false::false::false::false::false::false::false::false::false::false::false::false::false::[]) ?_)
     simp only [↓reduceIte,Bool.false_eq_true,maskP]
     refine PRun.loopG (fun m t π=>∃ k:Nat,t=(.loc j 0 ps.length ps.length::.junk::.junk::.junk::.junk::slotP (jl,ps.length)::.junk::.junk::.junk::.lit (.int .i64 (i:Nat))::.lit (.int .i64 0)::.junk::.lit (.int .i64 (k:Nat))::.junk::.junk::.junk::.junk::.junk::.junk::.junk::.junk::.junk::.junk::.junk::.junk::.junk::.junk::.junk::.junk::.junk::.junk::.junk::.junk::.junk::.junk::.junk::.junk::.junk::.junk::.junk::.junk::.junk::.junk::.junk::.junk::.junk::.junk::.junk::.junk::.junk::.junk::.junk::.junk::.junk::.junk::.junk::.junk::.junk::.junk::.junk::.junk::.junk::.junk::.junk::.junk::.junk::.junk::.junk::.junk::.junk::.junk::.junk::.junk::.junk::.junk::.junk::.junk::.junk::.junk::.junk::.junk::.junk::.junk::.junk::.junk::.junk::.junk::.junk::.junk::.junk::.junk::.junk::.junk::.junk::.junk::.junk::.junk::.junk::.junk::.junk::.junk::.junk::.junk::.junk::.junk::.junk::.junk::.junk::.junk::.junk::.junk::.junk::.junk::.junk::.junk::.junk::.junk::.junk::.junk::.junk::.junk::.junk::.junk::.junk::.junk::.junk::.junk::.junk::.junk::.junk::.junk::.junk::.junk::.junk::.junk::[])∧k≤16∧m=16 - k∧π=⟨nx,H⟩) ?_ 16 _ _ ⟨0,rfl,by omega,rfl,rfl⟩
     rintro m t π ⟨k,rfl,hk,rfl,rfl⟩
     by_cases hlk:(k:Int) < 16
     ·have hw2:IntKind.u16.wrap (IntKind.i64.wrap (IntKind.i64.wrap (IntKind.i64.wrap (-1 - (i:Int)) * 1009) + IntKind.i64.wrap ((k:Int) * 31)))=w2 i k:=rfl
      have hwk:IntKind.i64.wrap (((k:Nat):Int) + 1)=((k + 1:Nat):Int):=by rw [wrap64 (by omega) (by omega)];omega
      have hwn:IntKind.i64.wrap (0 + ((k:Nat):Int))=((k:Nat):Int):=by rw [wrap64 (by omega) (by omega)];omega
      have e2:nthP xc k=some (.lit (.int .u16 (w2 i k))):=by
       have:=y6 k (by omega)
       rw [hp0,Nat.zero_add] at this
       rw [nthP_eq];exact this
      have hlk2:((k:Nat):Int) < ((p.2 + 16:Nat):Int):=by omega
      repeat (refine PRun.wpn rfl ?_;simp only [wp,wo_nil,wo_p,wo_r,onO_s,pv_t,pv_int,put_some,bi_add,bi_sub,bi_mul,bi_neq,bi_lss,pevP,pevR,getP,setP,PW.cs?,Option.map_some,Option.bind_some,Nat.mul_one,Int.natCast_nonneg,Int.toNat_natCast,and_self,↓reduceIte,Bool.false_eq_true,Nat.zero_add,ltB_t hlk,hlk2,hlt,hn2,hs2,q3,y3,e2,hw2,nb,hwk,hwn])
      refine Gh.mask (true::false::false::false::false::true::false::false::false::true::true::false::true::false::false::false::false::false::false::false::false::false::false::false::false::false::false::false::false::false::false::false::false::false::false::false::false::false::false::false::false::false::false::false::false::false::false::false::false::false::false::false::false::false::false::false::false::false::false::false::false::false::false::false::false::false::false::false::false::false::false::false::false::false::false::false::false::false::false::false::false::false::false::false::false::false::false::false::false::false::false::false::false::false::false::false::false::false::false::false::false::false::false::false::false::false::false::false::false::false::false::false::false::false::false::false::false::false::false::false::false::false::false::false::false::false::false::false::false::false::false::false::false::false::false::[]) ?_
      exact ⟨16 - (k + 1),by omega,k + 1,rfl,by omega,rfl,rfl⟩
     ·repeat (refine PRun.wpn rfl ?_;simp only [wp,wo_nil,wo_p,onO_s,pv_t,pv_int,put_some,bi_add,bi_lss,pevP,getP,setP,Option.map_some,↓reduceIte,Bool.false_eq_true,ltB_f hlk,hw])
      refine Gh.mask (true::false::false::false::false::true::false::false::false::true::false::false::false::false::false::false::false::false::false::false::false::false::false::false::false::false::false::false::false::false::false::false::false::false::false::false::false::false::false::false::false::false::false::false::false::false::false::false::false::false::false::false::false::false::false::false::false::false::false::false::false::false::false::false::false::false::false::false::false::false::false::false::false::false::false::false::false::false::false::false::false::false::false::false::false::false::false::false::false::false::false::false::false::false::false::false::false::false::false::false::false::false::false::false::false::false::false::false::false::false::false::false::false::false::false::false::false::false::false::false::false::false::false::false::false::false::false::false::false::false::false::false::false::false::false::[]) ?_
      exact ⟨ps.length - (i + 1),by omega,i + 1,rfl,by omega,rfl,rfl⟩
    ·rw [slotP_loc hp0] at hn
     obtain ⟨o1,oc,⟨o2,_,_,_,_,_,o3⟩,o4,o5⟩:=hL.old i p hp hp0
     repeat (refine PRun.wpn rfl ?_;simp only [wp,wo_nil,wo_p,wo_r,onO_s,pv_t,pv_int,put_some,bi_lss,pevP,pevR,getP,setP,PW.cs?,Option.map_some,Option.bind_some,Nat.mul_one,Int.natCast_nonneg,Int.toNat_natCast,and_self,↓reduceIte,Nat.zero_add,ltB_t hlt,hT,hlt,hn])
     refine PRun.gh (Gh.mask (true::false::false::false::false::true::false::false::false::true::true::true::false::false::false::false::false::false::false::false::false::false::false::false::false::false::false::false::false::false::false::false::false::false::false::false::false::false::false::false::false::false::false::false::false::false::false::false::false::false::false::false::false::false::false::false::false::false::false::false::false::false::false::false::false::false::false::false::false::false::false::false::false::false::false::false::false::false::false::false::false::false::false::false::false::false::false::false::false::false::false::false::false::false::false::false::false::false::false::false::false::false::false::false::false::false::false::false::false::false::false::false::false::false::false::false::false::false::false::false::false::false::false::false::false::false::false::false::false::false::false::false::false::false::false::[]) ?_)
     simp only [↓reduceIte,Bool.false_eq_true,maskP]
     refine PRun.loopG (fun m t π=>∃ k:Nat,t=(.loc j 0 ps.length ps.length::.junk::.junk::.junk::.junk::slotP (jl,ps.length)::.junk::.junk::.junk::.lit (.int .i64 (i:Nat))::.lit (.int .i64 (p.2:Nat))::.lit (.int .i64 (k:Nat))::.junk::.junk::.junk::.junk::.junk::.junk::.junk::.junk::.junk::.junk::.junk::.junk::.junk::.junk::.junk::.junk::.junk::.junk::.junk::.junk::.junk::.junk::.junk::.junk::.junk::.junk::.junk::.junk::.junk::.junk::.junk::.junk::.junk::.junk::.junk::.junk::.junk::.junk::.junk::.junk::.junk::.junk::.junk::.junk::.junk::.junk::.junk::.junk::.junk::.junk::.junk::.junk::.junk::.junk::.junk::.junk::.junk::.junk::.junk::.junk::.junk::.junk::.junk::.junk::.junk::.junk::.junk::.junk::.junk::.junk::.junk::.junk::.junk::.junk::.junk::.junk::.junk::.junk::.junk::.junk::.junk::.junk::.junk::.junk::.junk::.junk::.junk::.junk::.junk::.junk::.junk::.junk::.junk::.junk::.junk::.junk::.junk::.junk::.junk::.junk::.junk::.junk::.junk::.junk::.junk::.junk::.junk::.junk::.junk::.junk::.junk::.junk::.junk::.junk::.junk::.junk::.junk::.junk::.junk::.junk::.junk::.junk::.junk::[])∧k≤p.2∧m=p.2 - k∧π=⟨nx,H⟩) ?_ p.2 _ _ ⟨0,rfl,by omega,rfl,rfl⟩
     rintro m t π ⟨k,rfl,hk,rfl,rfl⟩
     by_cases hlk:(k:Int) < (p.2:Nat)
     ·have hw1:IntKind.u16.wrap (IntKind.i64.wrap (IntKind.i64.wrap ((i:Int) * 1009) + IntKind.i64.wrap ((k:Int) * 31)))=w1 i k:=rfl
      have hwk:IntKind.i64.wrap (((k:Nat):Int) + 1)=((k + 1:Nat):Int):=by rw [wrap64 (by omega) (by omega)];omega
      have e1:nthP oc k=some (.lit (.int .u16 (w1 i k))):=by rw [nthP_eq];exact o5 k (by omega)
      have e2:nthP xc k=some (.lit (.int .u16 (w1 i k))):=by rw [nthP_eq];exact y5 k (by omega)
      have hlk2:((k:Nat):Int) < ((p.2 + 16:Nat):Int):=by omega
      repeat (refine PRun.wpn rfl ?_;simp only [wp,wo_nil,wo_p,wo_r,wo_g,beq_self_eq_true,onO_s,onG_t,wanted_g,wantB_b,pv_t,pv_int,put_some,bi_add,bi_mul,bi_neq,bi_lss,pevP,pevR,getP,setP,PW.cs?,Option.map_some,Option.bind_some,Nat.mul_one,Int.natCast_nonneg,Int.toNat_natCast,and_self,↓reduceIte,Bool.false_eq_true,Nat.zero_add,ltB_t hlk,hlk,hlk2,hT,hlt,hn,hn2,hs2,q3,o3,y3,e1,e2,hw1,nb,hwk])
      refine Gh.mask (true::false::false::false::false::true::false::false::false::true::true::true::false::false::false::false::false::false::false::false::false::false::false::false::false::false::false::false::false::false::false::false::false::false::false::false::false::false::false::false::false::false::false::false::false::false::false::false::false::false::false::false::false::false::false::false::false::false::false::false::false::false::false::false::false::false::false::false::false::false::false::false::false::false::false::false::false::false::false::false::false::false::false::false::false::false::false::false::false::false::false::false::false::false::false::false::false::false::false::false::false::false::false::false::false::false::false::false::false::false::false::false::false::false::false::false::false::false::false::false::false::false::false::false::false::false::false::false::false::false::false::false::false::false::false::[]) ?_
      exact ⟨p.2 - (k + 1),by omega,k + 1,rfl,by omega,rfl,rfl⟩
     ·repeat (refine PRun.wpn rfl ?_;simp only [wp,wo_nil,wo_p,onO_s,pv_t,pv_int,put_some,bi_lss,pevP,getP,setP,Option.map_some,↓reduceIte,Bool.false_eq_true,ltB_f hlk])
      refine PRun.gh (Gh.mask (true::false::false::false::false::true::false::false::false::true::true::false::true::false::false::false::false::false::false::false::false::false::false::false::false::false::false::false::false::false::false::false::false::false::false::false::false::false::false::false::false::false::false::false::false::false::false::false::false::false::false::false::false::false::false::false::false::false::false::false::false::false::false::false::false::false::false::false::false::false::false::false::false::false::false::false::false::false::false::false::false::false::false::false::false::false::false::false::false::false::false::false::false::false::false::false::false::false::false::false::false::false::false::false::false::false::false::false::false::false::false::false::false::false::false::false::false::false::false::false::false::false::false::false::false::false::false::false::false::false::false::false::false::false::false::[]) ?_)
      simp only [↓reduceIte,Bool.false_eq_true,maskP]
      refine PRun.loopG (fun m t π=>∃ k:Nat,t=(.loc j 0 ps.length ps.length::.junk::.junk::.junk::.junk::slotP (jl,ps.length)::.junk::.junk::.junk::.lit (.int .i64 (i:Nat))::.lit (.int .i64 (p.2:Nat))::.junk::.lit (.int .i64 (k:Nat))::.junk::.junk::.junk::.junk::.junk::.junk::.junk::.junk::.junk::.junk::.junk::.junk::.junk::.junk::.junk::.junk::.junk::.junk::.junk::.junk::.junk::.junk::.junk::.junk::.junk::.junk::.junk::.junk::.junk::.junk::.junk::.junk::.junk::.junk::.junk::.junk::.junk::.junk::.junk::.junk::.junk::.junk::.junk::.junk::.junk::.junk::.junk::.junk::.junk::.junk::.junk::.junk::.junk::.junk::.junk::.junk::.junk::.junk::.junk::.junk::.junk::.junk::.junk::.junk::.junk::.junk::.junk::.junk::.junk::.junk::.junk::.junk::.junk::.junk::.junk::.junk::.junk::.junk::.junk::.junk::.junk::.junk::.junk::.junk::.junk::.junk::.junk::.junk::.junk::.junk::.junk::.junk::.junk::.junk::.junk::.junk::.junk::.junk::.junk::.junk::.junk::.junk::.junk::.junk::.junk::.junk::.junk::.junk::.junk::.junk::.junk::.junk::.junk::.junk::.junk::.junk::.junk::.junk::.junk::.junk::.junk::.junk::[])∧k≤16∧m=16 - k∧π=⟨nx,H⟩) ?_ 16 _ _ ⟨0,rfl,by omega,rfl,rfl⟩
      clear hlk hk k
      rintro m t π ⟨k,rfl,hk,rfl,rfl⟩
      by_cases hlk:(k:Int) < 16
      ·have hw2:IntKind.u16.wrap (IntKind.i64.wrap (IntKind.i64.wrap (IntKind.i64.wrap (-1 - (i:Int)) * 1009) + IntKind.i64.wrap ((k:Int) * 31)))=w2 i k:=rfl
       have hwk:IntKind.i64.wrap (((k:Nat):Int) + 1)=((k + 1:Nat):Int):=by rw [wrap64 (by omega) (by omega)];omega
       have hwn:IntKind.i64.wrap (((p.2:Nat):Int) + ((k:Nat):Int))=((p.2 + k:Nat):Int):=by rw [wrap64 (by omega) (by omega)];omega
       have e2:nthP xc (p.2 + k)=some (.lit (.int .u16 (w2 i k))):=by rw [nthP_eq];exact y6 k (by omega)
       have hlk2:((p.2 + k:Nat):Int) < ((p.2 + 16:Nat):Int):=by omega
       repeat (refine PRun.wpn rfl ?_;simp only [wp,wo_nil,wo_p,wo_r,onO_s,pv_t,pv_int,put_some,bi_add,bi_sub,bi_mul,bi_neq,bi_lss,pevP,pevR,getP,setP,PW.cs?,Option.map_some,Option.bind_some,Nat.mul_one,Int.natCast_nonneg,Int.toNat_natCast,and_self,↓reduceIte,Bool.false_eq_true,Nat.zero_add,ltB_t hlk,hlk2,hlt,hn2,hs2,q3,y3,e2,hw2,nb,hwk,hwn])
       refine Gh.mask (true::false::false::false::false::true::false::false::false::true::true::false::true::false::false::false::false::false::false::false::false::false::false::false::false::false::false::false::false::false::false::false::false::false::false::false::false::false::false::false::false::false::false::false::false::false::false::false::false::false::false::false::false::false::false::false::false::false::false::false::false::false::false::false::false::false::false::false::false::false::false::false::false::false::false::false::false::false::false::false::false::false::false::false::false::false::false::false::false::false::false::false::false::false::false::false::false::false::false::false::false::false::false::false::false::false::false::false::false::false::false::false::false::false::false::false::false::false::false::false::false::false::false::false::false::false::false::false::false::false::false::false::false::false::false::[]) ?_
       exact ⟨16 - (k + 1),by omega,k + 1,rfl,by omega,rfl,rfl⟩
      ·repeat (refine PRun.wpn rfl ?_;simp only [wp,wo_nil,wo_p,onO_s,pv_t,pv_int,put_some,bi_add,bi_lss,pevP,getP,setP,Option.map_some,↓reduceIte,Bool.false_eq_true,ltB_f hlk,hw])
       refine Gh.mask (true::false::false::false::false::true::false::false::false::true::false::false::false::false::false::false::false::false::false::false::false::false::false::false::false::false::false::false::false::false::false::false::false::false::false::false::false::false::false::false::false::false::false::false::false::false::false::false::false::false::false::false::false::false::false::false::false::false::false::false::false::false::false::false::false::false::false::false::false::false::false::false::false::false::false::false::false::false::false::false::false::false::false::false::false::false::false::false::false::false::false::false::false::false::false::false::false::false::false::false::false::false::false::false::false::false::false::false::false::false::false::false::false::false::false::false::false::false::false::false::false::false::false::false::false::false::false::false::false::false::false::false::false::false::false::[]) ?_
       exact ⟨ps.length - (i + 1),by omega,i + 1,rfl,by omega,rfl,rfl⟩
   ·repeat (refine PRun.wpn rfl ?_;simp only [wp,wo_nil,wo_p,onO_s,pv_t,pv_bool,put_some,bi_lss,pevP,getP,setP,Option.map_some,or_true,true_and,↓reduceIte,reduceCtorEq,Bool.false_eq_true,ltB_f hlt])
    exact .refl ⟨_,rfl,rfl,hK.keep,hK.nx⟩
end
end Go.Proofs.YtkldgoapompinaaDoor.Ai
namespace Go.Proofs.YtkldgoapompinaaDoor.Ai
open Go
set_option linter.unusedVariables false
set_option linter.unusedSectionVars false
set_option maxRecDepth 10000
set_option maxHeartbeats 4000000
section
variable {C:Ctx} (hm:C.P.follows .mixedOrders=true) (hC:TabOK C.P C.ng C.ts Tryd.tab)
include hm hC
theorem own62:PFun C 62 [.lit (.slice none 0 0)] (.lit (.bool true)):=by
 have z0:=ltB_f (show ¬ (0:Int) < 0 by omega)
 refine PFun.body hm hC (show Tryd.tab.get 62=some Tryd.c62 from rfl) rfl ?_
 simp only [Tryd.c62,startP,List.length_cons,List.length_nil,Nat.reduceAdd,Nat.reduceSub,List.replicate,List.cons_append,List.nil_append]
 repeat (refine PRun.wpn rfl ?_;simp only [wp,wo_nil,wo_p,onO_s,pv_int,pv_bool,put_some,pevP,setP,PW.none,reduceCtorEq,resPs,resP,tupP])
 refine PRun.loopG (fun m t π=>t=_∧π=_) ?_ 0 _ _ ⟨rfl,rfl⟩
 rintro m t π ⟨rfl,rfl⟩
 repeat (refine PRun.wpn rfl ?_;simp only [wp,wo_nil,wo_p,onO_s,pv_t,pv_int,pv_nilS,put_some,bi_lss,pevP,getP,setP,Option.map_some,nc0,↓reduceIte,reduceCtorEq,Bool.false_eq_true,z0])
 refine PRun.loopG (fun m t π=>t=_∧π=_) ?_ 0 _ _ ⟨rfl,rfl⟩
 rintro m t π ⟨rfl,rfl⟩
 repeat (refine PRun.wpn rfl ?_;simp only [wp,wo_nil,wo_p,onO_s,pv_t,pv_int,put_some,bi_lss,pevP,getP,setP,Option.map_some,nc0,↓reduceIte,reduceCtorEq,Bool.false_eq_true,z0])
 refine PRun.loopG (fun m t π=>t=_∧π=_) ?_ 0 _ _ ⟨rfl,rfl⟩
 rintro m t π ⟨rfl,rfl⟩
 repeat (refine PRun.wpn rfl ?_;simp only [wp,wo_nil,wo_p,onO_s,pv_t,pv_bool,put_some,bi_lss,pevP,getP,setP,Option.map_some,or_true,nc0,true_and,↓reduceIte,reduceCtorEq,Bool.false_eq_true,z0])
 exact .refl ⟨_,rfl,.refl _⟩
theorem own63:PFun C 63 [.lit (.slice none 0 0)] (.lit (.bool true)):=by
 have z0:=ltB_f (show ¬ (0:Int) < 0 by omega)
 refine PFun.body hm hC (show Tryd.tab.get 63=some Tryd.c63 from rfl) rfl ?_
 simp only [Tryd.c63,startP,List.length_cons,List.length_nil,Nat.reduceAdd,Nat.reduceSub,List.replicate,List.cons_append,List.nil_append]
 repeat (refine PRun.wpn rfl ?_;simp only [wp,wo_nil,wo_p,onO_s,pv_int,pv_bool,put_some,pevP,setP,PW.none,reduceCtorEq,resPs,resP,tupP])
 refine PRun.loopG (fun m t π=>t=_∧π=_) ?_ 0 _ _ ⟨rfl,rfl⟩
 rintro m t π ⟨rfl,rfl⟩
 repeat (refine PRun.wpn rfl ?_;simp only [wp,wo_nil,wo_p,onO_s,pv_t,pv_int,pv_nilS,put_some,bi_lss,pevP,getP,setP,Option.map_some,nc0,↓reduceIte,reduceCtorEq,Bool.false_eq_true,z0])
 refine PRun.loopG (fun m t π=>t=_∧π=_) ?_ 0 _ _ ⟨rfl,rfl⟩
 rintro m t π ⟨rfl,rfl⟩
 repeat (refine PRun.wpn rfl ?_;simp only [wp,wo_nil,wo_p,onO_s,pv_t,pv_int,put_some,bi_lss,pevP,getP,setP,Option.map_some,nc0,↓reduceIte,reduceCtorEq,Bool.false_eq_true,z0])
 refine PRun.loopG (fun m t π=>t=_∧π=_) ?_ 0 _ _ ⟨rfl,rfl⟩
 rintro m t π ⟨rfl,rfl⟩
 repeat (refine PRun.wpn rfl ?_;simp only [wp,wo_nil,wo_p,onO_s,pv_t,pv_bool,put_some,bi_lss,pevP,getP,setP,Option.map_some,or_true,nc0,true_and,↓reduceIte,reduceCtorEq,Bool.false_eq_true,z0])
 exact .refl ⟨_,rfl,.refl _⟩
theorem own64:PFun C 64 [.lit (.slice none 0 0)] (.lit (.bool true)):=by
 have z0:=ltB_f (show ¬ (0:Int) < 0 by omega)
 refine PFun.body hm hC (show Tryd.tab.get 64=some Tryd.c64 from rfl) rfl ?_
 simp only [Tryd.c64,startP,List.length_cons,List.length_nil,Nat.reduceAdd,Nat.reduceSub,List.replicate,List.cons_append,List.nil_append]
 repeat (refine PRun.wpn rfl ?_;simp only [wp,wo_nil,wo_p,onO_s,pv_int,pv_bool,put_some,pevP,setP,PW.none,reduceCtorEq,resPs,resP,tupP])
 refine PRun.loopG (fun m t π=>t=_∧π=_) ?_ 0 _ _ ⟨rfl,rfl⟩
 rintro m t π ⟨rfl,rfl⟩
 repeat (refine PRun.wpn rfl ?_;simp only [wp,wo_nil,wo_p,onO_s,pv_t,pv_int,pv_nilS,put_some,bi_lss,pevP,getP,setP,Option.map_some,nc0,↓reduceIte,reduceCtorEq,Bool.false_eq_true,z0])
 refine PRun.loopG (fun m t π=>t=_∧π=_) ?_ 0 _ _ ⟨rfl,rfl⟩
 rintro m t π ⟨rfl,rfl⟩
 repeat (refine PRun.wpn rfl ?_;simp only [wp,wo_nil,wo_p,onO_s,pv_t,pv_int,put_some,bi_lss,pevP,getP,setP,Option.map_some,nc0,↓reduceIte,reduceCtorEq,Bool.false_eq_true,z0])
 refine PRun.loopG (fun m t π=>t=_∧π=_) ?_ 0 _ _ ⟨rfl,rfl⟩
 rintro m t π ⟨rfl,rfl⟩
 repeat (refine PRun.wpn rfl ?_;simp only [wp,wo_nil,wo_p,onO_s,pv_t,pv_bool,put_some,bi_lss,pevP,getP,setP,Option.map_some,or_true,nc0,true_and,↓reduceIte,reduceCtorEq,Bool.false_eq_true,z0])
 exact .refl ⟨_,rfl,.refl _⟩
theorem own65:PFun C 65 [.lit (.slice none 0 0)] (.lit (.bool true)):=by
 have z0:=ltB_f (show ¬ (0:Int) < 0 by omega)
 refine PFun.body hm hC (show Tryd.tab.get 65=some Tryd.c65 from rfl) rfl ?_
 simp only [Tryd.c65,startP,List.length_cons,List.length_nil,Nat.reduceAdd,Nat.reduceSub,List.replicate,List.cons_append,List.nil_append]
 repeat (refine PRun.wpn rfl ?_;simp only [wp,wo_nil,wo_p,onO_s,pv_int,pv_bool,put_some,pevP,setP,PW.none,reduceCtorEq,resPs,resP,tupP])
 refine PRun.gh (Gh.mask (true::false::false::true::false::false::false::false::false::false::false::false::false::false::false::false::false::false::false::false::false::false::false::false::false::false::false::false::false::false::false::false::false::false::false::false::false::false::false::false::false::false::false::false::false::false::false::false::false::false::false::false::false::false::false::false::false::false::false::false::false::false::false::false::false::false::false::false::false::false::false::false::false::false::false::false::false::false::false::false::false::false::false::false::false::false::false::false::false::false::false::false::false::false::false::false::false::false::false::false::false::false::false::false::false::false::false::false::false::false::false::false::false::false::false::false::false::false::false::false::false::false::false::false::false::false::false::false::false::false::false::false::false::false::false::false::false::false::false::false::false::false::false::false::false::false::false::false::false::false::[]) ?_)
 simp only [↓reduceIte,Bool.false_eq_true,maskP]
 refine PRun.loopG (fun m t π=>∃ i:Nat,t=(.lit (.slice none 0 0)::.junk::.junk::.lit (.int .i64 (i:Nat))::.junk::.junk::.junk::.junk::.junk::.junk::.junk::.junk::.junk::.junk::.junk::.junk::.junk::.junk::.junk::.junk::.junk::.junk::.junk::.junk::.junk::.junk::.junk::.junk::.junk::.junk::.junk::.junk::.junk::.junk::.junk::.junk::.junk::.junk::.junk::.junk::.junk::.junk::.junk::.junk::.junk::.junk::.junk::.junk::.junk::.junk::.junk::.junk::.junk::.junk::.junk::.junk::.junk::.junk::.junk::.junk::.junk::.junk::.junk::.junk::.junk::.junk::.junk::.junk::.junk::.junk::.junk::.junk::.junk::.junk::.junk::.junk::.junk::.junk::.junk::.junk::.junk::.junk::.junk::.junk::.junk::.junk::.junk::.junk::.junk::.junk::.junk::.junk::.junk::.junk::.junk::.junk::.junk::.junk::.junk::.junk::.junk::.junk::.junk::.junk::.junk::.junk::.junk::.junk::.junk::.junk::.junk::.junk::.junk::.junk::.junk::.junk::.junk::.junk::.junk::.junk::.junk::.junk::.junk::.junk::.junk::.junk::.junk::.junk::.junk::.junk::.junk::.junk::.junk::.junk::.junk::.junk::.junk::.junk::.junk::.junk::.junk::.junk::.junk::.junk::.junk::.junk::.junk::.junk::.junk::.junk::[])∧m=1 - i∧i≤1∧π=⟨0,[]⟩) ?_ 1 _ _ ⟨0,rfl,rfl,by omega,rfl⟩
 rintro m t π ⟨i,rfl,rfl,hi,rfl⟩
 by_cases h0:((i:Nat):Int)=0
 ·have hw:IntKind.i64.wrap (((i:Nat):Int) + 1)=((i + 1:Nat):Int):=by rw [wrap64 (by omega) (by omega)];omega
  repeat (refine PRun.wpn rfl ?_;simp only [wp,wo_nil,wo_p,wo_g,onO_s,onG_f,wanted_g,wantB_b,b_tf,pv_t,pv_int,pv_bool,put_some,bi_eql,pevP,getP,setP,Option.map_some,↓reduceIte,eqB_t h0])
  refine PRun.loopG (fun m t π=>t=_∧π=_) ?_ 0 _ _ ⟨rfl,rfl⟩
  rintro m t π ⟨rfl,rfl⟩
  repeat (refine PRun.wpn rfl ?_;simp only [wp,wo_nil,wo_p,onO_s,pv_t,pv_int,pv_nilS,put_some,bi_lss,pevP,getP,setP,Option.map_some,nc0,↓reduceIte,Bool.false_eq_true,z0])
  refine PRun.loopG (fun m t π=>t=_∧π=_) ?_ 0 _ _ ⟨rfl,rfl⟩
  rintro m t π ⟨rfl,rfl⟩
  repeat (refine PRun.wpn rfl ?_;simp only [wp,wo_nil,wo_p,onO_s,pv_t,pv_int,put_some,bi_lss,pevP,getP,setP,Option.map_some,nc0,↓reduceIte,Bool.false_eq_true,z0])
  refine PRun.loopG (fun m t π=>t=_∧π=_) ?_ 0 _ _ ⟨rfl,rfl⟩
  rintro m t π ⟨rfl,rfl⟩
  repeat (refine PRun.wpn rfl ?_;simp only [wp,wo_nil,wo_p,onO_s,pv_t,pv_int,put_some,bi_add,bi_lss,pevP,getP,setP,Option.map_some,nc0,↓reduceIte,Bool.false_eq_true,z0,hw])
  refine Gh.mask (true::false::false::true::false::false::false::false::false::false::false::false::false::false::false::false::false::false::false::false::false::false::false::false::false::false::false::false::false::false::false::false::false::false::false::false::false::false::false::false::false::false::false::false::false::false::false::false::false::false::false::false::false::false::false::false::false::false::false::false::false::false::false::false::false::false::false::false::false::false::false::false::false::false::false::false::false::false::false::false::false::false::false::false::false::false::false::false::false::false::false::false::false::false::false::false::false::false::false::false::false::false::false::false::false::false::false::false::false::false::false::false::false::false::false::false::false::false::false::false::false::false::false::false::false::false::false::false::false::false::false::false::false::false::false::false::false::false::false::false::false::false::false::false::false::false::false::false::false::false::[]) ?_
  exact ⟨0,by omega,i + 1,rfl,by omega,by omega,rfl⟩
 ·obtain rfl:i=1:=by omega
  repeat (refine PRun.wpn rfl ?_;simp only [wp,wo_nil,wo_p,wo_g,beq_self_eq_true,onO_s,onG_t,wanted_g,wantB_b,pv_t,pv_int,pv_bool,put_some,bi_eql,pevP,getP,setP,Option.map_some,or_true,nc0,nc1,tn1,true_and,↓reduceIte,reduceCtorEq,Nat.reduceSub,decide_eq_true_eq,eqB_f (show ¬ (1:Int)=0 by omega)])
  skip
  exact .refl ⟨_,rfl,.refl _⟩
theorem own67:PFun C 67 [.lit (.slice none 0 0)] (.lit (.bool true)):=by
 have z0:=ltB_f (show ¬ (0:Int) < 0 by omega)
 refine PFun.body hm hC (show Tryd.tab.get 67=some Tryd.c67 from rfl) rfl ?_
 simp only [Tryd.c67,startP,List.length_cons,List.length_nil,Nat.reduceAdd,Nat.reduceSub,List.replicate,List.cons_append,List.nil_append]
 repeat (refine PRun.wpn rfl ?_;simp only [wp,wo_nil,wo_p,onO_s,pv_int,pv_bool,put_some,pevP,setP,PW.none,reduceCtorEq,resPs,resP,tupP])
 refine PRun.loopG (fun m t π=>t=_∧π=_) ?_ 0 _ _ ⟨rfl,rfl⟩
 rintro m t π ⟨rfl,rfl⟩
 repeat (refine PRun.wpn rfl ?_;simp only [wp,wo_nil,wo_p,onO_s,pv_t,pv_int,pv_nilS,put_some,bi_lss,pevP,getP,setP,Option.map_some,nc0,↓reduceIte,reduceCtorEq,Bool.false_eq_true,z0])
 refine PRun.loopG (fun m t π=>t=_∧π=_) ?_ 0 _ _ ⟨rfl,rfl⟩
 rintro m t π ⟨rfl,rfl⟩
 repeat (refine PRun.wpn rfl ?_;simp only [wp,wo_nil,wo_p,onO_s,pv_t,pv_int,put_some,bi_lss,pevP,getP,setP,Option.map_some,nc0,↓reduceIte,reduceCtorEq,Bool.false_eq_true,z0])
 refine PRun.loopG (fun m t π=>t=_∧π=_) ?_ 0 _ _ ⟨rfl,rfl⟩
 rintro m t π ⟨rfl,rfl⟩
 repeat (refine PRun.wpn rfl ?_;simp only [wp,wo_nil,wo_p,onO_s,pv_t,pv_bool,put_some,bi_lss,pevP,getP,setP,Option.map_some,or_true,nc0,true_and,↓reduceIte,reduceCtorEq,Bool.false_eq_true,z0])
 exact .refl ⟨_,rfl,.refl _⟩
theorem own68:PFun C 68 [.lit (.slice none 0 0)] (.lit (.bool true)):=by
 have z0:=ltB_f (show ¬ (0:Int) < 0 by omega)
 refine PFun.body hm hC (show Tryd.tab.get 68=some Tryd.c68 from rfl) rfl ?_
 simp only [Tryd.c68,startP,List.length_cons,List.length_nil,Nat.reduceAdd,Nat.reduceSub,List.replicate,List.cons_append,List.nil_append]
 repeat (refine PRun.wpn rfl ?_;simp only [wp,wo_nil,wo_p,onO_s,pv_int,pv_bool,put_some,pevP,setP,PW.none,reduceCtorEq,resPs,resP,tupP])
 refine PRun.loopG (fun m t π=>t=_∧π=_) ?_ 0 _ _ ⟨rfl,rfl⟩
 rintro m t π ⟨rfl,rfl⟩
 repeat (refine PRun.wpn rfl ?_;simp only [wp,wo_nil,wo_p,onO_s,pv_t,pv_int,pv_nilS,put_some,bi_lss,pevP,getP,setP,Option.map_some,nc0,↓reduceIte,reduceCtorEq,Bool.false_eq_true,z0])
 refine PRun.loopG (fun m t π=>t=_∧π=_) ?_ 0 _ _ ⟨rfl,rfl⟩
 rintro m t π ⟨rfl,rfl⟩
 repeat (refine PRun.wpn rfl ?_;simp only [wp,wo_nil,wo_p,onO_s,pv_t,pv_int,put_some,bi_lss,pevP,getP,setP,Option.map_some,nc0,↓reduceIte,reduceCtorEq,Bool.false_eq_true,z0])
 refine PRun.loopG (fun m t π=>t=_∧π=_) ?_ 0 _ _ ⟨rfl,rfl⟩
 rintro m t π ⟨rfl,rfl⟩
 repeat (refine PRun.wpn rfl ?_;simp only [wp,wo_nil,wo_p,onO_s,pv_t,pv_bool,put_some,bi_lss,pevP,getP,setP,Option.map_some,or_true,nc0,true_and,↓reduceIte,reduceCtorEq,Bool.false_eq_true,z0])
 exact .refl ⟨_,rfl,.refl _⟩
theorem own69:PFun C 69 [.lit (.slice none 0 0)] (.lit (.bool true)):=by
 have z0:=ltB_f (show ¬ (0:Int) < 0 by omega)
 refine PFun.body hm hC (show Tryd.tab.get 69=some Tryd.c69 from rfl) rfl ?_
 simp only [Tryd.c69,startP,List.length_cons,List.length_nil,Nat.reduceAdd,Nat.reduceSub,List.replicate,List.cons_append,List.nil_append]
 repeat (refine PRun.wpn rfl ?_;simp only [wp,wo_nil,wo_p,onO_s,pv_int,pv_bool,put_some,pevP,setP,PW.none,reduceCtorEq,resPs,resP,tupP])
 refine PRun.loopG (fun m t π=>t=_∧π=_) ?_ 0 _ _ ⟨rfl,rfl⟩
 rintro m t π ⟨rfl,rfl⟩
 repeat (refine PRun.wpn rfl ?_;simp only [wp,wo_nil,wo_p,onO_s,pv_t,pv_int,pv_nilS,put_some,bi_lss,pevP,getP,setP,Option.map_some,nc0,↓reduceIte,reduceCtorEq,Bool.false_eq_true,z0])
 refine PRun.loopG (fun m t π=>t=_∧π=_) ?_ 0 _ _ ⟨rfl,rfl⟩
 rintro m t π ⟨rfl,rfl⟩
 repeat (refine PRun.wpn rfl ?_;simp only [wp,wo_nil,wo_p,onO_s,pv_t,pv_int,put_some,bi_lss,pevP,getP,setP,Option.map_some,nc0,↓reduceIte,reduceCtorEq,Bool.false_eq_true,z0])
 refine PRun.loopG (fun m t π=>t=_∧π=_) ?_ 0 _ _ ⟨rfl,rfl⟩
 rintro m t π ⟨rfl,rfl⟩
 repeat (refine PRun.wpn rfl ?_;simp only [wp,wo_nil,wo_p,onO_s,pv_t,pv_bool,put_some,bi_lss,pevP,getP,setP,Option.map_some,or_true,nc0,true_and,↓reduceIte,reduceCtorEq,Bool.false_eq_true,z0])
 exact .refl ⟨_,rfl,.refl _⟩
theorem own70:PFun C 70 [.lit (.slice none 0 0)] (.lit (.bool true)):=by
 have z0:=ltB_f (show ¬ (0:Int) < 0 by omega)
 refine PFun.body hm hC (show Tryd.tab.get 70=some Tryd.c70 from rfl) rfl ?_
 simp only [Tryd.c70,startP,List.length_cons,List.length_nil,Nat.reduceAdd,Nat.reduceSub,List.replicate,List.cons_append,List.nil_append]
 repeat (refine PRun.wpn rfl ?_;simp only [wp,wo_nil,wo_p,onO_s,pv_int,pv_bool,put_some,pevP,setP,PW.none,reduceCtorEq,resPs,resP,tupP])
 refine PRun.loopG (fun m t π=>t=_∧π=_) ?_ 0 _ _ ⟨rfl,rfl⟩
 rintro m t π ⟨rfl,rfl⟩
 repeat (refine PRun.wpn rfl ?_;simp only [wp,wo_nil,wo_p,onO_s,pv_t,pv_int,pv_nilS,put_some,bi_lss,pevP,getP,setP,Option.map_some,nc0,↓reduceIte,reduceCtorEq,Bool.false_eq_true,z0])
 refine PRun.loopG (fun m t π=>t=_∧π=_) ?_ 0 _ _ ⟨rfl,rfl⟩
 rintro m t π ⟨rfl,rfl⟩
 repeat (refine PRun.wpn rfl ?_;simp only [wp,wo_nil,wo_p,onO_s,pv_t,pv_int,put_some,bi_lss,pevP,getP,setP,Option.map_some,nc0,↓reduceIte,reduceCtorEq,Bool.false_eq_true,z0])
 refine PRun.loopG (fun m t π=>t=_∧π=_) ?_ 0 _ _ ⟨rfl,rfl⟩
 rintro m t π ⟨rfl,rfl⟩
 repeat (refine PRun.wpn rfl ?_;simp only [wp,wo_nil,wo_p,onO_s,pv_t,pv_bool,put_some,bi_lss,pevP,getP,setP,Option.map_some,or_true,nc0,true_and,↓reduceIte,reduceCtorEq,Bool.false_eq_true,z0])
 exact .refl ⟨_,rfl,.refl _⟩
theorem own71:PFun C 71 [.lit (.slice none 0 0)] (.lit (.bool true)):=by
 have z0:=ltB_f (show ¬ (0:Int) < 0 by omega)
 refine PFun.body hm hC (show Tryd.tab.get 71=some Tryd.c71 from rfl) rfl ?_
 simp only [Tryd.c71,startP,List.length_cons,List.length_nil,Nat.reduceAdd,Nat.reduceSub,List.replicate,List.cons_append,List.nil_append]
 repeat (refine PRun.wpn rfl ?_;simp only [wp,wo_nil,wo_p,onO_s,pv_int,pv_bool,put_some,pevP,setP,PW.none,reduceCtorEq,resPs,resP,tupP])
 refine PRun.loopG (fun m t π=>t=_∧π=_) ?_ 0 _ _ ⟨rfl,rfl⟩
 rintro m t π ⟨rfl,rfl⟩
 repeat (refine PRun.wpn rfl ?_;simp only [wp,wo_nil,wo_p,onO_s,pv_t,pv_int,pv_nilS,put_some,bi_lss,pevP,getP,setP,Option.map_some,nc0,↓reduceIte,reduceCtorEq,Bool.false_eq_true,z0])
 refine PRun.loopG (fun m t π=>t=_∧π=_) ?_ 0 _ _ ⟨rfl,rfl⟩
 rintro m t π ⟨rfl,rfl⟩
 repeat (refine PRun.wpn rfl ?_;simp only [wp,wo_nil,wo_p,onO_s,pv_t,pv_int,put_some,bi_lss,pevP,getP,setP,Option.map_some,nc0,↓reduceIte,reduceCtorEq,Bool.false_eq_true,z0])
 refine PRun.loopG (fun m t π=>t=_∧π=_) ?_ 0 _ _ ⟨rfl,rfl⟩
 rintro m t π ⟨rfl,rfl⟩
 repeat (refine PRun.wpn rfl ?_;simp only [wp,wo_nil,wo_p,onO_s,pv_t,pv_bool,put_some,bi_lss,pevP,getP,setP,Option.map_some,or_true,nc0,true_and,↓reduceIte,reduceCtorEq,Bool.false_eq_true,z0])
 exact .refl ⟨_,rfl,.refl _⟩
theorem own72:PFun C 72 [.lit (.slice none 0 0)] (.lit (.bool true)):=by
 have z0:=ltB_f (show ¬ (0:Int) < 0 by omega)
 refine PFun.body hm hC (show Tryd.tab.get 72=some Tryd.c72 from rfl) rfl ?_
 simp only [Tryd.c72,startP,List.length_cons,List.length_nil,Nat.reduceAdd,Nat.reduceSub,List.replicate,List.cons_append,List.nil_append]
 repeat (refine PRun.wpn rfl ?_;simp only [wp,wo_nil,wo_p,onO_s,pv_int,pv_bool,put_some,pevP,setP,PW.none,reduceCtorEq,resPs,resP,tupP])
 refine PRun.loopG (fun m t π=>t=_∧π=_) ?_ 0 _ _ ⟨rfl,rfl⟩
 rintro m t π ⟨rfl,rfl⟩
 repeat (refine PRun.wpn rfl ?_;simp only [wp,wo_nil,wo_p,onO_s,pv_t,pv_int,pv_nilS,put_some,bi_lss,pevP,getP,setP,Option.map_some,nc0,↓reduceIte,reduceCtorEq,Bool.false_eq_true,z0])
 refine PRun.loopG (fun m t π=>t=_∧π=_) ?_ 0 _ _ ⟨rfl,rfl⟩
 rintro m t π ⟨rfl,rfl⟩
 repeat (refine PRun.wpn rfl ?_;simp only [wp,wo_nil,wo_p,onO_s,pv_t,pv_int,put_some,bi_lss,pevP,getP,setP,Option.map_some,nc0,↓reduceIte,reduceCtorEq,Bool.false_eq_true,z0])
 refine PRun.loopG (fun m t π=>t=_∧π=_) ?_ 0 _ _ ⟨rfl,rfl⟩
 rintro m t π ⟨rfl,rfl⟩
 repeat (refine PRun.wpn rfl ?_;simp only [wp,wo_nil,wo_p,onO_s,pv_t,pv_bool,put_some,bi_lss,pevP,getP,setP,Option.map_some,or_true,nc0,true_and,↓reduceIte,reduceCtorEq,Bool.false_eq_true,z0])
 exact .refl ⟨_,rfl,.refl _⟩
theorem own73:PFun C 73 [.lit (.slice none 0 0)] (.lit (.bool true)):=by
 have z0:=ltB_f (show ¬ (0:Int) < 0 by omega)
 refine PFun.body hm hC (show Tryd.tab.get 73=some Tryd.c73 from rfl) rfl ?_
 simp only [Tryd.c73,startP,List.length_cons,List.length_nil,Nat.reduceAdd,Nat.reduceSub,List.replicate,List.cons_append,List.nil_append]
 repeat (refine PRun.wpn rfl ?_;simp only [wp,wo_nil,wo_p,onO_s,pv_int,pv_bool,put_some,pevP,setP,PW.none,reduceCtorEq,resPs,resP,tupP])
 refine PRun.loopG (fun m t π=>t=_∧π=_) ?_ 0 _ _ ⟨rfl,rfl⟩
 rintro m t π ⟨rfl,rfl⟩
 repeat (refine PRun.wpn rfl ?_;simp only [wp,wo_nil,wo_p,onO_s,pv_t,pv_int,pv_nilS,put_some,bi_lss,pevP,getP,setP,Option.map_some,nc0,↓reduceIte,reduceCtorEq,Bool.false_eq_true,z0])
 refine PRun.loopG (fun m t π=>t=_∧π=_) ?_ 0 _ _ ⟨rfl,rfl⟩
 rintro m t π ⟨rfl,rfl⟩
 repeat (refine PRun.wpn rfl ?_;simp only [wp,wo_nil,wo_p,onO_s,pv_t,pv_int,put_some,bi_lss,pevP,getP,setP,Option.map_some,nc0,↓reduceIte,reduceCtorEq,Bool.false_eq_true,z0])
 refine PRun.loopG (fun m t π=>t=_∧π=_) ?_ 0 _ _ ⟨rfl,rfl⟩
 rintro m t π ⟨rfl,rfl⟩
 repeat (refine PRun.wpn rfl ?_;simp only [wp,wo_nil,wo_p,onO_s,pv_t,pv_bool,put_some,bi_lss,pevP,getP,setP,Option.map_some,or_true,nc0,true_and,↓reduceIte,reduceCtorEq,Bool.false_eq_true,z0])
 exact .refl ⟨_,rfl,.refl _⟩
theorem own74:PFun C 74 [.lit (.slice none 0 0)] (.lit (.bool true)):=by
 have z0:=ltB_f (show ¬ (0:Int) < 0 by omega)
 refine PFun.body hm hC (show Tryd.tab.get 74=some Tryd.c74 from rfl) rfl ?_
 simp only [Tryd.c74,startP,List.length_cons,List.length_nil,Nat.reduceAdd,Nat.reduceSub,List.replicate,List.cons_append,List.nil_append]
 repeat (refine PRun.wpn rfl ?_;simp only [wp,wo_nil,wo_p,onO_s,pv_int,pv_bool,put_some,pevP,setP,PW.none,reduceCtorEq,resPs,resP,tupP])
 refine PRun.loopG (fun m t π=>t=_∧π=_) ?_ 0 _ _ ⟨rfl,rfl⟩
 rintro m t π ⟨rfl,rfl⟩
 repeat (refine PRun.wpn rfl ?_;simp only [wp,wo_nil,wo_p,onO_s,pv_t,pv_int,pv_nilS,put_some,bi_lss,pevP,getP,setP,Option.map_some,nc0,↓reduceIte,reduceCtorEq,Bool.false_eq_true,z0])
 refine PRun.loopG (fun m t π=>t=_∧π=_) ?_ 0 _ _ ⟨rfl,rfl⟩
 rintro m t π ⟨rfl,rfl⟩
 repeat (refine PRun.wpn rfl ?_;simp only [wp,wo_nil,wo_p,onO_s,pv_t,pv_int,put_some,bi_lss,pevP,getP,setP,Option.map_some,nc0,↓reduceIte,reduceCtorEq,Bool.false_eq_true,z0])
 refine PRun.loopG (fun m t π=>t=_∧π=_) ?_ 0 _ _ ⟨rfl,rfl⟩
 rintro m t π ⟨rfl,rfl⟩
 repeat (refine PRun.wpn rfl ?_;simp only [wp,wo_nil,wo_p,onO_s,pv_t,pv_bool,put_some,bi_lss,pevP,getP,setP,Option.map_some,or_true,nc0,true_and,↓reduceIte,reduceCtorEq,Bool.false_eq_true,z0])
 exact .refl ⟨_,rfl,.refl _⟩
end
end Go.Proofs.YtkldgoapompinaaDoor.Ai
namespace Go.Proofs.YtkldgoapompinaaDoor.Ai
open Go
set_option linter.unusedSimpArgs false
set_option linter.unusedVariables false
set_option linter.unusedSectionVars false
set_option maxRecDepth 10000
set_option maxHeartbeats 4000000
section
variable {C:Ctx} (hm:C.P.follows .mixedOrders=true) (hC:TabOK C.P C.ng C.ts Tryd.tab)
include hm hC
end
end Go.Proofs.YtkldgoapompinaaDoor.Ai
namespace Go.Proofs.YtkldgoapompinaaDoor.Ai
open Go
set_option linter.unusedVariables false
set_option linter.unusedSectionVars false
set_option maxRecDepth 10000
set_option maxHeartbeats 4000000
def objs (i:Nat) (l:List Nat):List (Nat × PObj):=if l=[] then [] else [(i,.cells (N16 l) 54 1 false false [])]
theorem objs_nil (i:Nat):objs i []=[]:=rfl
theorem objs_ne {i:Nat} {l:List Nat} (h:l ≠ []):objs i l=[(i,.cells (N16 l) 54 1 false false [])]:=by unfold objs;rw [if_neg h]
def gheap (st lp:List Nat):PW:=⟨4,objs 3 lp++(objs 2 st++[(0,.cells [slotP (2,st.length),slotP (3,lp.length)] 25 2 true false [])])⟩
theorem slot_ne {i:Nat} {l:List Nat} (h:l ≠ []):slotP (i,l.length) = .loc i 0 l.length l.length:=slotP_loc fun e=>h (List.length_eq_zero_iff.1 e)
theorem slot_z (i:Nat):slotP (i,0) = .lit (.slice none 0 0):=rfl
section
variable {C:Ctx} (hm:C.P.follows .mixedOrders=true) (hC:TabOK C.P C.ng C.ts Tryd.tab)
include hm hC
theorem read_gen (s:ByteArray) (hs:s.size < 2 ^ 50):PGen C 50 [.lit (.string s)] (.tup [.agg [slotP (2,(readM s).1.1.length),slotP (3,(readM s).1.2.length)],.lit (.int .i64 ((readM s).2.1:Nat)),.lit (.int .i64 ((readM s).2.2:Nat))]) (gheap (readM s).1.1 (readM s).1.2):=by
 have hls:s.data.toList.length=s.size:=Array.length_toList
 unfold readM
 by_cases hbig:(65536:Int) < (s.size:Nat)
 ·rw [ltB_t hbig,if_pos rfl]
  refine PGen.body hm hC (show Tryd.tab.get 50=some Tryd.c50 from rfl) ?_
  simp only [Tryd.c50,startP,List.length_cons,List.length_nil,Nat.reduceAdd,Nat.reduceSub,List.replicate,List.cons_append,List.nil_append]
  repeat (refine PRun.wpn rfl ?_;simp only [wp,wo_nil,wo_p,wo_n,wo_st,onO_s,onN_s,onE_s,ble_self,ble_succ,pv_t,pv_int,ov_nil,ov_cons,ov_nilS,put_some,put_none,bi_gtr,pevP,pevR,pevN,pevE,getP,setP,fillP,spliceP,overP,plainP,isCell,look,PW.cs?,PW.push,PW.none,List.length_cons,List.length_nil,Option.map_some,or_true,true_and,Bool.and_true,↓reduceIte,reduceCtorEq,ltL,lt,Nat.reduceAdd,Bool.false_eq_true,Nat.zero_add,allPlain,PW.wr,setO,killO,Bool.or_self,Bool.not_true,resPs,resP,tupP,List.length_cons,List.length_nil,ltB_t hbig])
  exact Gh.mr (false::false::true::true::true::false::false::false::false::false::false::false::false::false::false::false::false::false::false::false::false::false::false::false::false::false::false::false::false::false::false::false::false::false::false::false::false::false::false::false::false::false::false::false::false::false::false::false::false::false::false::false::false::false::false::false::false::false::false::false::false::false::false::false::false::false::false::false::false::false::false::false::false::false::false::false::false::false::false::false::false::false::false::false::false::false::false::false::false::false::false::false::false::false::false::false::[]) [(0,0)] 4 rfl ⟨_,rfl,.refl _,rfl⟩
 rw [ltB_f hbig,if_neg (by decide)]
 refine PGen.body hm hC (show Tryd.tab.get 50=some Tryd.c50 from rfl) ?_
 simp only [Tryd.c50,startP,List.length_cons,List.length_nil,Nat.reduceAdd,Nat.reduceSub,List.replicate,List.cons_append,List.nil_append]
 repeat (refine PRun.wpn rfl ?_;simp only [wp,wo_nil,wo_p,wo_n,onO_s,onN_s,ble_self,ble_succ,pv_t,pv_int,pv_bool,ov_nil,ov_cons,ov_nilS,put_some,bi_gtr,pevP,pevR,pevN,getP,setP,PW.cs?,PW.push,PW.none,Option.map_some,Bool.and_true,↓reduceIte,reduceCtorEq,ltL,lt,Nat.reduceAdd,Bool.false_eq_true,Nat.add_zero,Nat.zero_add,resPs,resP,tupP,ltB_f hbig])
 generalize hR:rdM (s.size + 1) 0 s.data.toList [] [] false false true=R
 refine PRun.gh (Gh.mr (true::false::true::false::false::true::true::true::true::true::true::false::false::false::false::false::false::false::false::false::false::false::false::false::false::false::false::false::false::false::false::false::false::false::false::false::false::false::false::false::false::false::false::false::false::false::false::false::false::false::false::false::false::false::false::false::false::false::false::false::false::false::false::false::false::false::false::false::false::false::false::false::false::false::false::false::false::false::false::false::false::false::false::false::false::false::false::false::false::false::false::false::false::false::false::false::[]) [(0,0),(1,1)] 4 rfl ?_)
 simp only [↓reduceIte,reduceCtorEq,Bool.false_eq_true,renL,renP,renO,renH,renA,lkN,maskP]
 refine PRun.loopG (fun m t π=>∃ (i:Nat) (st lp:List Nat) (o sh p:Bool),t=(.lit (.string s)::.junk::.ptr 0 0::.junk::.junk::.ptr 1 0::.ptr 1 (if o=true then 1 else 0)::.lit (.bool o)::.lit (.bool sh)::.lit (.bool p)::.lit (.int .i64 (i:Nat))::.junk::.junk::.junk::.junk::.junk::.junk::.junk::.junk::.junk::.junk::.junk::.junk::.junk::.junk::.junk::.junk::.junk::.junk::.junk::.junk::.junk::.junk::.junk::.junk::.junk::.junk::.junk::.junk::.junk::.junk::.junk::.junk::.junk::.junk::.junk::.junk::.junk::.junk::.junk::.junk::.junk::.junk::.junk::.junk::.junk::.junk::.junk::.junk::.junk::.junk::.junk::.junk::.junk::.junk::.junk::.junk::.junk::.junk::.junk::.junk::.junk::.junk::.junk::.junk::.junk::.junk::.junk::.junk::.junk::.junk::.junk::.junk::.junk::.junk::.junk::.junk::.junk::.junk::.junk::.junk::.junk::.junk::.junk::.junk::.junk::[])∧i≤s.size∧m=s.size - i∧(o=false→lp=[])∧rdM (s.size + 1) i (s.data.toList.drop i) st lp o sh p=R∧st.length≤i∧lp.length≤i∧RSt st lp π) ?_ s.size _ _ ⟨0,[],[],false,false,true,rfl,by omega,rfl,fun _=>rfl,by simpa using hR,by simp,by simp,.inl ⟨rfl,rfl,rfl⟩⟩
 clear hR
 rintro m t π ⟨i,st,lp,o,sh,p,rfl,hi,rfl,hop,hR,hst,hlp,hπ⟩
 by_cases hlt:(i:Int) < (s.size:Nat)
 ·have hil:i < s.size:=by omega
  have hc:=idx_some hil
  have hd:=data_drop hil
  generalize s[i]=c at hc hd
  have hcb:=c.toNat_lt
  rw [hd] at hR
  have hK:(s.data.toList.drop (i + 1)).length < s.size:=by rw [List.length_drop,hls];omega
  have w1:IntKind.i64.wrap (((i:Nat):Int) + 1)=((i + 1:Nat):Int):=by rw [wrap64 (by omega) (by omega)];omega
  by_cases a1:((c.toNat:Nat):Int)=32
  ·rw [rd_sp hK (by omega)] at hR
   repeat (refine PRun.wpn rfl ?_;simp only [wp,wo_nil,wo_p,onO_s,pv_t,pv_int,pv_bool,put_some,bi_add,bi_eql,bi_lss,pevP,getP,setP,Option.map_some,Int.natCast_nonneg,Int.toNat_natCast,↓reduceIte,ltB_t hlt,hc,eqB_t a1,w1])
   refine Gh.mask (true::false::true::false::false::true::true::true::true::true::true::false::false::false::false::false::false::false::false::false::false::false::false::false::false::false::false::false::false::false::false::false::false::false::false::false::false::false::false::false::false::false::false::false::false::false::false::false::false::false::false::false::false::false::false::false::false::false::false::false::false::false::false::false::false::false::false::false::false::false::false::false::false::false::false::false::false::false::false::false::false::false::false::false::false::false::false::false::false::false::false::false::false::false::false::false::[]) ?_
   exact ⟨s.size - (i + 1),by omega,i + 1,st,lp,o,sh,true,rfl,by omega,rfl,hop,hR,by omega,by omega,hπ⟩
  by_cases a2:((c.toNat:Nat):Int)=40
  ·cases o
   ·rw [rd_op hK (by omega)] at hR
    repeat (refine PRun.wpn rfl ?_;simp only [wp,wo_nil,wo_p,wo_g,beq_self_eq_true,onO_s,onG_t,wanted_g,wantB_b,pv_t,pv_int,pv_bool,put_some,bi_add,bi_eql,bi_lss,pevP,getP,setP,Option.map_some,Int.natCast_nonneg,Int.toNat_natCast,↓reduceIte,Bool.false_eq_true,Nat.zero_add,Bool.not_false,ltB_t hlt,hc,eqB_f a1,eqB_t a2,w1])
    refine Gh.mask (true::false::true::false::false::true::true::true::true::true::true::false::false::false::false::false::false::false::false::false::false::false::false::false::false::false::false::false::false::false::false::false::false::false::false::false::false::false::false::false::false::false::false::false::false::false::false::false::false::false::false::false::false::false::false::false::false::false::false::false::false::false::false::false::false::false::false::false::false::false::false::false::false::false::false::false::false::false::false::false::false::false::false::false::false::false::false::false::false::false::false::false::false::false::false::false::[]) ?_
    exact ⟨s.size - (i + 1),by omega,i + 1,st,lp,true,sh,true,rfl,by omega,rfl,(fun h=>by cases h),hR,by omega,by omega,hπ⟩
   ·have a3:¬ ((c.toNat:Nat):Int)=41:=by omega
    have a4:¬ (48:Int)≤((c.toNat:Nat):Int):=by omega
    have hE:=rd_err (K:=s.size) (i:=i) (l:=s.data.toList.drop (i + 1)) (st:=st) (lp:=lp) (o:=true) (sh:=sh) (p:=p) (c:=c) (by omega) (by simp) (by rintro ⟨h,_⟩;omega) (by rintro ⟨h,_⟩;omega)
    rw [hE] at hR
    clear hE
    subst hR
    rcases hπ with ⟨rfl,rfl,rfl⟩ | ⟨h0,rfl,rfl⟩ | ⟨rfl,h0,rfl⟩ | ⟨h0,h0',rfl⟩
    all_goals
     repeat (refine PRun.wpn rfl ?_;simp only [wp,wo_nil,wo_p,wo_st,wo_g,beq_self_eq_true,onO_s,onE_s,onG_t,onG_f,wanted_g,wantB_b,b_ft,ble0,pv_t,pv_int,pv_bool,ov_nil,ov_cons,ov_nilS,put_some,put_none,bi_eql,bi_lss,bi_geq,pevP,pevE,getP,setP,fillP,spliceP,overP,plainP,isCell,look,List.length_cons,List.length_nil,Option.map_some,or_true,Int.natCast_nonneg,Int.toNat_natCast,true_and,Bool.and_true,↓reduceIte,reduceCtorEq,ltL,lt,Nat.reduceAdd,Bool.false_eq_true,Nat.zero_add,allPlain,PW.wr,setO,killO,Bool.or_self,Bool.not_true,List.length_cons,List.length_nil,ltB_t hlt,hc,eqB_f a1,eqB_t a2,eqB_f a3,leB_f a4])
     exact Gh.mr (false::false::true::true::true::false::false::false::false::false::false::false::false::false::false::false::false::false::false::false::false::false::false::false::false::false::false::false::false::false::false::false::false::false::false::false::false::false::false::false::false::false::false::false::false::false::false::false::false::false::false::false::false::false::false::false::false::false::false::false::false::false::false::false::false::false::false::false::false::false::false::false::false::false::false::false::false::false::false::false::false::false::false::false::false::false::false::false::false::false::false::false::false::false::false::false::[]) [(0,0)] 4 rfl ⟨_,rfl,.refl _,rfl⟩
  by_cases a3:((c.toNat:Nat):Int)=41
  ·have a4:¬ (48:Int)≤((c.toNat:Nat):Int):=by omega
   cases o
   ·have hE:=rd_err (K:=s.size) (i:=i) (l:=s.data.toList.drop (i + 1)) (st:=st) (lp:=lp) (o:=false) (sh:=sh) (p:=p) (c:=c) (by omega) (by rintro ⟨h,_⟩;omega) (by simp) (by rintro ⟨h,_⟩;omega)
    rw [hE] at hR
    clear hE
    subst hR
    rcases hπ with ⟨rfl,rfl,rfl⟩ | ⟨h0,rfl,rfl⟩ | ⟨rfl,h0,rfl⟩ | ⟨h0,h0',rfl⟩
    all_goals
     repeat (refine PRun.wpn rfl ?_;simp only [wp,wo_nil,wo_p,wo_st,wo_g,beq_self_eq_true,onO_s,onE_s,onG_t,onG_f,wanted_g,wantB_b,b_ft,ble0,pv_t,pv_int,pv_bool,ov_nil,ov_cons,ov_nilS,put_some,put_none,bi_eql,bi_lss,bi_geq,pevP,pevE,getP,setP,fillP,spliceP,overP,plainP,isCell,look,List.length_cons,List.length_nil,Option.map_some,or_true,Int.natCast_nonneg,Int.toNat_natCast,true_and,Bool.and_true,↓reduceIte,reduceCtorEq,ltL,lt,Nat.reduceAdd,Bool.false_eq_true,Nat.zero_add,allPlain,PW.wr,setO,killO,Bool.or_self,Bool.not_true,List.length_cons,List.length_nil,ltB_t hlt,hc,eqB_f a1,eqB_f a2,eqB_t a3,leB_f a4])
     exact Gh.mr (false::false::true::true::true::false::false::false::false::false::false::false::false::false::false::false::false::false::false::false::false::false::false::false::false::false::false::false::false::false::false::false::false::false::false::false::false::false::false::false::false::false::false::false::false::false::false::false::false::false::false::false::false::false::false::false::false::false::false::false::false::false::false::false::false::false::false::false::false::false::false::false::false::false::false::false::false::false::false::false::false::false::false::false::false::false::false::false::false::false::false::false::false::false::false::false::[]) [(0,0)] 4 rfl ⟨_,rfl,.refl _,rfl⟩
   ·cases sh
    ·by_cases hlp0:lp=[]
     ·have z0:=ltB_f (show ¬ (0:Int) < 0 by omega)
      subst hlp0
      have hE:=rd_err (K:=s.size) (i:=i) (l:=s.data.toList.drop (i + 1)) (st:=st) (lp:=[]) (o:=true) (sh:=false) (p:=p) (c:=c) (by omega) (by simp) (by simp) (by rintro ⟨h,_⟩;omega)
      rw [hE] at hR
      clear hE
      subst hR
      rcases hπ with ⟨rfl,_,rfl⟩ | ⟨h0,_,rfl⟩ | ⟨_,h0,_⟩ | ⟨_,h0,_⟩
      ·repeat (refine PRun.wpn rfl ?_;simp only [wp,wo_nil,wo_p,wo_r,wo_st,wo_g,beq_self_eq_true,onO_s,onE_s,onG_t,onG_f,wanted_g,wantB_b,b_ft,ble0,pv_t,pv_int,pv_bool,ov_nil,ov_cons,ov_nilS,put_some,put_none,bi_eql,bi_lss,bi_gtr,bi_geq,pevP,pevR,pevE,getP,setP,fillP,spliceP,overP,plainP,isCell,look,PW.cs?,nthP,List.length_cons,List.length_nil,Option.map_some,Option.bind_some,or_true,Int.natCast_nonneg,Int.toNat_natCast,nc0,true_and,Bool.and_true,↓reduceIte,reduceCtorEq,ltL,lt,Nat.reduceAdd,Bool.false_eq_true,Nat.zero_add,allPlain,PW.wr,setO,killO,Bool.or_self,Bool.not_true,Bool.not_false,List.length_cons,List.length_nil,ltB_t hlt,hc,eqB_f a1,eqB_f a2,eqB_t a3,leB_f a4,z0])
       exact Gh.mr (false::false::true::true::true::false::false::false::false::false::false::false::false::false::false::false::false::false::false::false::false::false::false::false::false::false::false::false::false::false::false::false::false::false::false::false::false::false::false::false::false::false::false::false::false::false::false::false::false::false::false::false::false::false::false::false::false::false::false::false::false::false::false::false::false::false::false::false::false::false::false::false::false::false::false::false::false::false::false::false::false::false::false::false::false::false::false::false::false::false::false::false::false::false::false::false::[]) [(0,0)] 4 rfl ⟨_,rfl,.refl _,rfl⟩
      ·repeat (refine PRun.wpn rfl ?_;simp only [wp,wo_nil,wo_p,wo_r,wo_st,wo_g,beq_self_eq_true,onO_s,onE_s,onG_t,onG_f,wanted_g,wantB_b,b_ft,ble0,pv_t,pv_int,pv_bool,ov_nil,ov_cons,ov_nilS,put_some,put_none,bi_eql,bi_lss,bi_gtr,bi_geq,pevP,pevR,pevE,getP,setP,fillP,spliceP,overP,plainP,isCell,look,PW.cs?,nthP,List.length_cons,List.length_nil,Option.map_some,Option.bind_some,or_true,Int.natCast_nonneg,Int.toNat_natCast,nc0,true_and,Bool.and_true,↓reduceIte,reduceCtorEq,ltL,lt,Nat.reduceAdd,Nat.reduceEqDiff,Bool.false_eq_true,Nat.zero_add,allPlain,PW.wr,setO,killO,Bool.or_self,Bool.not_true,Bool.not_false,List.length_cons,List.length_nil,ltB_t hlt,hc,eqB_f a1,eqB_f a2,eqB_t a3,leB_f a4,z0])
       exact Gh.mr (false::false::true::true::true::false::false::false::false::false::false::false::false::false::false::false::false::false::false::false::false::false::false::false::false::false::false::false::false::false::false::false::false::false::false::false::false::false::false::false::false::false::false::false::false::false::false::false::false::false::false::false::false::false::false::false::false::false::false::false::false::false::false::false::false::false::false::false::false::false::false::false::false::false::false::false::false::false::false::false::false::false::false::false::false::false::false::false::false::false::false::false::false::false::false::false::[]) [(0,0)] 4 rfl ⟨_,rfl,.refl _,rfl⟩
      ·exact absurd rfl h0
      ·exact absurd rfl h0
     ·rw [rd_cl hK (by omega) hlp0] at hR
      have hlz:(0:Int) < ((lp.length:Nat):Int):=by have:lp.length ≠ 0:=fun e=>hlp0 (List.length_eq_zero_iff.1 e);omega
      have hπ2:=hπ
      rcases hπ with ⟨_,rfl,_⟩ | ⟨_,rfl,_⟩ | ⟨rfl,h0,rfl⟩ | ⟨h0,h0',rfl⟩
      ·exact absurd rfl hlp0
      ·exact absurd rfl hlp0
      ·repeat (refine PRun.wpn rfl ?_;simp only [wp,wo_nil,wo_p,wo_r,wo_g,beq_self_eq_true,onO_s,onG_t,onG_f,wanted_g,wantB_b,b_ft,pv_t,pv_int,pv_bool,put_some,bi_add,bi_eql,bi_lss,bi_gtr,pevP,pevR,getP,setP,look,PW.cs?,nthP,Option.map_some,Option.bind_some,Int.natCast_nonneg,Int.toNat_natCast,↓reduceIte,Nat.reduceEqDiff,Bool.false_eq_true,Nat.zero_add,Bool.not_false,ltB_t hlt,hc,eqB_f a1,eqB_f a2,eqB_t a3,ltB_t hlz,w1])
       refine Gh.mask (true::false::true::false::false::true::true::true::true::true::true::false::false::false::false::false::false::false::false::false::false::false::false::false::false::false::false::false::false::false::false::false::false::false::false::false::false::false::false::false::false::false::false::false::false::false::false::false::false::false::false::false::false::false::false::false::false::false::false::false::false::false::false::false::false::false::false::false::false::false::false::false::false::false::false::false::false::false::false::false::false::false::false::false::false::false::false::false::false::false::false::false::false::false::false::false::[]) ?_
       exact ⟨s.size - (i + 1),by omega,i + 1,[],lp,true,true,p,rfl,by omega,rfl,(fun h=>by cases h),hR,by simp,by omega,hπ2⟩
      ·repeat (refine PRun.wpn rfl ?_;simp only [wp,wo_nil,wo_p,wo_r,wo_g,beq_self_eq_true,onO_s,onG_t,onG_f,wanted_g,wantB_b,b_ft,pv_t,pv_int,pv_bool,put_some,bi_add,bi_eql,bi_lss,bi_gtr,pevP,pevR,getP,setP,look,PW.cs?,nthP,Option.map_some,Option.bind_some,Int.natCast_nonneg,Int.toNat_natCast,↓reduceIte,Nat.reduceEqDiff,Bool.false_eq_true,Nat.zero_add,Bool.not_false,ltB_t hlt,hc,eqB_f a1,eqB_f a2,eqB_t a3,ltB_t hlz,w1])
       refine Gh.mask (true::false::true::false::false::true::true::true::true::true::true::false::false::false::false::false::false::false::false::false::false::false::false::false::false::false::false::false::false::false::false::false::false::false::false::false::false::false::false::false::false::false::false::false::false::false::false::false::false::false::false::false::false::false::false::false::false::false::false::false::false::false::false::false::false::false::false::false::false::false::false::false::false::false::false::false::false::false::false::false::false::false::false::false::false::false::false::false::false::false::false::false::false::false::false::false::[]) ?_
       exact ⟨s.size - (i + 1),by omega,i + 1,st,lp,true,true,p,rfl,by omega,rfl,(fun h=>by cases h),hR,by omega,by omega,hπ2⟩
    ·have hE:=rd_err (K:=s.size) (i:=i) (l:=s.data.toList.drop (i + 1)) (st:=st) (lp:=lp) (o:=true) (sh:=true) (p:=p) (c:=c) (by omega) (by simp) (by simp) (by rintro ⟨h,_⟩;omega)
     rw [hE] at hR
     clear hE
     subst hR
     rcases hπ with ⟨rfl,rfl,rfl⟩ | ⟨h0,rfl,rfl⟩ | ⟨rfl,h0,rfl⟩ | ⟨h0,h0',rfl⟩
     all_goals
      repeat (refine PRun.wpn rfl ?_;simp only [wp,wo_nil,wo_p,wo_st,wo_g,beq_self_eq_true,onO_s,onE_s,onG_t,onG_f,wanted_g,wantB_b,b_ft,ble0,pv_t,pv_int,pv_bool,ov_nil,ov_cons,ov_nilS,put_some,put_none,bi_eql,bi_lss,bi_geq,pevP,pevE,getP,setP,fillP,spliceP,overP,plainP,isCell,look,List.length_cons,List.length_nil,Option.map_some,or_true,Int.natCast_nonneg,Int.toNat_natCast,true_and,Bool.and_true,↓reduceIte,reduceCtorEq,ltL,lt,Nat.reduceAdd,Bool.false_eq_true,Nat.zero_add,allPlain,PW.wr,setO,killO,Bool.or_self,Bool.not_true,List.length_cons,List.length_nil,ltB_t hlt,hc,eqB_f a1,eqB_f a2,eqB_t a3,leB_f a4])
      exact Gh.mr (false::false::true::true::true::false::false::false::false::false::false::false::false::false::false::false::false::false::false::false::false::false::false::false::false::false::false::false::false::false::false::false::false::false::false::false::false::false::false::false::false::false::false::false::false::false::false::false::false::false::false::false::false::false::false::false::false::false::false::false::false::false::false::false::false::false::false::false::false::false::false::false::false::false::false::false::false::false::false::false::false::false::false::false::false::false::false::false::false::false::false::false::false::false::false::false::[]) [(0,0)] 4 rfl ⟨_,rfl,.refl _,rfl⟩
  by_cases a4:(48:Int)≤((c.toNat:Nat):Int)
  ·by_cases a5:((c.toNat:Nat):Int)≤57
   ·cases p
    ·have hE:=rd_err (K:=s.size) (i:=i) (l:=s.data.toList.drop (i + 1)) (st:=st) (lp:=lp) (o:=o) (sh:=sh) (p:=false) (c:=c) (by omega) (by rintro ⟨h,_⟩;omega) (by rintro ⟨h,_⟩;omega) (by simp)
     rw [hE] at hR
     clear hE
     subst hR
     rcases hπ with ⟨rfl,rfl,rfl⟩ | ⟨h0,rfl,rfl⟩ | ⟨rfl,h0,rfl⟩ | ⟨h0,h0',rfl⟩
     all_goals
      repeat (refine PRun.wpn rfl ?_;simp only [wp,wo_nil,wo_p,wo_st,wo_g,beq_self_eq_true,onO_s,onE_s,onG_t,onG_f,wanted_g,wantB_b,b_ft,ble0,pv_t,pv_int,pv_bool,ov_nil,ov_cons,ov_nilS,put_some,put_none,bi_eql,bi_lss,bi_leq,bi_geq,pevP,pevE,getP,setP,fillP,spliceP,overP,plainP,isCell,look,List.length_cons,List.length_nil,Option.map_some,or_true,Int.natCast_nonneg,Int.toNat_natCast,true_and,Bool.and_true,↓reduceIte,reduceCtorEq,ltL,lt,Nat.reduceAdd,Bool.false_eq_true,Nat.zero_add,allPlain,PW.wr,setO,killO,Bool.or_self,Bool.not_true,List.length_cons,List.length_nil,ltB_t hlt,hc,eqB_f a1,eqB_f a2,eqB_f a3,leB_t a4,leB_t a5])
      exact Gh.mr (false::false::true::true::true::false::false::false::false::false::false::false::false::false::false::false::false::false::false::false::false::false::false::false::false::false::false::false::false::false::false::false::false::false::false::false::false::false::false::false::false::false::false::false::false::false::false::false::false::false::false::false::false::false::false::false::false::false::false::false::false::false::false::false::false::false::false::false::false::false::false::false::false::false::false::false::false::false::false::false::false::false::false::false::false::false::false::false::false::false::false::false::false::false::false::false::[]) [(0,0)] 4 rfl ⟨_,rfl,.refl _,rfl⟩
    ·cases sh
     ·rw [rd_num hK (by omega)] at hR
      have hnb:=numL_le (c::s.data.toList.drop (i + 1)) 0 0 (by omega)
      have hn1:=numL_one (c:=c) (l:=s.data.toList.drop (i + 1)) ⟨by omega,by omega⟩
      have hnum:=number_ok hm hC (s.extract i s.size) (by rw [ByteArray.size_extract];omega)
      rw [ext_data hi,hd] at hnum
      have hll:(c::s.data.toList.drop (i + 1)).length=s.size - i:=by rw [← hd,List.length_drop,hls]
      rw [hll] at hnb
      have hdd:(c::s.data.toList.drop (i + 1)).drop (numL 0 0 (c::s.data.toList.drop (i + 1))).2=s.data.toList.drop (i + (numL 0 0 (c::s.data.toList.drop (i + 1))).2):=by rw [← hd,List.drop_drop]
      rw [hdd] at hR
      generalize numL 0 0 (c::s.data.toList.drop (i + 1))=N at hR hnum hnb hn1
      obtain ⟨v,n⟩:=N
      simp only at hR hnum hnb hn1
      have w2:IntKind.i64.wrap (((n:Nat):Int) - 1)=((n - 1:Nat):Int):=by rw [wrap64 (by omega) (by omega)];omega
      have w3:IntKind.i64.wrap (((i:Nat):Int) + ((n - 1:Nat):Int))=((i + (n - 1):Nat):Int):=by rw [wrap64 (by omega) (by omega)];omega
      have w4:IntKind.i64.wrap (((i + (n - 1):Nat):Int) + 1)=((i + n:Nat):Int):=by rw [wrap64 (by omega) (by omega)];omega
      have hle:((i:Nat):Int)≤((s.size:Nat):Int):=by omega
      have e1:(([]:List Nat).length:Nat)=0:=rfl
      have hap:∀ (l:List Nat) (ρ:List (Nat × Nat)),renL ρ (N16 l++[PV.lit (.int .u16 (v:Nat))])=N16 (l++[v]):=fun l ρ=>by rw [show N16 l++[PV.lit (.int .u16 (v:Nat))]=N16 (l++[v]) by rw [N16_app];rfl,renL_N16]
      cases o
      ·have hlp0:=hop rfl
       subst hlp0
       rcases hπ with ⟨rfl,_,rfl⟩ | ⟨h0,_,rfl⟩ | ⟨_,h0,_⟩ | ⟨_,h0,_⟩
       ·repeat (refine PRun.wpn rfl ?_;simp only [wp,wo_nil,wo_p,wo_call,wo_g,beq_self_eq_true,onO_s,onG_t,onG_f,wanted_g,wantB_b,b_ft,pv_t,pv_int,pv_bool,put_some,bi_eql,bi_lss,bi_leq,bi_geq,pevP,getP,setP,evsP,boundP,Option.map_some,Option.bind_some,Nat.zero_le,Int.natCast_nonneg,Int.toNat_natCast,true_and,↓reduceIte,Bool.false_eq_true,Bool.not_false,ltB_t hlt,hc,eqB_f a1,eqB_f a2,eqB_f a3,leB_t a4,leB_t a5,hle])
        refine .refl (PFun.to (hnum) rfl (POps.wp ?_))
        simp only [wo_nil,wo_p,onO_s,pv_t,put_some,pevP,getP,setP,nthP]
        repeat (refine PRun.wpn rfl ?_;simp only [wp,wo_nil,wo_p,wo_r,wo_n,wo_append,beq_self_eq_true,onO_s,onN_s,ble0,pv_t,pv_int,pv_bool,ov_nil,ov_cons,ov_int,put_some,put_none,bi_add,bi_sub,pevP,pevR,pevN,pevE,getP,setP,lenP,srcP,appendP,fillP,spliceP,overP,plainP,isCell,look,PW.cs?,PW.push,nthP,cut0,cutS,List.drop_zero,Option.map_some,Option.bind_some,Nat.mul_one,Bool.and_true,↓reduceIte,ltL,lt,Nat.reduceAdd,Nat.reduceMul,Nat.reduceLeDiff,Nat.reduceLT,Nat.reduceEqDiff,Nat.zero_add,allPlain,setO,killO,Bool.false_or,Bool.not_true,gt_iff_lt,w2,w3,w4])
        refine Gh.mr (true::false::true::false::false::true::true::true::true::true::true::false::false::false::false::false::false::false::false::false::false::false::false::false::false::false::false::false::false::false::false::false::false::false::false::false::false::false::false::false::false::false::false::false::false::false::false::false::false::false::false::false::false::false::false::false::false::false::false::false::false::false::false::false::false::false::false::false::false::false::false::false::false::false::false::false::false::false::false::false::false::false::false::false::false::false::false::false::false::false::false::false::false::false::false::false::[]) [(0,0),(1,1),(5,2)] 4 rfl ?_
        refine ⟨s.size - (i + n),by omega,i + n,[v],[],false,false,false,rfl,by omega,rfl,(fun _=>rfl),hR,by (try simp only [List.length_cons,List.length_nil]);omega,by (try simp only [List.length_nil]);omega,.inr (.inl ⟨by simp,rfl,by simp only [List.length_cons,List.length_nil,↓reduceIte,reduceCtorEq,Nat.reduceEqDiff,Nat.zero_add,renL,renP,renO,renH,renA,lkN,List.length_cons,List.length_nil];rfl⟩)⟩
       ·have q0:st.length ≠ 0:=fun e=>h0 (List.length_eq_zero_iff.1 e)
        have q1:¬ st.length + 1≤st.length:=by omega
        have q2:¬ 140737488355328 < (2 * (st.length + 1) + 768) * 2:=by omega
        have q3:=cutB (N16_len st)
        have q4:=N16_len st
        repeat (refine PRun.wpn rfl ?_;simp only [wp,wo_nil,wo_p,wo_call,wo_g,beq_self_eq_true,onO_s,onG_t,onG_f,wanted_g,wantB_b,b_ft,pv_t,pv_int,pv_bool,put_some,bi_eql,bi_lss,bi_leq,bi_geq,pevP,getP,setP,evsP,boundP,Option.map_some,Option.bind_some,Nat.zero_le,Int.natCast_nonneg,Int.toNat_natCast,true_and,↓reduceIte,Bool.false_eq_true,Bool.not_false,ltB_t hlt,hc,eqB_f a1,eqB_f a2,eqB_f a3,leB_t a4,leB_t a5,hle])
        refine .refl (PFun.to (hnum) rfl (POps.wp ?_))
        simp only [wo_nil,wo_p,onO_s,pv_t,put_some,pevP,getP,setP,nthP]
        repeat (refine PRun.wpn rfl ?_;simp only [wp,wo_nil,wo_p,wo_r,wo_n,wo_st,wo_append,beq_self_eq_true,onO_s,onN_s,onE_s,ble0,pv_t,pv_int,pv_bool,ov_nil,ov_cons,ov_int,put_some,put_none,bi_add,bi_sub,pevP,pevR,pevN,pevE,getP,setP,lenP,srcP,appendP,fillP,spliceP,overP,plainP,isCell,look,PW.cs?,PW.push,nthP,cut0,cutS,List.drop_zero,Option.map_some,Option.bind_some,Nat.mul_one,Bool.and_true,↓reduceIte,ltL,lt,Nat.reduceAdd,Nat.reduceEqDiff,Bool.false_eq_true,Nat.zero_add,allPlain,PW.wr,setO,killO,Bool.or_self,Bool.not_true,gt_iff_lt,w2,w3,w4,q1,q2,q3,q4,bne_self_eq_false])
        refine Gh.mr (true::false::true::false::false::true::true::true::true::true::true::false::false::false::false::false::false::false::false::false::false::false::false::false::false::false::false::false::false::false::false::false::false::false::false::false::false::false::false::false::false::false::false::false::false::false::false::false::false::false::false::false::false::false::false::false::false::false::false::false::false::false::false::false::false::false::false::false::false::false::false::false::false::false::false::false::false::false::false::false::false::false::false::false::false::false::false::false::false::false::false::false::false::false::false::false::[]) [(0,0),(1,1),(5,2)] 4 rfl ?_
        refine ⟨s.size - (i + n),by omega,i + n,st++[v],[],false,false,false,rfl,by omega,rfl,(fun _=>rfl),hR,by (try simp only [List.length_append,List.length_cons,List.length_nil]);omega,by (try simp only [List.length_nil]);omega,.inr (.inl ⟨by simp,rfl,by simp only [List.length_cons,List.length_nil,↓reduceIte,reduceCtorEq,Nat.reduceEqDiff,Nat.zero_add,renL,renP,renO,renH,renA,lkN,List.length_cons,List.length_nil,hap,List.length_append]⟩)⟩
       ·exact absurd rfl h0
       ·exact absurd rfl h0
      ·rcases hπ with ⟨rfl,rfl,rfl⟩ | ⟨h0,rfl,rfl⟩ | ⟨rfl,h0,rfl⟩ | ⟨h0,h0',rfl⟩
       ·repeat (refine PRun.wpn rfl ?_;simp only [wp,wo_nil,wo_p,wo_call,wo_g,beq_self_eq_true,onO_s,onG_t,onG_f,wanted_g,wantB_b,b_ft,pv_t,pv_int,pv_bool,put_some,bi_eql,bi_lss,bi_leq,bi_geq,pevP,getP,setP,evsP,boundP,Option.map_some,Option.bind_some,Nat.zero_le,Int.natCast_nonneg,Int.toNat_natCast,true_and,↓reduceIte,Bool.false_eq_true,Bool.not_false,ltB_t hlt,hc,eqB_f a1,eqB_f a2,eqB_f a3,leB_t a4,leB_t a5,hle])
        refine .refl (PFun.to (hnum) rfl (POps.wp ?_))
        simp only [wo_nil,wo_p,onO_s,pv_t,put_some,pevP,getP,setP,nthP]
        repeat (refine PRun.wpn rfl ?_;simp only [wp,wo_nil,wo_p,wo_r,wo_n,wo_append,beq_self_eq_true,onO_s,onN_s,ble0,pv_t,pv_int,pv_bool,ov_nil,ov_cons,ov_int,put_some,put_none,bi_add,bi_sub,pevP,pevR,pevN,pevE,getP,setP,lenP,srcP,appendP,fillP,spliceP,overP,plainP,isCell,look,PW.cs?,PW.push,nthP,cut0,cutS,List.drop_zero,Option.map_some,Option.bind_some,Nat.mul_one,Bool.and_true,↓reduceIte,ltL,lt,Nat.reduceAdd,Nat.reduceMul,Nat.reduceLeDiff,Nat.reduceLT,Nat.reduceEqDiff,Nat.zero_add,allPlain,setO,killO,Bool.false_or,Bool.not_true,gt_iff_lt,w2,w3,w4])
        refine Gh.mr (true::false::true::false::false::true::true::true::true::true::true::false::false::false::false::false::false::false::false::false::false::false::false::false::false::false::false::false::false::false::false::false::false::false::false::false::false::false::false::false::false::false::false::false::false::false::false::false::false::false::false::false::false::false::false::false::false::false::false::false::false::false::false::false::false::false::false::false::false::false::false::false::false::false::false::false::false::false::false::false::false::false::false::false::false::false::false::false::false::false::false::false::false::false::false::false::[]) [(0,0),(1,1),(5,3)] 4 rfl ?_
        refine ⟨s.size - (i + n),by omega,i + n,[],[v],true,false,false,rfl,by omega,rfl,(fun h=>by cases h),hR,by (try simp only [List.length_nil]);omega,by (try simp only [List.length_cons,List.length_nil]);omega,.inr (.inr (.inl ⟨rfl,by simp,by simp only [List.length_cons,List.length_nil,↓reduceIte,reduceCtorEq,Nat.reduceEqDiff,Nat.zero_add,renL,renP,renO,renH,renA,lkN,List.length_cons,List.length_nil];rfl⟩))⟩
       ·repeat (refine PRun.wpn rfl ?_;simp only [wp,wo_nil,wo_p,wo_call,wo_g,beq_self_eq_true,onO_s,onG_t,onG_f,wanted_g,wantB_b,b_ft,pv_t,pv_int,pv_bool,put_some,bi_eql,bi_lss,bi_leq,bi_geq,pevP,getP,setP,evsP,boundP,Option.map_some,Option.bind_some,Nat.zero_le,Int.natCast_nonneg,Int.toNat_natCast,true_and,↓reduceIte,Bool.false_eq_true,Bool.not_false,ltB_t hlt,hc,eqB_f a1,eqB_f a2,eqB_f a3,leB_t a4,leB_t a5,hle])
        refine .refl (PFun.to (hnum) rfl (POps.wp ?_))
        simp only [wo_nil,wo_p,onO_s,pv_t,put_some,pevP,getP,setP,nthP]
        repeat (refine PRun.wpn rfl ?_;simp only [wp,wo_nil,wo_p,wo_r,wo_n,wo_append,beq_self_eq_true,onO_s,onN_s,ble0,pv_t,pv_int,pv_bool,ov_nil,ov_cons,ov_int,put_some,put_none,bi_add,bi_sub,pevP,pevR,pevN,pevE,getP,setP,lenP,srcP,appendP,fillP,spliceP,overP,plainP,isCell,look,PW.cs?,PW.push,nthP,cut0,cutS,List.drop_zero,Option.map_some,Option.bind_some,Nat.mul_one,Bool.and_true,↓reduceIte,ltL,lt,Nat.reduceAdd,Nat.reduceMul,Nat.reduceLeDiff,Nat.reduceLT,Nat.reduceEqDiff,Nat.zero_add,allPlain,setO,killO,Bool.false_or,Bool.not_true,gt_iff_lt,w2,w3,w4])
        refine Gh.mr (true::false::true::false::false::true::true::true::true::true::true::false::false::false::false::false::false::false::false::false::false::false::false::false::false::false::false::false::false::false::false::false::false::false::false::false::false::false::false::false::false::false::false::false::false::false::false::false::false::false::false::false::false::false::false::false::false::false::false::false::false::false::false::false::false::false::false::false::false::false::false::false::false::false::false::false::false::false::false::false::false::false::false::false::false::false::false::false::false::false::false::false::false::false::false::false::[]) [(0,0),(1,1),(2,2),(5,3)] 4 rfl ?_
        refine ⟨s.size - (i + n),by omega,i + n,st,[v],true,false,false,rfl,by omega,rfl,(fun h=>by cases h),hR,by (try simp only [List.length_append,List.length_cons,List.length_nil]);omega,by (try simp only [List.length_cons,List.length_nil]);omega,.inr (.inr (.inr ⟨h0,by simp,by simp only [List.length_cons,List.length_nil,↓reduceIte,reduceCtorEq,Nat.reduceEqDiff,Nat.zero_add,renL,renP,renO,renH,renA,lkN,List.length_cons,List.length_nil,renL_N16];rfl⟩))⟩
       ·have q0:lp.length ≠ 0:=fun e=>h0 (List.length_eq_zero_iff.1 e)
        have q1:¬ lp.length + 1≤lp.length:=by omega
        have q2:¬ 140737488355328 < (2 * (lp.length + 1) + 768) * 2:=by omega
        have q3:=cutB (N16_len lp)
        have q4:=N16_len lp
        repeat (refine PRun.wpn rfl ?_;simp only [wp,wo_nil,wo_p,wo_call,wo_g,beq_self_eq_true,onO_s,onG_t,onG_f,wanted_g,wantB_b,b_ft,pv_t,pv_int,pv_bool,put_some,bi_eql,bi_lss,bi_leq,bi_geq,pevP,getP,setP,evsP,boundP,Option.map_some,Option.bind_some,Nat.zero_le,Int.natCast_nonneg,Int.toNat_natCast,true_and,↓reduceIte,Bool.false_eq_true,Bool.not_false,ltB_t hlt,hc,eqB_f a1,eqB_f a2,eqB_f a3,leB_t a4,leB_t a5,hle])
        refine .refl (PFun.to (hnum) rfl (POps.wp ?_))
        simp only [wo_nil,wo_p,onO_s,pv_t,put_some,pevP,getP,setP,nthP]
        repeat (refine PRun.wpn rfl ?_;simp only [wp,wo_nil,wo_p,wo_r,wo_n,wo_st,wo_append,beq_self_eq_true,onO_s,onN_s,onE_s,ble0,pv_t,pv_int,pv_bool,ov_nil,ov_cons,ov_int,put_some,put_none,bi_add,bi_sub,pevP,pevR,pevN,pevE,getP,setP,lenP,srcP,appendP,fillP,spliceP,overP,plainP,isCell,look,PW.cs?,PW.push,nthP,cut0,cutS,List.drop_zero,Option.map_some,Option.bind_some,Nat.mul_one,Bool.and_true,↓reduceIte,ltL,lt,Nat.reduceAdd,Nat.reduceEqDiff,Bool.false_eq_true,Nat.zero_add,allPlain,PW.wr,setO,killO,Bool.or_self,Bool.not_true,gt_iff_lt,w2,w3,w4,q1,q2,q3,q4,bne_self_eq_false])
        refine Gh.mr (true::false::true::false::false::true::true::true::true::true::true::false::false::false::false::false::false::false::false::false::false::false::false::false::false::false::false::false::false::false::false::false::false::false::false::false::false::false::false::false::false::false::false::false::false::false::false::false::false::false::false::false::false::false::false::false::false::false::false::false::false::false::false::false::false::false::false::false::false::false::false::false::false::false::false::false::false::false::false::false::false::false::false::false::false::false::false::false::false::false::false::false::false::false::false::false::[]) [(0,0),(1,1),(5,3)] 4 rfl ?_
        refine ⟨s.size - (i + n),by omega,i + n,[],lp++[v],true,false,false,rfl,by omega,rfl,(fun h=>by cases h),hR,by (try simp only [List.length_nil]);omega,by (try simp only [List.length_append,List.length_cons,List.length_nil]);omega,.inr (.inr (.inl ⟨rfl,by simp,by simp only [List.length_cons,List.length_nil,↓reduceIte,reduceCtorEq,Nat.reduceEqDiff,Nat.zero_add,renL,renP,renO,renH,renA,lkN,List.length_cons,List.length_nil,hap,List.length_append]⟩))⟩
       ·have q0:lp.length ≠ 0:=fun e=>h0' (List.length_eq_zero_iff.1 e)
        have q1:¬ lp.length + 1≤lp.length:=by omega
        have q2:¬ 140737488355328 < (2 * (lp.length + 1) + 768) * 2:=by omega
        have q3:=cutB (N16_len lp)
        have q4:=N16_len lp
        repeat (refine PRun.wpn rfl ?_;simp only [wp,wo_nil,wo_p,wo_call,wo_g,beq_self_eq_true,onO_s,onG_t,onG_f,wanted_g,wantB_b,b_ft,pv_t,pv_int,pv_bool,put_some,bi_eql,bi_lss,bi_leq,bi_geq,pevP,getP,setP,evsP,boundP,Option.map_some,Option.bind_some,Nat.zero_le,Int.natCast_nonneg,Int.toNat_natCast,true_and,↓reduceIte,Bool.false_eq_true,Bool.not_false,ltB_t hlt,hc,eqB_f a1,eqB_f a2,eqB_f a3,leB_t a4,leB_t a5,hle])
        refine .refl (PFun.to (hnum) rfl (POps.wp ?_))
        simp only [wo_nil,wo_p,onO_s,pv_t,put_some,pevP,getP,setP,nthP]
        repeat (refine PRun.wpn rfl ?_;simp only [wp,wo_nil,wo_p,wo_r,wo_n,wo_st,wo_append,beq_self_eq_true,onO_s,onN_s,onE_s,ble0,pv_t,pv_int,pv_bool,ov_nil,ov_cons,ov_int,put_some,put_none,bi_add,bi_sub,pevP,pevR,pevN,pevE,getP,setP,lenP,srcP,appendP,fillP,spliceP,overP,plainP,isCell,look,PW.cs?,PW.push,nthP,cut0,cutS,List.drop_zero,Option.map_some,Option.bind_some,Nat.mul_one,Bool.and_true,↓reduceIte,ltL,lt,Nat.reduceAdd,Nat.reduceEqDiff,Bool.false_eq_true,Nat.zero_add,allPlain,PW.wr,setO,killO,Bool.or_self,Bool.not_true,gt_iff_lt,w2,w3,w4,q1,q2,q3,q4,bne_self_eq_false])
        refine Gh.mr (true::false::true::false::false::true::true::true::true::true::true::false::false::false::false::false::false::false::false::false::false::false::false::false::false::false::false::false::false::false::false::false::false::false::false::false::false::false::false::false::false::false::false::false::false::false::false::false::false::false::false::false::false::false::false::false::false::false::false::false::false::false::false::false::false::false::false::false::false::false::false::false::false::false::false::false::false::false::false::false::false::false::false::false::false::false::false::false::false::false::false::false::false::false::false::false::[]) [(0,0),(1,1),(2,2),(5,3)] 4 rfl ?_
        refine ⟨s.size - (i + n),by omega,i + n,st,lp++[v],true,false,false,rfl,by omega,rfl,(fun h=>by cases h),hR,by (try simp only [List.length_append,List.length_cons,List.length_nil]);omega,by (try simp only [List.length_append,List.length_cons,List.length_nil]);omega,.inr (.inr (.inr ⟨h0,by simp,by simp only [List.length_cons,List.length_nil,↓reduceIte,reduceCtorEq,Nat.reduceEqDiff,Nat.zero_add,renL,renP,renO,renH,renA,lkN,List.length_cons,List.length_nil,renL_N16,hap,List.length_append]⟩))⟩
     ·have hE:=rd_err (K:=s.size) (i:=i) (l:=s.data.toList.drop (i + 1)) (st:=st) (lp:=lp) (o:=o) (sh:=true) (p:=true) (c:=c) (by omega) (by rintro ⟨h,_⟩;omega) (by rintro ⟨h,_⟩;omega) (by simp)
      rw [hE] at hR
      clear hE
      subst hR
      rcases hπ with ⟨rfl,rfl,rfl⟩ | ⟨h0,rfl,rfl⟩ | ⟨rfl,h0,rfl⟩ | ⟨h0,h0',rfl⟩
      all_goals
       repeat (refine PRun.wpn rfl ?_;simp only [wp,wo_nil,wo_p,wo_st,wo_g,beq_self_eq_true,onO_s,onE_s,onG_t,onG_f,wanted_g,wantB_b,b_ft,ble0,pv_t,pv_int,pv_bool,ov_nil,ov_cons,ov_nilS,put_some,put_none,bi_eql,bi_lss,bi_leq,bi_geq,pevP,pevE,getP,setP,fillP,spliceP,overP,plainP,isCell,look,List.length_cons,List.length_nil,Option.map_some,or_true,Int.natCast_nonneg,Int.toNat_natCast,true_and,Bool.and_true,↓reduceIte,reduceCtorEq,ltL,lt,Nat.reduceAdd,Bool.false_eq_true,Nat.zero_add,allPlain,PW.wr,setO,killO,Bool.or_self,Bool.not_true,List.length_cons,List.length_nil,ltB_t hlt,hc,eqB_f a1,eqB_f a2,eqB_f a3,leB_t a4,leB_t a5])
       exact Gh.mr (false::false::true::true::true::false::false::false::false::false::false::false::false::false::false::false::false::false::false::false::false::false::false::false::false::false::false::false::false::false::false::false::false::false::false::false::false::false::false::false::false::false::false::false::false::false::false::false::false::false::false::false::false::false::false::false::false::false::false::false::false::false::false::false::false::false::false::false::false::false::false::false::false::false::false::false::false::false::false::false::false::false::false::false::false::false::false::false::false::false::false::false::false::false::false::false::[]) [(0,0)] 4 rfl ⟨_,rfl,.refl _,rfl⟩
   ·have hE:=rd_err (K:=s.size) (i:=i) (l:=s.data.toList.drop (i + 1)) (st:=st) (lp:=lp) (o:=o) (sh:=sh) (p:=p) (c:=c) (by omega) (by rintro ⟨h,_⟩;omega) (by rintro ⟨h,_⟩;omega) (by rintro ⟨h,_⟩;omega)
    rw [hE] at hR
    clear hE
    subst hR
    rcases hπ with ⟨rfl,rfl,rfl⟩ | ⟨h0,rfl,rfl⟩ | ⟨rfl,h0,rfl⟩ | ⟨h0,h0',rfl⟩
    all_goals
     repeat (refine PRun.wpn rfl ?_;simp only [wp,wo_nil,wo_p,wo_st,wo_g,beq_self_eq_true,onO_s,onE_s,onG_t,onG_f,wanted_g,wantB_b,b_ft,ble0,pv_t,pv_int,pv_bool,ov_nil,ov_cons,ov_nilS,put_some,put_none,bi_eql,bi_lss,bi_leq,bi_geq,pevP,pevE,getP,setP,fillP,spliceP,overP,plainP,isCell,look,List.length_cons,List.length_nil,Option.map_some,or_true,Int.natCast_nonneg,Int.toNat_natCast,true_and,Bool.and_true,↓reduceIte,reduceCtorEq,ltL,lt,Nat.reduceAdd,Bool.false_eq_true,Nat.zero_add,allPlain,PW.wr,setO,killO,Bool.or_self,Bool.not_true,List.length_cons,List.length_nil,ltB_t hlt,hc,eqB_f a1,eqB_f a2,eqB_f a3,leB_t a4,leB_f a5])
     exact Gh.mr (false::false::true::true::true::false::false::false::false::false::false::false::false::false::false::false::false::false::false::false::false::false::false::false::false::false::false::false::false::false::false::false::false::false::false::false::false::false::false::false::false::false::false::false::false::false::false::false::false::false::false::false::false::false::false::false::false::false::false::false::false::false::false::false::false::false::false::false::false::false::false::false::false::false::false::false::false::false::false::false::false::false::false::false::false::false::false::false::false::false::false::false::false::false::false::false::[]) [(0,0)] 4 rfl ⟨_,rfl,.refl _,rfl⟩
  ·have hE:=rd_err (K:=s.size) (i:=i) (l:=s.data.toList.drop (i + 1)) (st:=st) (lp:=lp) (o:=o) (sh:=sh) (p:=p) (c:=c) (by omega) (by rintro ⟨h,_⟩;omega) (by rintro ⟨h,_⟩;omega) (by rintro ⟨h,_⟩;omega)
   rw [hE] at hR
   clear hE
   subst hR
   rcases hπ with ⟨rfl,rfl,rfl⟩ | ⟨h0,rfl,rfl⟩ | ⟨rfl,h0,rfl⟩ | ⟨h0,h0',rfl⟩
   all_goals
    repeat (refine PRun.wpn rfl ?_;simp only [wp,wo_nil,wo_p,wo_st,wo_g,onO_s,onE_s,onG_f,wanted_g,wantB_b,b_ft,ble0,pv_t,pv_int,pv_bool,ov_nil,ov_cons,ov_nilS,put_some,put_none,bi_eql,bi_lss,bi_geq,pevP,pevE,getP,setP,fillP,spliceP,overP,plainP,isCell,look,List.length_cons,List.length_nil,Option.map_some,or_true,Int.natCast_nonneg,Int.toNat_natCast,true_and,Bool.and_true,↓reduceIte,reduceCtorEq,ltL,lt,Nat.reduceAdd,Bool.false_eq_true,Nat.zero_add,allPlain,PW.wr,setO,killO,Bool.or_self,Bool.not_true,List.length_cons,List.length_nil,ltB_t hlt,hc,eqB_f a1,eqB_f a2,eqB_f a3,leB_f a4])
    exact Gh.mr (false::false::true::true::true::false::false::false::false::false::false::false::false::false::false::false::false::false::false::false::false::false::false::false::false::false::false::false::false::false::false::false::false::false::false::false::false::false::false::false::false::false::false::false::false::false::false::false::false::false::false::false::false::false::false::false::false::false::false::false::false::false::false::false::false::false::false::false::false::false::false::false::false::false::false::false::false::false::false::false::false::false::false::false::false::false::false::false::false::false::false::false::false::false::false::false::[]) [(0,0)] 4 rfl ⟨_,rfl,.refl _,rfl⟩
 ·obtain rfl:i=s.size:=by omega
  rw [List.drop_of_length_le (by omega)] at hR
  rw [rdM] at hR
  cases sh
  ·rw [if_neg (by decide)] at hR
   subst hR
   rcases hπ with ⟨rfl,rfl,rfl⟩ | ⟨h0,rfl,rfl⟩ | ⟨rfl,h0,rfl⟩ | ⟨h0,h0',rfl⟩
   all_goals
    repeat (refine PRun.wpn rfl ?_;simp only [wp,wo_nil,wo_p,wo_st,onO_s,onE_s,ble0,pv_t,pv_int,ov_nil,ov_cons,ov_nilS,put_some,put_none,bi_lss,pevP,pevE,getP,setP,fillP,spliceP,overP,plainP,isCell,look,List.length_cons,List.length_nil,Option.map_some,or_true,true_and,Bool.and_true,↓reduceIte,reduceCtorEq,ltL,lt,Nat.reduceAdd,Bool.false_eq_true,Nat.zero_add,allPlain,PW.wr,setO,killO,Bool.or_self,Bool.not_true,Bool.not_false,List.length_cons,List.length_nil,ltB_f hlt])
    exact Gh.mr (false::false::true::true::true::false::false::false::false::false::false::false::false::false::false::false::false::false::false::false::false::false::false::false::false::false::false::false::false::false::false::false::false::false::false::false::false::false::false::false::false::false::false::false::false::false::false::false::false::false::false::false::false::false::false::false::false::false::false::false::false::false::false::false::false::false::false::false::false::false::false::false::false::false::false::false::false::false::false::false::false::false::false::false::false::false::false::false::false::false::false::false::false::false::false::false::[]) [(0,0)] 4 rfl ⟨_,rfl,.refl _,rfl⟩
  ·rw [if_pos rfl] at hR
   subst hR
   rcases hπ with ⟨rfl,rfl,rfl⟩ | ⟨h0,rfl,rfl⟩ | ⟨rfl,h0,rfl⟩ | ⟨h0,h0',rfl⟩
   ·repeat (refine PRun.wpn rfl ?_;simp only [wp,wo_nil,wo_p,wo_r,wo_st,onO_s,onE_s,ble0,pv_t,pv_int,put_some,put_none,bi_lss,pevP,pevR,pevE,getP,setP,spliceP,overP,plainP,isCell,look,PW.cs?,cut0,cutS,List.length_cons,List.length_nil,List.drop_zero,Option.map_some,Option.bind_some,or_true,nc0,true_and,Bool.and_true,↓reduceIte,reduceCtorEq,Nat.reduceAdd,Bool.false_eq_true,Nat.zero_add,allPlain,PW.wr,setO,killO,Bool.or_self,Bool.not_true,List.length_cons,List.length_nil,ltB_f hlt])
    exact Gh.mr (false::false::true::true::true::false::false::false::false::false::false::false::false::false::false::false::false::false::false::false::false::false::false::false::false::false::false::false::false::false::false::false::false::false::false::false::false::false::false::false::false::false::false::false::false::false::false::false::false::false::false::false::false::false::false::false::false::false::false::false::false::false::false::false::false::false::false::false::false::false::false::false::false::false::false::false::false::false::false::false::false::false::false::false::false::false::false::false::false::false::false::false::false::false::false::false::[]) [(0,0)] 4 rfl ⟨_,rfl,.refl _,rfl⟩
   ·repeat (refine PRun.wpn rfl ?_;simp only [wp,wo_nil,wo_p,wo_r,wo_st,onO_s,onE_s,ble0,pv_t,pv_int,put_some,put_none,bi_lss,pevP,pevR,pevE,getP,setP,spliceP,overP,plainP,isCell,look,PW.cs?,cut0,cutS,List.length_cons,List.length_nil,List.drop_zero,Option.map_some,Option.bind_some,or_true,nc0,true_and,Bool.and_true,↓reduceIte,reduceCtorEq,Nat.reduceAdd,Nat.reduceEqDiff,Bool.false_eq_true,Nat.zero_add,allPlain,PW.wr,setO,killO,Bool.or_self,Bool.not_true,List.length_cons,List.length_nil,ltB_f hlt])
    refine Gh.mr (false::false::true::true::true::false::false::false::false::false::false::false::false::false::false::false::false::false::false::false::false::false::false::false::false::false::false::false::false::false::false::false::false::false::false::false::false::false::false::false::false::false::false::false::false::false::false::false::false::false::false::false::false::false::false::false::false::false::false::false::false::false::false::false::false::false::false::false::false::false::false::false::false::false::false::false::false::false::false::false::false::false::false::false::false::false::false::false::false::false::false::false::false::false::false::false::[]) [(0,0),(2,2)] 4 rfl ⟨_,rfl,?_,?_⟩
    ·simp only [getP,List.drop_zero,List.take_zero,List.take_succ_cons,↓reduceIte,reduceCtorEq,Bool.false_eq_true,renL,renP,lkN,maskP,slot_ne h0,slot_z];exact .refl _
    ·simp only [List.length_nil,↓reduceIte,reduceCtorEq,Nat.reduceEqDiff,renL,renP,renO,renH,renA,lkN,List.nil_append,List.cons_append,List.length_nil,gheap,objs_nil,objs_ne h0,slot_ne h0,slot_z,renL_N16]
   ·repeat (refine PRun.wpn rfl ?_;simp only [wp,wo_nil,wo_p,wo_r,wo_st,onO_s,onE_s,ble0,pv_t,pv_int,put_some,put_none,bi_lss,pevP,pevR,pevE,getP,setP,spliceP,overP,plainP,isCell,look,PW.cs?,cut0,cutS,List.length_cons,List.length_nil,List.drop_zero,Option.map_some,Option.bind_some,or_true,nc0,true_and,Bool.and_true,↓reduceIte,reduceCtorEq,Nat.reduceAdd,Nat.reduceEqDiff,Bool.false_eq_true,Nat.zero_add,allPlain,PW.wr,setO,killO,Bool.or_self,Bool.not_true,List.length_cons,List.length_nil,ltB_f hlt])
    refine Gh.mr (false::false::true::true::true::false::false::false::false::false::false::false::false::false::false::false::false::false::false::false::false::false::false::false::false::false::false::false::false::false::false::false::false::false::false::false::false::false::false::false::false::false::false::false::false::false::false::false::false::false::false::false::false::false::false::false::false::false::false::false::false::false::false::false::false::false::false::false::false::false::false::false::false::false::false::false::false::false::false::false::false::false::false::false::false::false::false::false::false::false::false::false::false::false::false::false::[]) [(0,0),(3,3)] 4 rfl ⟨_,rfl,?_,?_⟩
    ·simp only [getP,List.drop_zero,List.take_zero,List.take_succ_cons,↓reduceIte,reduceCtorEq,Bool.false_eq_true,renL,renP,lkN,maskP,slot_ne h0,slot_z];exact .refl _
    ·simp only [List.length_nil,↓reduceIte,reduceCtorEq,Nat.reduceEqDiff,renL,renP,renO,renH,renA,lkN,List.nil_append,List.cons_append,List.length_nil,gheap,objs_nil,objs_ne h0,slot_ne h0,slot_z,renL_N16]
   ·repeat (refine PRun.wpn rfl ?_;simp only [wp,wo_nil,wo_p,wo_r,wo_st,onO_s,onE_s,ble0,pv_t,pv_int,put_some,put_none,bi_lss,pevP,pevR,pevE,getP,setP,spliceP,overP,plainP,look,PW.cs?,cut0,cutS,List.length_cons,List.length_nil,List.drop_zero,Option.map_some,Option.bind_some,or_true,nc0,true_and,Bool.and_true,↓reduceIte,reduceCtorEq,Nat.reduceAdd,Nat.reduceEqDiff,Bool.false_eq_true,Nat.zero_add,allPlain,PW.wr,setO,killO,Bool.or_self,Bool.not_true,List.length_cons,List.length_nil,ltB_f hlt])
    refine Gh.mr (false::false::true::true::true::false::false::false::false::false::false::false::false::false::false::false::false::false::false::false::false::false::false::false::false::false::false::false::false::false::false::false::false::false::false::false::false::false::false::false::false::false::false::false::false::false::false::false::false::false::false::false::false::false::false::false::false::false::false::false::false::false::false::false::false::false::false::false::false::false::false::false::false::false::false::false::false::false::false::false::false::false::false::false::false::false::false::false::false::false::false::false::false::false::false::false::[]) [(0,0),(2,2),(3,3)] 4 rfl ⟨_,rfl,?_,?_⟩
    ·simp only [getP,List.drop_zero,List.take_zero,List.take_succ_cons,↓reduceIte,reduceCtorEq,Nat.reduceEqDiff,Bool.false_eq_true,renL,renP,lkN,maskP,slot_ne h0,slot_ne h0'];exact .refl _
    ·simp only [↓reduceIte,reduceCtorEq,Nat.reduceEqDiff,renL,renP,renO,renH,renA,lkN,List.nil_append,List.cons_append,gheap,objs_ne h0,objs_ne h0',slot_ne h0,slot_ne h0',renL_N16]
end
end Go.Proofs.YtkldgoapompinaaDoor.Ai
