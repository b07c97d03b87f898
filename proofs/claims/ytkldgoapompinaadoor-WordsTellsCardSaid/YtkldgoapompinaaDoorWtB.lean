/- A PART OF THE PROOF: a step of the proof that the law's code does what its contracts say, by an interpreter of the program's functions that is proved to be sound. -/
import Derived.Test.YtkldgoapompinaaDoorPv5
import Derived.Test.YtkldgoapompinaaDoorWtA
namespace Go.Proofs.YtkldgoapompinaaDoor.Ai
set_option linter.unusedSimpArgs false
open Go
set_option linter.unusedVariables false
set_option linter.unusedSectionVars false
set_option maxRecDepth 10000
set_option maxHeartbeats 4000000
def mkWtB1:List Bool:=(true::false::false::true::false::false::false::false::false::false::false::false::false::false::false::false::false::false::false::false::false::false::false::false::false::false::false::false::false::false::false::false::false::false::false::false::false::false::false::false::false::false::false::false::false::false::false::false::false::false::false::false::false::false::false::false::false::false::false::false::false::false::false::false::false::false::false::false::false::false::false::false::false::false::false::false::false::false::false::false::false::false::false::false::false::false::false::false::false::false::false::false::false::false::false::false::false::false::false::false::false::false::false::false::false::false::false::false::false::false::false::false::false::false::false::false::false::false::false::false::false::false::false::false::false::false::false::false::false::false::false::false::false::false::false::[])
def mkWtB2:List Bool:=(true::false::false::true::true::false::false::false::false::false::false::false::false::false::false::false::false::false::false::false::false::false::false::false::false::false::false::false::false::false::false::false::false::false::false::false::false::false::false::false::false::false::false::false::false::false::false::false::false::false::false::false::false::false::false::false::false::false::false::false::false::false::false::false::false::false::false::false::false::false::false::false::false::false::false::false::false::false::false::false::false::false::false::false::false::false::false::false::false::false::false::false::false::false::false::false::false::false::false::false::false::false::false::false::false::false::false::false::false::false::false::false::false::false::false::false::false::false::false::false::false::false::false::false::false::false::false::false::false::false::false::false::false::false::false::[])
def mkWtB3:List Bool:=(true::false::false::false::false::true::true::false::false::false::false::false::false::false::false::false::false::false::false::false::false::false::false::false::false::false::false::false::false::false::false::false::false::false::false::false::false::false::false::false::false::false::false::false::false::false::false::false::false::false::false::false::false::false::false::false::false::false::false::false::false::false::false::false::false::false::false::false::false::false::false::false::false::false::false::false::false::false::false::false::false::false::false::false::false::false::false::false::false::false::false::false::false::false::false::false::false::false::false::false::false::false::false::false::false::false::false::false::false::false::false::false::false::false::false::false::false::false::false::false::false::false::false::false::false::false::false::false::false::false::false::false::false::false::false::[])
def mkWtB4:List Bool:=(true::false::false::false::false::true::true::true::true::false::false::false::false::false::false::false::false::false::false::false::false::false::false::false::false::false::false::false::false::false::false::false::false::false::false::false::false::false::false::false::false::false::false::false::false::false::false::false::false::false::false::false::false::false::false::false::false::false::false::false::false::false::false::false::false::false::false::false::false::false::false::false::false::false::false::false::false::false::false::false::false::false::false::false::false::false::false::false::false::false::false::false::false::false::false::false::false::false::false::false::false::false::false::false::false::false::false::false::false::false::false::false::false::false::false::false::false::false::false::false::false::false::false::false::false::false::false::false::false::false::false::false::false::false::false::[])
def mkWtB5:List Bool:=(true::false::false::false::false::true::false::false::false::true::false::false::false::false::false::false::false::false::false::false::false::false::false::false::false::false::false::false::false::false::false::false::false::false::false::false::false::false::false::false::false::false::false::false::false::false::false::false::false::false::false::false::false::false::false::false::false::false::false::false::false::false::false::false::false::false::false::false::false::false::false::false::false::false::false::false::false::false::false::false::false::false::false::false::false::false::false::false::false::false::false::false::false::false::false::false::false::false::false::false::false::false::false::false::false::false::false::false::false::false::false::false::false::false::false::false::false::false::false::false::false::false::false::false::false::false::false::false::false::false::false::false::false::false::false::[])
def mkWtB6:List Bool:=(true::false::false::false::false::true::false::false::false::true::true::true::false::false::false::false::false::false::false::false::false::false::false::false::false::false::false::false::false::false::false::false::false::false::false::false::false::false::false::false::false::false::false::false::false::false::false::false::false::false::false::false::false::false::false::false::false::false::false::false::false::false::false::false::false::false::false::false::false::false::false::false::false::false::false::false::false::false::false::false::false::false::false::false::false::false::false::false::false::false::false::false::false::false::false::false::false::false::false::false::false::false::false::false::false::false::false::false::false::false::false::false::false::false::false::false::false::false::false::false::false::false::false::false::false::false::false::false::false::false::false::false::false::false::false::[])
def mkWtB7:List Bool:=(true::false::false::false::false::true::false::false::false::true::true::false::true::false::false::false::false::false::false::false::false::false::false::false::false::false::false::false::false::false::false::false::false::false::false::false::false::false::false::false::false::false::false::false::false::false::false::false::false::false::false::false::false::false::false::false::false::false::false::false::false::false::false::false::false::false::false::false::false::false::false::false::false::false::false::false::false::false::false::false::false::false::false::false::false::false::false::false::false::false::false::false::false::false::false::false::false::false::false::false::false::false::false::false::false::false::false::false::false::false::false::false::false::false::false::false::false::false::false::false::false::false::false::false::false::false::false::false::false::false::false::false::false::false::false::[])
def mkWtB8:List Bool:=(true::false::false::true::false::false::false::false::false::true::true::true::false::false::false::false::false::false::false::false::false::false::false::false::false::false::false::false::false::false::false::false::false::false::false::false::[])
def mkWtB9:List Bool:=(false::false::false::false::false::false::true::false::false::false::false::false::false::false::false::false::false::false::false::false::false::false::false::false::false::true::true::true::false::false::false::false::false::false::false::false::[])
def mkWtB10:List Bool:=(false::true::true::true::true::true::true::false::false::false::false::false::false::false::false::false::false::false::false::false::false::false::false::false::false::false::false::false::false::false::false::false::false::false::false::false::false::false::false::false::false::false::false::false::false::false::false::false::false::false::false::false::false::false::false::false::false::false::false::false::false::false::false::false::false::false::[])
def mkWtB11:List Bool:=(false::false::true::false::false::false::false::false::false::false::false::false::false::false::false::false::false::false::false::false::false::false::false::false::false::false::false::false::false::false::false::false::false::false::false::false::false::false::false::false::false::false::false::false::false::false::false::false::false::false::false::false::false::false::false::false::false::false::false::false::false::false::false::false::false::false::[])
def mkWtB12:List Bool:=(false::false::false::false::true::false::false::false::false::false::false::false::false::false::false::false::false::false::false::false::false::false::false::false::false::false::false::false::false::false::false::false::false::false::false::false::false::false::false::false::false::false::false::false::false::false::false::[])
def slq (p:Nat × Nat):PV:=if p.1=0 then .lit (.slice none 0 0) else .loc p.1 0 p.2 p.2
theorem slq_nil {p:Nat × Nat} (h:p.1=0):slq p = .lit (.slice none 0 0):=by unfold slq;rw [if_pos h]
theorem slq_loc {p:Nat × Nat} (h:p.1 ≠ 0):slq p = .loc p.1 0 p.2 p.2:=by unfold slq;rw [if_neg h]
structure QLists (H:List (Nat × PObj)) (nx b j:Nat) (ps:List (Nat × Nat)) (Mk:Nat→Nat→Prop):Prop where
 arr:Rdb H nx j (ps.map slq)
 lst:∀ (i:Nat) (p:Nat × Nat),ps[i]? = some p→p.1 ≠ 0→b≤p.1∧p.1 < nx∧∃ cs ex,cs.length=p.2∧(p.2 ≠ 0→ex=false)∧look H p.1=some (.cells cs 54 1 ex false [])∧∀ k,k < p.2→Mk i k→cs[k]? = some (mk1 i k)
def QDist (j:Nat) (ps:List (Nat × Nat)):Prop:=(∀ (i i':Nat) (p p':Nat × Nat),ps[i]? = some p→ps[i']? = some p'→p.1 ≠ 0→p'.1 ≠ 0→p.1=p'.1→i=i')∧∀ (i:Nat) (p:Nat × Nat),ps[i]? = some p→p.1 ≠ 0→p.1 ≠ j
theorem nth_slq {ps:List (Nat × Nat)} {i:Nat} {p:Nat × Nat} (h:ps[i]? = some p):nthP (ps.map slq) i=some (slq p):=by
 rw [nthP_eq,List.getElem?_map,h];rfl
theorem QLists.mark {H:List (Nat × PObj)} {nx b j:Nat} {ps:List (Nat × Nat)} (hd:QDist j ps) {i k:Nat} {p:Nat × Nat} (hp:ps[i]? = some p) (hp0:p.1 ≠ 0) (hk:k < p.2) {cs:List PV}
  (hc:look H p.1=some (.cells cs 54 1 false false [])) (hcl:cs.length=p.2) (h:QLists H nx b j ps fun i' k'=>i' < i∨(i'=i∧k' < k)) :
  QLists (setO H p.1 (.cells (cs.set k (mk1 i k)) 54 1 false false [])) nx b j ps fun i' k'=>i' < i∨(i'=i∧k' < k + 1):=by
 constructor
 ·obtain ⟨h1,ty,esz,ex,ret,al,h2⟩:=h.arr
  exact ⟨h1,ty,esz,ex,ret,al,look_set_ne h2 fun e=>hd.2 i p hp hp0 e.symm⟩
 ·intro i' p' hp' h0
  obtain ⟨g1,g2,cs',ex',g3,gx,g4,g5⟩:=h.lst i' p' hp' h0
  refine ⟨g1,g2,?_⟩
  by_cases he:i'=i
  ·subst he
   rw [hp] at hp';cases hp'
   rw [hc] at g4;cases g4
   refine ⟨cs.set k (mk1 i' k),false,by rw [List.length_set];exact hcl,fun _=>rfl,by rw [look_setO,if_pos rfl,hc];rfl,fun k' hk' hm=>?_⟩
   by_cases hkk:k'=k
   ·subst hkk;rw [List.getElem?_set_self (by omega)]
   ·rw [List.getElem?_set_ne (fun e=>hkk e.symm)]
    exact g5 k' hk' (hm.imp id fun h=>⟨rfl,by have:=h.2;omega⟩)
  ·refine ⟨cs',ex',g3,gx,look_set_ne g4 fun e=>he (hd.1 i' i p' p hp' hp h0 hp0 e),fun k' hk' hm=>g5 k' hk' ?_⟩
   rcases hm with hm | ⟨hm,_⟩
   ·exact .inl hm
   ·exact absurd hm he
theorem QLists.done {H:List (Nat × PObj)} {nx b j:Nat} {ps:List (Nat × Nat)} {i:Nat} {p:Nat × Nat} (hp:ps[i]? = some p) (h:QLists H nx b j ps fun i' k'=>i' < i∨(i'=i∧k' < p.2)):QLists H nx b j ps fun i' _=>i' < i + 1:=
 ⟨h.arr,fun i' p' hp' h0=>by
  obtain ⟨g1,g2,cs,ex,g3,gx,g4,g5⟩:=h.lst i' p' hp' h0
  refine ⟨g1,g2,cs,ex,g3,gx,g4,fun k hk hm=>g5 k hk ?_⟩
  by_cases he:i'=i
  ·subst he;rw [hp] at hp';cases hp';exact .inr ⟨rfl,hk⟩
  ·exact .inl (by omega)⟩
theorem QLists.none {H:List (Nat × PObj)} {nx b j:Nat} {ps:List (Nat × Nat)} {i:Nat} {p:Nat × Nat} (hp:ps[i]? = some p) (h0:p.1=0) (h:QLists H nx b j ps fun i' _=>i' < i):QLists H nx b j ps fun i' _=>i' < i + 1:=
 ⟨h.arr,fun i' p' hp' h0'=>by
  obtain ⟨g1,g2,cs,ex,g3,gx,g4,g5⟩:=h.lst i' p' hp' h0'
  refine ⟨g1,g2,cs,ex,g3,gx,g4,fun k hk hm=>g5 k hk ?_⟩
  by_cases he:i'=i
  ·subst he;rw [hp] at hp';cases hp';exact absurd h0 h0'
  ·show i' < i;omega⟩
structure QLong (H:List (Nat × PObj)) (nx b j lv i:Nat) (ps xs:List (Nat × Nat)):Prop where
 bn:b≤nx
 arr:Rdb H nx j (ps.map slq)
 old:∀ (i':Nat) (p:Nat × Nat),ps[i']? = some p→p.1 ≠ 0→b≤p.1∧∃ cs,Rdb H nx p.1 cs∧cs.length=p.2∧∀ k,k < p.2→cs[k]? = some (mk1 i' k)
 live:∀ (i':Nat) (p:Nat × Nat),ps[i']? = some p→p.1 ≠ 0→lv≤i'→∃ cs ex,(p.2 ≠ 0→ex=false)∧look H p.1=some (.cells cs 54 1 ex false [])
 xl:xs.length=i
 new:∀ (i':Nat) (p:Nat × Nat),i' < i→ps[i']? = some p→∃ x cs,xs[i']? = some (x,p.2 + 16)∧Rdb H nx x cs∧cs.length=p.2 + 16∧(∀ k,k < p.2→cs[k]? = some (mk1 i' k))∧∀ k,k < 16→cs[p.2 + k]? = some (mk2 i' k)
theorem QLong.push {H:List (Nat × PObj)} {nx b j lv i:Nat} {ps xs:List (Nat × Nat)} (h:QLong H nx b j lv i ps xs) (o:PObj):QLong ((nx,o)::H) (nx + 1) b j lv i ps xs:=
 ⟨by have:=h.bn;omega,h.arr.push o,fun i' p hp h0=>by
  obtain ⟨g0,cs,g1,g2,g3⟩:=h.old i' p hp h0
  exact ⟨g0,cs,g1.push o,g2,g3⟩,fun i' p hp h0 hl=>by
  obtain ⟨cs,ex,gx,g1⟩:=h.live i' p hp h0 hl
  obtain ⟨_,_,g2,_⟩:=h.old i' p hp h0
  exact ⟨cs,ex,gx,look_push g1 g2.1⟩,h.xl,fun i' p hi hp=>by
  obtain ⟨x,cs,g1,g2,g3⟩:=h.new i' p hi hp
  exact ⟨x,cs,g1,g2.push o,g3⟩⟩
theorem QLong.retire {H:List (Nat × PObj)} {nx b j lv i c:Nat} {ps xs:List (Nat × Nat)} (h:QLong H nx b j lv i ps xs) {cs0:List PV} {ty esz:Nat} {ex r r':Bool} {al al':List Nat} (hc:look H c=some (.cells cs0 ty esz ex r al))
  (hl:∀ (i':Nat) (p:Nat × Nat),ps[i']? = some p→p.1 ≠ 0→lv≤i'→p.1 ≠ c):QLong (setO H c (.cells cs0 ty esz ex r' al')) nx b j lv i ps xs:=
 ⟨h.bn,h.arr.retire hc,fun i' p hp h0=>by
  obtain ⟨g0,cs,g1,g2,g3⟩:=h.old i' p hp h0
  exact ⟨g0,cs,g1.retire hc,g2,g3⟩,fun i' p hp h0 hv=>by
  obtain ⟨cs,ex,gx,g1⟩:=h.live i' p hp h0 hv
  exact ⟨cs,ex,gx,look_set_ne g1 (hl i' p hp h0 hv)⟩,h.xl,fun i' p hi hp=>by
  obtain ⟨x,cs,g1,g2,g3⟩:=h.new i' p hi hp
  exact ⟨x,cs,g1,g2.retire hc,g3⟩⟩
theorem QLong.later {H:List (Nat × PObj)} {nx b j lv i:Nat} {ps xs:List (Nat × Nat)} (h:QLong H nx b j lv i ps xs):QLong H nx b j (lv + 1) i ps xs:=
 ⟨h.bn,h.arr,h.old,fun i' p hp h0 hv=>h.live i' p hp h0 (by omega),h.xl,h.new⟩
def QCur (H:List (Nat × PObj)) (nx b c n k i:Nat) (ps:List (Nat × Nat)):Prop:=
 (c=0∧n + k=0)∨(c ≠ 0∧b≤c∧c < nx∧∃ cs al ex,(n + k ≠ 0→ex=false)∧cs.length=n + k∧look H c=some (.cells cs 54 1 ex false al)∧(∀ k',k' < n→cs[k']? = some (mk1 i k'))∧(∀ k',k' < k→cs[n + k']? = some (mk2 i k'))∧∀ (i':Nat) (p:Nat × Nat),ps[i']? = some p→p.1 ≠ 0→i + 1≤i'→p.1 ≠ c)
theorem QLong.snoc {H:List (Nat × PObj)} {nx b j lv i c:Nat} {ps xs:List (Nat × Nat)} {p:Nat × Nat} {cs:List PV} (h:QLong H nx b j lv i ps xs) (hp:ps[i]? = some p) (hc:Rdb H nx c cs) (hl:cs.length=p.2 + 16)
  (h1:∀ k,k < p.2→cs[k]? = some (mk1 i k)) (h2:∀ k,k < 16→cs[p.2 + k]? = some (mk2 i k)):QLong H nx b j lv (i + 1) ps (xs++[(c,p.2 + 16)]):=
 ⟨h.bn,h.arr,h.old,h.live,by rw [List.length_append,h.xl];rfl,fun i' p' hi hp'=>by
  by_cases he:i'=i
  ·subst he
   rw [hp] at hp';cases hp'
   exact ⟨c,cs,by rw [List.getElem?_append_right (by rw [h.xl];omega),h.xl,Nat.sub_self];rfl,hc,hl,h1,h2⟩
  ·obtain ⟨x,cs',g1,g2⟩:=h.new i' p' (by omega) hp'
   exact ⟨x,cs',by rw [List.getElem?_append_left (by rw [h.xl];omega)];exact g1,g2⟩⟩
section
variable {C:Ctx} (hm:C.P.follows .mixedOrders=true) (hC:TabOK C.P C.ng C.ts Tryd.tab)
include hm hC
theorem own_q (b B nx j:Nat) (ps:List (Nat × Nat)) (H0:List (Nat × PObj)) (hb:b≤nx) (hB:B≤nx) (hd:QDist j ps) (hl:ps.length < 2 ^ 30) (hz:∀ (i:Nat) (p:Nat × Nat),ps[i]? = some p→p.2 < 2 ^ 36) (hz0:∀ (i:Nat) (p:Nat × Nat),ps[i]? = some p→p.1=0→p.2=0) (h0:QLists H0 nx b j ps fun _ _=>False) :
  PToB C B 66 [.loc j 0 ps.length ps.length] ⟨nx,H0⟩ fun r π'=>r = .lit (.bool true)∧Keep b H0 π'.heap∧B≤π'.next:=by
 refine PToB.of_body hm hC (show Tryd.tab.get 66=some Tryd.c66 from rfl) ?_
 simp only [SW,Tryd.c66,startP,Nat.reduceAdd,Nat.reduceSub,List.replicate]
 have nb:∀ x:Int,neB x x=false:=fun x=>by simp [neB]
 have z0:=ltB_f (show ¬ (0:Int) < 0 by omega)
 have hbl:Nat.ble B nx=true:=Nat.ble_eq_true_of_le hB
 repeat (refine PRun.wpn rfl ?_;simp only [SW,reduceCtorEq])
 refine PRun.gh (Gh.mask mkWtB1 ?_)
 simp only [mkWtB1,↓reduceIte,Bool.false_eq_true,maskP]
 refine PRun.loopG (fun m t π=>∃ (i:Nat) (H:List (Nat × PObj)),t=(.loc j 0 ps.length ps.length::.junk::.junk::.lit (.int .i64 (i:Nat))::.junk::.junk::.junk::.junk::.junk::.junk::.junk::.junk::.junk::.junk::.junk::.junk::.junk::.junk::.junk::.junk::.junk::.junk::.junk::.junk::.junk::.junk::.junk::.junk::.junk::.junk::.junk::.junk::.junk::.junk::.junk::.junk::.junk::.junk::.junk::.junk::.junk::.junk::.junk::.junk::.junk::.junk::.junk::.junk::.junk::.junk::.junk::.junk::.junk::.junk::.junk::.junk::.junk::.junk::.junk::.junk::.junk::.junk::.junk::.junk::.junk::.junk::.junk::.junk::.junk::.junk::.junk::.junk::.junk::.junk::.junk::.junk::.junk::.junk::.junk::.junk::.junk::.junk::.junk::.junk::.junk::.junk::.junk::.junk::.junk::.junk::.junk::.junk::.junk::.junk::.junk::.junk::.junk::.junk::.junk::.junk::.junk::.junk::.junk::.junk::.junk::.junk::.junk::.junk::.junk::.junk::.junk::.junk::.junk::.junk::.junk::.junk::.junk::.junk::.junk::.junk::.junk::.junk::.junk::.junk::.junk::.junk::.junk::.junk::.junk::.junk::.junk::.junk::.junk::.junk::.junk::[])∧i≤ps.length∧m=ps.length - i∧π=⟨nx,H⟩∧QLists H nx b j ps (fun i' _=>i' < i)∧KeepB b B nx H0 H) ?_ ps.length _ _ ⟨0,H0,rfl,by omega,rfl,rfl,⟨h0.arr,fun i p h1 h2=>by
  obtain ⟨g1,g2,cs,ex,g3,gx,g4,g5⟩:=h0.lst i p h1 h2
  exact ⟨g1,g2,cs,ex,g3,gx,g4,fun k _ hk=>absurd hk (by omega)⟩⟩,⟨fun _ _ _ h=>h,hB⟩⟩
 rintro m t π ⟨i,H,rfl,hi,rfl,rfl,hL,hK⟩
 by_cases hlt:(i:Int) < (ps.length:Nat)
 ·obtain ⟨p,hp⟩:∃ p,ps[i]? = some p:=⟨ps[i]'(by omega),List.getElem?_eq_getElem (by omega)⟩
  have hw:IntKind.i64.wrap (((i:Nat):Int) + 1)=((i + 1:Nat):Int):=by rw [wrap64 (by omega) (by omega)];omega
  have hpz:=hz i p hp
  have hn:=nth_slq hp
  by_cases hp0:p.1=0
  ·rw [slq_nil hp0] at hn
   obtain ⟨hjn,ty,esz,ex,ret,al,hT⟩:=hL.arr
   repeat (refine PRun.wpn rfl ?_;simp only [SW,↓reduceIte,ltB_t hlt])
   refine PRun.gh (Gh.mask mkWtB2 ?_)
   simp only [mkWtB2,↓reduceIte,Bool.false_eq_true,maskP]
   refine PRun.loopG (fun m t π=>∃ k:Nat,k=0∧t=(.loc j 0 ps.length ps.length::.junk::.junk::.lit (.int .i64 (i:Nat))::.lit (.int .i64 (k:Nat))::.junk::.junk::.junk::.junk::.junk::.junk::.junk::.junk::.junk::.junk::.junk::.junk::.junk::.junk::.junk::.junk::.junk::.junk::.junk::.junk::.junk::.junk::.junk::.junk::.junk::.junk::.junk::.junk::.junk::.junk::.junk::.junk::.junk::.junk::.junk::.junk::.junk::.junk::.junk::.junk::.junk::.junk::.junk::.junk::.junk::.junk::.junk::.junk::.junk::.junk::.junk::.junk::.junk::.junk::.junk::.junk::.junk::.junk::.junk::.junk::.junk::.junk::.junk::.junk::.junk::.junk::.junk::.junk::.junk::.junk::.junk::.junk::.junk::.junk::.junk::.junk::.junk::.junk::.junk::.junk::.junk::.junk::.junk::.junk::.junk::.junk::.junk::.junk::.junk::.junk::.junk::.junk::.junk::.junk::.junk::.junk::.junk::.junk::.junk::.junk::.junk::.junk::.junk::.junk::.junk::.junk::.junk::.junk::.junk::.junk::.junk::.junk::.junk::.junk::.junk::.junk::.junk::.junk::.junk::.junk::.junk::.junk::.junk::.junk::.junk::.junk::.junk::.junk::.junk::.junk::[])∧π=⟨nx,H⟩) ?_ 0 _ _ ⟨0,rfl,rfl,rfl⟩
   rintro m t π ⟨k,rfl,rfl,rfl⟩
   repeat (refine PRun.wpn rfl ?_;simp only [SW,↓reduceIte,hT,hlt,hn,z0,hw])
   refine Gh.mask mkWtB1 ?_
   exact ⟨ps.length - (i + 1),by omega,i + 1,H,rfl,by omega,rfl,rfl,hL.none hp hp0,hK⟩
  ·rw [slq_loc hp0] at hn
   repeat (refine PRun.wpn rfl ?_;simp only [SW,↓reduceIte,ltB_t hlt])
   refine PRun.gh (Gh.mask mkWtB2 ?_)
   simp only [mkWtB2,↓reduceIte,Bool.false_eq_true,maskP]
   refine PRun.loopG (fun m t π=>∃ (k:Nat) (H:List (Nat × PObj)),t=(.loc j 0 ps.length ps.length::.junk::.junk::.lit (.int .i64 (i:Nat))::.lit (.int .i64 (k:Nat))::.junk::.junk::.junk::.junk::.junk::.junk::.junk::.junk::.junk::.junk::.junk::.junk::.junk::.junk::.junk::.junk::.junk::.junk::.junk::.junk::.junk::.junk::.junk::.junk::.junk::.junk::.junk::.junk::.junk::.junk::.junk::.junk::.junk::.junk::.junk::.junk::.junk::.junk::.junk::.junk::.junk::.junk::.junk::.junk::.junk::.junk::.junk::.junk::.junk::.junk::.junk::.junk::.junk::.junk::.junk::.junk::.junk::.junk::.junk::.junk::.junk::.junk::.junk::.junk::.junk::.junk::.junk::.junk::.junk::.junk::.junk::.junk::.junk::.junk::.junk::.junk::.junk::.junk::.junk::.junk::.junk::.junk::.junk::.junk::.junk::.junk::.junk::.junk::.junk::.junk::.junk::.junk::.junk::.junk::.junk::.junk::.junk::.junk::.junk::.junk::.junk::.junk::.junk::.junk::.junk::.junk::.junk::.junk::.junk::.junk::.junk::.junk::.junk::.junk::.junk::.junk::.junk::.junk::.junk::.junk::.junk::.junk::.junk::.junk::.junk::.junk::.junk::.junk::.junk::.junk::[])∧k≤p.2∧m=p.2 - k∧π=⟨nx,H⟩∧QLists H nx b j ps (fun i' k'=>i' < i∨(i'=i∧k' < k))∧KeepB b B nx H0 H) ?_ p.2 _ _ ⟨0,H,rfl,by omega,rfl,rfl,⟨hL.arr,fun i' p' h1 h2=>by
    obtain ⟨g1,g2,cs,ex,g3,gx,g4,g5⟩:=hL.lst i' p' h1 h2
    exact ⟨g1,g2,cs,ex,g3,gx,g4,fun k hk hm=>g5 k hk (by omega)⟩⟩,hK⟩
   clear hL hK
   rintro m t π ⟨k,H,rfl,hk,rfl,rfl,hL,hK⟩
   obtain ⟨hjn,ty,esz,ex,ret,al,hT⟩:=hL.arr
   by_cases hlk:(k:Int) < (p.2:Nat)
   ·obtain ⟨g1,g2,cs,ex,g3,gx,g4,_⟩:=hL.lst i p hp hp0
    obtain rfl:ex=false:=gx (by omega)
    have hw1:IntKind.u16.wrap (IntKind.i64.wrap (IntKind.i64.wrap ((i:Int) * 1009) + IntKind.i64.wrap ((k:Int) * 31)))=w1 i k:=rfl
    have hsp:=splice1 (mk1 i k) (show k < cs.length by omega)
    rw [mk1] at hsp
    have hwk:IntKind.i64.wrap (((k:Nat):Int) + 1)=((k + 1:Nat):Int):=by rw [wrap64 (by omega) (by omega)];omega
    repeat (refine PRun.wpn rfl ?_;simp only [SW,↓reduceIte,hT,hlt,hn,ltB_t hlk,hlk,g4,hw1,hsp,hwk,hbl])
    refine Gh.mask mkWtB2 ?_
    exact ⟨p.2 - (k + 1),by omega,k + 1,_,rfl,by omega,rfl,rfl,hL.mark hd hp hp0 (by omega) g4 g3,hK.set g1 _⟩
   ·repeat (refine PRun.wpn rfl ?_;simp only [SW,↓reduceIte,hT,hlt,hn,ltB_f hlk,hw])
    refine Gh.mask mkWtB1 ?_
    obtain rfl:k=p.2:=by omega
    exact ⟨ps.length - (i + 1),by omega,i + 1,H,rfl,by omega,rfl,rfl,hL.done hp,hK⟩
 ·obtain rfl:i=ps.length:=by omega
  repeat (refine PRun.wpn rfl ?_;simp only [SW,↓reduceIte,reduceCtorEq,ltB_f hlt])
  refine PRun.gh (Gh.mask mkWtB3 ?_)
  simp only [mkWtB3,↓reduceIte,Bool.false_eq_true,maskP]
  refine PRun.loopG (fun m t π=>∃ (i nx jl:Nat) (H:List (Nat × PObj)) (xs:List (Nat × Nat)),t=(.loc j 0 ps.length ps.length::.junk::.junk::.junk::.junk::slotP (jl,i)::.lit (.int .i64 (i:Nat))::.junk::.junk::.junk::.junk::.junk::.junk::.junk::.junk::.junk::.junk::.junk::.junk::.junk::.junk::.junk::.junk::.junk::.junk::.junk::.junk::.junk::.junk::.junk::.junk::.junk::.junk::.junk::.junk::.junk::.junk::.junk::.junk::.junk::.junk::.junk::.junk::.junk::.junk::.junk::.junk::.junk::.junk::.junk::.junk::.junk::.junk::.junk::.junk::.junk::.junk::.junk::.junk::.junk::.junk::.junk::.junk::.junk::.junk::.junk::.junk::.junk::.junk::.junk::.junk::.junk::.junk::.junk::.junk::.junk::.junk::.junk::.junk::.junk::.junk::.junk::.junk::.junk::.junk::.junk::.junk::.junk::.junk::.junk::.junk::.junk::.junk::.junk::.junk::.junk::.junk::.junk::.junk::.junk::.junk::.junk::.junk::.junk::.junk::.junk::.junk::.junk::.junk::.junk::.junk::.junk::.junk::.junk::.junk::.junk::.junk::.junk::.junk::.junk::.junk::.junk::.junk::.junk::.junk::.junk::.junk::.junk::.junk::.junk::.junk::.junk::.junk::.junk::.junk::[])∧i≤ps.length∧m=ps.length - i∧π=⟨nx,H⟩∧QLong H nx b j i i ps xs∧Lg H nx b jl i xs∧KeepB b B nx H0 H) ?_ ps.length _ _ ⟨0,nx,0,H,[],rfl,by omega,rfl,rfl,⟨hb,hL.arr,fun i' p h1 h2=>by
   obtain ⟨g1,g2,cs,ex,g3,gx,g4,g5⟩:=hL.lst i' p h1 h2
   exact ⟨g1,cs,⟨g2,_,_,_,_,_,g4⟩,g3,fun k hk=>g5 k hk (List.getElem?_eq_some_iff.1 h1).1⟩,fun i' p h1 h2 _=>by
   obtain ⟨g1,g2,cs,ex,g3,gx,g4,g5⟩:=hL.lst i' p h1 h2
   exact ⟨cs,ex,gx,g4⟩,rfl,fun i' p h=>by omega⟩,.inl rfl,hK⟩
  clear hL hK hi hlt H h0
  clear hbl hb hB
  clear nx
  rintro m t π ⟨i,nx,jl,H,xs,rfl,hi,rfl,rfl,hL,hG,hK⟩
  have hbn:=hL.bn
  have hBn:=hK.nx
  have hb0:Nat.ble B nx=true:=Nat.ble_eq_true_of_le hBn
  have hb1:Nat.ble B (nx + 1)=true:=Nat.ble_eq_true_of_le (by omega)
  have hb2:Nat.ble B (nx + 1 + 1)=true:=Nat.ble_eq_true_of_le (by omega)
  obtain ⟨hjn,ty,esz,ex,ret,al,hT⟩:=hL.arr
  by_cases hlt:(i:Int) < (ps.length:Nat)
  ·obtain ⟨p,hp⟩:∃ p,ps[i]? = some p:=⟨ps[i]'(by omega),List.getElem?_eq_getElem (by omega)⟩
   have hw:IntKind.i64.wrap (((i:Nat):Int) + 1)=((i + 1:Nat):Int):=by rw [wrap64 (by omega) (by omega)];omega
   have hpz:=hz i p hp
   have hn:=nth_slq hp
   have hcur:QCur H nx b p.1 p.2 0 i ps:=by
    by_cases hp0:p.1=0
    ·exact .inl ⟨hp0,by have:=hz0 i p hp hp0;omega⟩
    ·obtain ⟨cs,ex,gx,g1⟩:=hL.live i p hp hp0 (Nat.le_refl i)
     obtain ⟨g2,cs',⟨g3,_,_,_,_,_,g4⟩,g5,g6⟩:=hL.old i p hp hp0
     rw [g1] at g4;cases g4
     exact .inr ⟨hp0,g2,g3,cs,[],ex,fun h=>gx (by omega),g5,g1,g6,fun k' hk=>by omega,fun i' p' h1 h2 h3 e=>by
      have:=hd.1 i' i p' p h1 hp h2 hp0 e;omega⟩
   repeat (refine PRun.wpn rfl ?_;simp only [SW,↓reduceIte,ltB_t hlt,hT,hlt,hn])
   refine PRun.gh (Gh.mask mkWtB4 ?_)
   simp only [mkWtB4,↓reduceIte,Bool.false_eq_true,maskP]
   refine PRun.loopG (fun m t π=>∃ (k nx c:Nat) (H:List (Nat × PObj)),t=(.loc j 0 ps.length ps.length::.junk::.junk::.junk::.junk::slotP (jl,i)::.lit (.int .i64 (i:Nat))::slq (c,p.2 + k)::.lit (.int .i64 (k:Nat))::.junk::.junk::.junk::.junk::.junk::.junk::.junk::.junk::.junk::.junk::.junk::.junk::.junk::.junk::.junk::.junk::.junk::.junk::.junk::.junk::.junk::.junk::.junk::.junk::.junk::.junk::.junk::.junk::.junk::.junk::.junk::.junk::.junk::.junk::.junk::.junk::.junk::.junk::.junk::.junk::.junk::.junk::.junk::.junk::.junk::.junk::.junk::.junk::.junk::.junk::.junk::.junk::.junk::.junk::.junk::.junk::.junk::.junk::.junk::.junk::.junk::.junk::.junk::.junk::.junk::.junk::.junk::.junk::.junk::.junk::.junk::.junk::.junk::.junk::.junk::.junk::.junk::.junk::.junk::.junk::.junk::.junk::.junk::.junk::.junk::.junk::.junk::.junk::.junk::.junk::.junk::.junk::.junk::.junk::.junk::.junk::.junk::.junk::.junk::.junk::.junk::.junk::.junk::.junk::.junk::.junk::.junk::.junk::.junk::.junk::.junk::.junk::.junk::.junk::.junk::.junk::.junk::.junk::.junk::.junk::.junk::.junk::.junk::.junk::.junk::.junk::[])∧k≤16∧m=16 - k∧π=⟨nx,H⟩∧QLong H nx b j (i + 1) i ps xs∧Lg H nx b jl i xs∧QCur H nx b c p.2 k i ps∧KeepB b B nx H0 H) ?_ 16 _ _ ⟨0,nx,p.1,H,rfl,by omega,rfl,rfl,hL.later,hG,hcur,hK⟩
   clear hL hG hK hcur hbn hBn hb0 hb1 hb2 hT hjn ty esz ex ret al H
   clear nx
   rintro m t π ⟨k,nx,c,H,rfl,hk,rfl,rfl,hL,hG,hcur,hK⟩
   have hbn:=hL.bn
   have hBn:=hK.nx
   have hb0:Nat.ble B nx=true:=Nat.ble_eq_true_of_le hBn
   have hb1:Nat.ble B (nx + 1)=true:=Nat.ble_eq_true_of_le (by omega)
   have hb2:Nat.ble B (nx + 1 + 1)=true:=Nat.ble_eq_true_of_le (by omega)
   by_cases hlk:(k:Int) < 16
   ·have hwk:IntKind.i64.wrap (((k:Nat):Int) + 1)=((k + 1:Nat):Int):=by rw [wrap64 (by omega) (by omega)];omega
    have hw2:IntKind.u16.wrap (IntKind.i64.wrap (IntKind.i64.wrap (IntKind.i64.wrap (-1 - (i:Int)) * 1009) + IntKind.i64.wrap ((k:Int) * 31)))=w2 i k:=rfl
    rcases hcur with ⟨hc0,h00⟩ | ⟨hcz,g1,g2,cs,al,ex,gx,g3,g4,g5,g6,g7⟩
    ·have hs:=slq_nil (p:=(c,p.2 + k)) hc0
     have hp0:p.2=0:=by omega
     repeat (refine PRun.wpn rfl ?_;simp only [SW,↓reduceIte,Nat.reduceAdd,Nat.reduceMul,Nat.reduceLeDiff,Nat.reduceLT,ltB_t hlk,hs,hw2,hwk,hb0,hb1])
     refine Gh.mask mkWtB4 ?_
     obtain rfl:k=0:=by omega
     refine ⟨15,by omega,1,nx + 1 + 1,nx + 1,_,?_,by omega,rfl,rfl,(hL.push _).push _,(hG.push _).push _,.inr ⟨by omega,by omega,by omega,[mk2 i 0],[],false,fun _=>rfl,by rw [hp0];rfl,by simp only [look];rfl,fun k' hk=>by omega,fun k' hk=>?_,fun i' p' h1 h2 h3=>?_⟩,(hK.push hbn _).push (by omega) _⟩
     ·rw [slq_loc (p:=(nx + 1,p.2 + 1)) (by show nx + 1 ≠ 0;omega),hp0];rfl
     ·obtain rfl:k'=0:=by omega
      rw [hp0];rfl
     ·obtain ⟨_,_,q,_⟩:=hL.old i' p' h1 h2
      have:=q.1;omega
    ·have hs:=slq_loc (p:=(c,p.2 + k)) hcz
     have r1:¬ p.2 + k + 1≤p.2 + k:=by omega
     have r2:¬ 140737488355328 < (2 * (p.2 + k + 1) + 768) * 2:=by omega
     have r3:=cutB g3
     have r5:¬ c=nx:=by omega
     have hmm:=mark_more g3 g5 g6
     have hfar:∀ (i':Nat) (p':Nat × Nat),ps[i']? = some p'→p'.1 ≠ 0→i + 1≤i'→p'.1 ≠ nx + 1:=fun i' p' h1 h2 h3=>by
      obtain ⟨_,_,q,_⟩:=hL.old i' p' h1 h2
      have:=q.1;omega
     have hloc:PV.loc (nx + 1) 0 (p.2 + k + 1) (p.2 + k + 1)=slq (nx + 1,p.2 + (k + 1)):=by rw [slq_loc (p:=(nx + 1,p.2 + (k + 1))) (by show nx + 1 ≠ 0;omega)];rfl
     cases ex
     ·repeat (refine PRun.wpn rfl ?_;simp only [SW,↓reduceIte,ltB_t hlk,hs,hw2,hwk,hb0,hb1,g3,g4,r1,r2,r3,r5,bne_self_eq_false])
      refine Gh.mask mkWtB4 ?_
      exact ⟨16 - (k + 1),by omega,k + 1,nx + 1 + 1,nx + 1,_,by rw [← hloc];rfl,by omega,rfl,rfl,((hL.retire g4 g7).push _).push _,((hG.retire g4).push _).push _,.inr ⟨by omega,by omega,by omega,cs++[mk2 i k],c::al,false,fun _=>rfl,by rw [List.length_append,g3];rfl,by simp only [look];rfl,hmm.1,hmm.2,hfar⟩,((hK.set g1 _).push hbn _).push (by omega) _⟩
     ·repeat (refine PRun.wpn rfl ?_;simp only [SW,↓reduceIte,ltB_t hlk,hs,hw2,hwk,hb0,hb1,g4,r1,r2,r3,r5])
      refine Gh.mask mkWtB4 ?_
      exact ⟨16 - (k + 1),by omega,k + 1,nx + 1 + 1,nx + 1,_,by rw [← hloc];rfl,by omega,rfl,rfl,(hL.push _).push _,(hG.push _).push _,.inr ⟨by omega,by omega,by omega,cs++[mk2 i k],[],false,fun _=>rfl,by rw [List.length_append,g3];rfl,by simp only [look];rfl,hmm.1,hmm.2,hfar⟩,(hK.push hbn _).push (by omega) _⟩
   ·obtain rfl:k=16:=by omega
    rcases hcur with ⟨_,h00⟩ | ⟨hcz,g1,g2,cs,al,ex,gx,g3,g4,g5,g6,g7⟩
    ·omega
    have hs:=slq_loc (p:=(c,p.2 + 16)) hcz
    have hsP:=slotP_loc (p:=(c,p.2 + 16)) (show p.2 + 16 ≠ 0 by omega)
    have hL2:=hL.snoc hp ⟨g2,_,_,_,_,_,g4⟩ g3 g5 g6
    rcases hG with hi0 | ⟨q1,q2,al2,q3⟩
    ·have hs2:=slotP_nil (p:=(jl,i)) hi0
     repeat (refine PRun.wpn rfl ?_;simp only [SW,↓reduceIte,Nat.reduceAdd,Nat.reduceMul,Nat.reduceLeDiff,Nat.reduceLT,Nat.reduceSub,ltB_f hlk,hs,hs2,hb0,hb1,hw])
     refine Gh.mask mkWtB3 ?_
     obtain rfl:i=0:=hi0
     obtain rfl:xs=[]:=List.length_eq_zero_iff.1 hL.xl
     refine ⟨ps.length - 1,by omega,1,nx + 1 + 1,nx + 1,_,[(c,p.2 + 16)],?_,by omega,rfl,rfl,(hL2.push _).push _,.inr ⟨by omega,by omega,[],by simp only [look,if_true];rw [show [(c,p.2 + 16)].map slotP=[slotP (c,p.2 + 16)] from rfl,hsP]⟩,(hK.push hbn _).push (by omega) _⟩
     rw [slotP_loc (p:=(nx + 1,1)) Nat.one_ne_zero];rfl
    ·by_cases hi0:i=0
     ·have hs2:=slotP_nil (p:=(jl,i)) hi0
      repeat (refine PRun.wpn rfl ?_;simp only [SW,↓reduceIte,Nat.reduceAdd,Nat.reduceMul,Nat.reduceLeDiff,Nat.reduceLT,Nat.reduceSub,ltB_f hlk,hs,hs2,hb0,hb1,hw])
      refine Gh.mask mkWtB3 ?_
      obtain rfl:i=0:=hi0
      obtain rfl:xs=[]:=List.length_eq_zero_iff.1 hL.xl
      refine ⟨ps.length - 1,by omega,1,nx + 1 + 1,nx + 1,_,[(c,p.2 + 16)],?_,by omega,rfl,rfl,(hL2.push _).push _,.inr ⟨by omega,by omega,[],by simp only [look,if_true];rw [show [(c,p.2 + 16)].map slotP=[slotP (c,p.2 + 16)] from rfl,hsP]⟩,(hK.push hbn _).push (by omega) _⟩
      rw [slotP_loc (p:=(nx + 1,1)) Nat.one_ne_zero];rfl
     have hs2:=slotP_loc (p:=(jl,i)) hi0
     have hxl:=hL.xl
     have r1:¬ i + 1≤i:=by omega
     have r2:¬ 140737488355328 < (2 * (i + 1) + 768) * 24:=by omega
     have r4:(xs.map slotP).length=i:=by rw [List.length_map,hxl]
     have r3:=cutB r4
     have r5:¬ jl=nx:=by omega
     repeat (refine PRun.wpn rfl ?_;simp only [SW,↓reduceIte,Nat.reduceSub,ltB_f hlk,hs,hs2,hb0,hb1,hw,q3,r1,r2,r3,r4,r5,bne_self_eq_false])
     refine Gh.mask mkWtB3 ?_
     have hne:∀ (i':Nat) (p:Nat × Nat),ps[i']? = some p→p.1 ≠ 0→i + 1≤i'→p.1 ≠ jl:=fun i' p' h1 h2 h3 e=>by
      obtain ⟨cs',ex',_,k1⟩:=hL.live i' p' h1 h2 h3
      rw [e,q3] at k1;cases k1
     refine ⟨ps.length - (i + 1),by omega,i + 1,nx + 1 + 1,nx + 1,_,xs++[(c,p.2 + 16)],?_,by omega,rfl,rfl,((hL2.retire q3 hne).push _).push _,.inr ⟨by omega,by omega,jl::al2,by simp only [look,if_true];rw [List.map_append,show [(c,p.2 + 16)].map slotP=[slotP (c,p.2 + 16)] from rfl,hsP]⟩,((hK.set q1 _).push hbn _).push (by omega) _⟩
     rw [slotP_loc (p:=(nx + 1,i + 1)) (by show i + 1 ≠ 0;omega)];rfl
  ·obtain rfl:i=ps.length:=by omega
   repeat (refine PRun.wpn rfl ?_;simp only [SW,↓reduceIte,reduceCtorEq,ltB_f hlt])
   refine PRun.gh (Gh.mask mkWtB5 ?_)
   simp only [mkWtB5,↓reduceIte,Bool.false_eq_true,maskP]
   refine PRun.loopG (fun m t π=>∃ i:Nat,t=(.loc j 0 ps.length ps.length::.junk::.junk::.junk::.junk::slotP (jl,ps.length)::.junk::.junk::.junk::.lit (.int .i64 (i:Nat))::.junk::.junk::.junk::.junk::.junk::.junk::.junk::.junk::.junk::.junk::.junk::.junk::.junk::.junk::.junk::.junk::.junk::.junk::.junk::.junk::.junk::.junk::.junk::.junk::.junk::.junk::.junk::.junk::.junk::.junk::.junk::.junk::.junk::.junk::.junk::.junk::.junk::.junk::.junk::.junk::.junk::.junk::.junk::.junk::.junk::.junk::.junk::.junk::.junk::.junk::.junk::.junk::.junk::.junk::.junk::.junk::.junk::.junk::.junk::.junk::.junk::.junk::.junk::.junk::.junk::.junk::.junk::.junk::.junk::.junk::.junk::.junk::.junk::.junk::.junk::.junk::.junk::.junk::.junk::.junk::.junk::.junk::.junk::.junk::.junk::.junk::.junk::.junk::.junk::.junk::.junk::.junk::.junk::.junk::.junk::.junk::.junk::.junk::.junk::.junk::.junk::.junk::.junk::.junk::.junk::.junk::.junk::.junk::.junk::.junk::.junk::.junk::.junk::.junk::.junk::.junk::.junk::.junk::.junk::.junk::.junk::.junk::.junk::.junk::.junk::[])∧i≤ps.length∧m=ps.length - i∧π=⟨nx,H⟩) ?_ ps.length _ _ ⟨0,rfl,by omega,rfl,rfl⟩
   rintro m t π ⟨i,rfl,hi,rfl,rfl⟩
   by_cases hlt:(i:Int) < (ps.length:Nat)
   ·obtain ⟨p,hp⟩:∃ p,ps[i]? = some p:=⟨ps[i]'(by omega),List.getElem?_eq_getElem (by omega)⟩
    have hw:IntKind.i64.wrap (((i:Nat):Int) + 1)=((i + 1:Nat):Int):=by rw [wrap64 (by omega) (by omega)];omega
    have hpz:=hz i p hp
    have hn:=nth_slq hp
    obtain ⟨x,xc,y1,⟨y2,_,_,_,_,_,y3⟩,y4,y5,y6⟩:=hL.new i p (by omega) hp
    have hn2:=nth_slot y1
    rw [slotP_loc (p:=(x,p.2 + 16)) (show p.2 + 16 ≠ 0 by omega)] at hn2
    rcases hG with hK0 | ⟨q1,q2,al2,q3⟩
    ·omega
    have hs2:=slotP_loc (p:=(jl,ps.length)) (show ps.length ≠ 0 by omega)
    by_cases hp0:p.1=0
    ·rw [slq_nil hp0] at hn
     repeat (refine PRun.wpn rfl ?_;simp only [SW,↓reduceIte,ltB_t hlt,hT,hlt,hn])
     refine PRun.gh (Gh.mask mkWtB6 ?_)
     simp only [mkWtB6,↓reduceIte,Bool.false_eq_true,maskP]
     refine PRun.loopG (fun m t π=>∃ k:Nat,k=0∧t=(.loc j 0 ps.length ps.length::.junk::.junk::.junk::.junk::slotP (jl,ps.length)::.junk::.junk::.junk::.lit (.int .i64 (i:Nat))::.lit (.int .i64 0)::.lit (.int .i64 (k:Nat))::.junk::.junk::.junk::.junk::.junk::.junk::.junk::.junk::.junk::.junk::.junk::.junk::.junk::.junk::.junk::.junk::.junk::.junk::.junk::.junk::.junk::.junk::.junk::.junk::.junk::.junk::.junk::.junk::.junk::.junk::.junk::.junk::.junk::.junk::.junk::.junk::.junk::.junk::.junk::.junk::.junk::.junk::.junk::.junk::.junk::.junk::.junk::.junk::.junk::.junk::.junk::.junk::.junk::.junk::.junk::.junk::.junk::.junk::.junk::.junk::.junk::.junk::.junk::.junk::.junk::.junk::.junk::.junk::.junk::.junk::.junk::.junk::.junk::.junk::.junk::.junk::.junk::.junk::.junk::.junk::.junk::.junk::.junk::.junk::.junk::.junk::.junk::.junk::.junk::.junk::.junk::.junk::.junk::.junk::.junk::.junk::.junk::.junk::.junk::.junk::.junk::.junk::.junk::.junk::.junk::.junk::.junk::.junk::.junk::.junk::.junk::.junk::.junk::.junk::.junk::.junk::.junk::.junk::.junk::.junk::.junk::.junk::.junk::[])∧π=⟨nx,H⟩) ?_ 0 _ _ ⟨0,rfl,rfl,rfl⟩
     rintro m t π ⟨k,rfl,rfl,rfl⟩
     repeat (refine PRun.wpn rfl ?_;simp only [SW,↓reduceIte,z0])
     refine PRun.gh (Gh.mask mkWtB7 ?_)
     simp only [mkWtB7,↓reduceIte,Bool.false_eq_true,maskP]
     refine PRun.loopG (fun m t π=>∃ k:Nat,t=(.loc j 0 ps.length ps.length::.junk::.junk::.junk::.junk::slotP (jl,ps.length)::.junk::.junk::.junk::.lit (.int .i64 (i:Nat))::.lit (.int .i64 0)::.junk::.lit (.int .i64 (k:Nat))::.junk::.junk::.junk::.junk::.junk::.junk::.junk::.junk::.junk::.junk::.junk::.junk::.junk::.junk::.junk::.junk::.junk::.junk::.junk::.junk::.junk::.junk::.junk::.junk::.junk::.junk::.junk::.junk::.junk::.junk::.junk::.junk::.junk::.junk::.junk::.junk::.junk::.junk::.junk::.junk::.junk::.junk::.junk::.junk::.junk::.junk::.junk::.junk::.junk::.junk::.junk::.junk::.junk::.junk::.junk::.junk::.junk::.junk::.junk::.junk::.junk::.junk::.junk::.junk::.junk::.junk::.junk::.junk::.junk::.junk::.junk::.junk::.junk::.junk::.junk::.junk::.junk::.junk::.junk::.junk::.junk::.junk::.junk::.junk::.junk::.junk::.junk::.junk::.junk::.junk::.junk::.junk::.junk::.junk::.junk::.junk::.junk::.junk::.junk::.junk::.junk::.junk::.junk::.junk::.junk::.junk::.junk::.junk::.junk::.junk::.junk::.junk::.junk::.junk::.junk::.junk::.junk::.junk::.junk::.junk::.junk::.junk::[])∧k≤16∧m=16 - k∧π=⟨nx,H⟩) ?_ 16 _ _ ⟨0,rfl,by omega,rfl,rfl⟩
     rintro m t π ⟨k,rfl,hk,rfl,rfl⟩
     by_cases hlk:(k:Int) < 16
     ·have hw2:IntKind.u16.wrap (IntKind.i64.wrap (IntKind.i64.wrap (IntKind.i64.wrap (-1 - (i:Int)) * 1009) + IntKind.i64.wrap ((k:Int) * 31)))=w2 i k:=rfl
      have hwk:IntKind.i64.wrap (((k:Nat):Int) + 1)=((k + 1:Nat):Int):=by rw [wrap64 (by omega) (by omega)];omega
      have hwn:IntKind.i64.wrap (0 + ((k:Nat):Int))=((k:Nat):Int):=by rw [wrap64 (by omega) (by omega)];omega
      have e2:nthP xc k=some (.lit (.int .u16 (w2 i k))):=by
       have:=y6 k (by omega)
       rw [hz0 i p hp hp0,Nat.zero_add] at this
       rw [nthP_eq];exact this
      have hlk2:((k:Nat):Int) < ((p.2 + 16:Nat):Int):=by omega
      repeat (refine PRun.wpn rfl ?_;simp only [SW,↓reduceIte,ltB_t hlk,hlk2,hlt,hn2,hs2,q3,y3,e2,hw2,nb,hwk,hwn])
      refine Gh.mask mkWtB7 ?_
      exact ⟨16 - (k + 1),by omega,k + 1,rfl,by omega,rfl,rfl⟩
     ·repeat (refine PRun.wpn rfl ?_;simp only [SW,↓reduceIte,ltB_f hlk,hw])
      refine Gh.mask mkWtB5 ?_
      exact ⟨ps.length - (i + 1),by omega,i + 1,rfl,by omega,rfl,rfl⟩
    ·rw [slq_loc hp0] at hn
     obtain ⟨o1,oc,⟨o2,_,_,_,_,_,o3⟩,o4,o5⟩:=hL.old i p hp hp0
     repeat (refine PRun.wpn rfl ?_;simp only [SW,↓reduceIte,ltB_t hlt,hT,hlt,hn])
     refine PRun.gh (Gh.mask mkWtB6 ?_)
     simp only [mkWtB6,↓reduceIte,Bool.false_eq_true,maskP]
     refine PRun.loopG (fun m t π=>∃ k:Nat,t=(.loc j 0 ps.length ps.length::.junk::.junk::.junk::.junk::slotP (jl,ps.length)::.junk::.junk::.junk::.lit (.int .i64 (i:Nat))::.lit (.int .i64 (p.2:Nat))::.lit (.int .i64 (k:Nat))::.junk::.junk::.junk::.junk::.junk::.junk::.junk::.junk::.junk::.junk::.junk::.junk::.junk::.junk::.junk::.junk::.junk::.junk::.junk::.junk::.junk::.junk::.junk::.junk::.junk::.junk::.junk::.junk::.junk::.junk::.junk::.junk::.junk::.junk::.junk::.junk::.junk::.junk::.junk::.junk::.junk::.junk::.junk::.junk::.junk::.junk::.junk::.junk::.junk::.junk::.junk::.junk::.junk::.junk::.junk::.junk::.junk::.junk::.junk::.junk::.junk::.junk::.junk::.junk::.junk::.junk::.junk::.junk::.junk::.junk::.junk::.junk::.junk::.junk::.junk::.junk::.junk::.junk::.junk::.junk::.junk::.junk::.junk::.junk::.junk::.junk::.junk::.junk::.junk::.junk::.junk::.junk::.junk::.junk::.junk::.junk::.junk::.junk::.junk::.junk::.junk::.junk::.junk::.junk::.junk::.junk::.junk::.junk::.junk::.junk::.junk::.junk::.junk::.junk::.junk::.junk::.junk::.junk::.junk::.junk::.junk::.junk::.junk::[])∧k≤p.2∧m=p.2 - k∧π=⟨nx,H⟩) ?_ p.2 _ _ ⟨0,rfl,by omega,rfl,rfl⟩
     rintro m t π ⟨k,rfl,hk,rfl,rfl⟩
     by_cases hlk:(k:Int) < (p.2:Nat)
     ·have hw1:IntKind.u16.wrap (IntKind.i64.wrap (IntKind.i64.wrap ((i:Int) * 1009) + IntKind.i64.wrap ((k:Int) * 31)))=w1 i k:=rfl
      have hwk:IntKind.i64.wrap (((k:Nat):Int) + 1)=((k + 1:Nat):Int):=by rw [wrap64 (by omega) (by omega)];omega
      have e1:nthP oc k=some (.lit (.int .u16 (w1 i k))):=by rw [nthP_eq];exact o5 k (by omega)
      have e2:nthP xc k=some (.lit (.int .u16 (w1 i k))):=by rw [nthP_eq];exact y5 k (by omega)
      have hlk2:((k:Nat):Int) < ((p.2 + 16:Nat):Int):=by omega
      repeat (refine PRun.wpn rfl ?_;simp only [SW,↓reduceIte,ltB_t hlk,hlk,hlk2,hT,hlt,hn,hn2,hs2,q3,o3,y3,e1,e2,hw1,nb,hwk])
      refine Gh.mask mkWtB6 ?_
      exact ⟨p.2 - (k + 1),by omega,k + 1,rfl,by omega,rfl,rfl⟩
     ·repeat (refine PRun.wpn rfl ?_;simp only [SW,↓reduceIte,ltB_f hlk])
      refine PRun.gh (Gh.mask mkWtB7 ?_)
      simp only [mkWtB7,↓reduceIte,Bool.false_eq_true,maskP]
      refine PRun.loopG (fun m t π=>∃ k:Nat,t=(.loc j 0 ps.length ps.length::.junk::.junk::.junk::.junk::slotP (jl,ps.length)::.junk::.junk::.junk::.lit (.int .i64 (i:Nat))::.lit (.int .i64 (p.2:Nat))::.junk::.lit (.int .i64 (k:Nat))::.junk::.junk::.junk::.junk::.junk::.junk::.junk::.junk::.junk::.junk::.junk::.junk::.junk::.junk::.junk::.junk::.junk::.junk::.junk::.junk::.junk::.junk::.junk::.junk::.junk::.junk::.junk::.junk::.junk::.junk::.junk::.junk::.junk::.junk::.junk::.junk::.junk::.junk::.junk::.junk::.junk::.junk::.junk::.junk::.junk::.junk::.junk::.junk::.junk::.junk::.junk::.junk::.junk::.junk::.junk::.junk::.junk::.junk::.junk::.junk::.junk::.junk::.junk::.junk::.junk::.junk::.junk::.junk::.junk::.junk::.junk::.junk::.junk::.junk::.junk::.junk::.junk::.junk::.junk::.junk::.junk::.junk::.junk::.junk::.junk::.junk::.junk::.junk::.junk::.junk::.junk::.junk::.junk::.junk::.junk::.junk::.junk::.junk::.junk::.junk::.junk::.junk::.junk::.junk::.junk::.junk::.junk::.junk::.junk::.junk::.junk::.junk::.junk::.junk::.junk::.junk::.junk::.junk::.junk::.junk::.junk::.junk::[])∧k≤16∧m=16 - k∧π=⟨nx,H⟩) ?_ 16 _ _ ⟨0,rfl,by omega,rfl,rfl⟩
      clear hlk hk k
      rintro m t π ⟨k,rfl,hk,rfl,rfl⟩
      by_cases hlk:(k:Int) < 16
      ·have hw2:IntKind.u16.wrap (IntKind.i64.wrap (IntKind.i64.wrap (IntKind.i64.wrap (-1 - (i:Int)) * 1009) + IntKind.i64.wrap ((k:Int) * 31)))=w2 i k:=rfl
       have hwk:IntKind.i64.wrap (((k:Nat):Int) + 1)=((k + 1:Nat):Int):=by rw [wrap64 (by omega) (by omega)];omega
       have hwn:IntKind.i64.wrap (((p.2:Nat):Int) + ((k:Nat):Int))=((p.2 + k:Nat):Int):=by rw [wrap64 (by omega) (by omega)];omega
       have e2:nthP xc (p.2 + k)=some (.lit (.int .u16 (w2 i k))):=by rw [nthP_eq];exact y6 k (by omega)
       have hlk2:((p.2 + k:Nat):Int) < ((p.2 + 16:Nat):Int):=by omega
       repeat (refine PRun.wpn rfl ?_;simp only [SW,↓reduceIte,ltB_t hlk,hlk2,hlt,hn2,hs2,q3,y3,e2,hw2,nb,hwk,hwn])
       refine Gh.mask mkWtB7 ?_
       exact ⟨16 - (k + 1),by omega,k + 1,rfl,by omega,rfl,rfl⟩
      ·repeat (refine PRun.wpn rfl ?_;simp only [SW,↓reduceIte,ltB_f hlk,hw])
       refine Gh.mask mkWtB5 ?_
       exact ⟨ps.length - (i + 1),by omega,i + 1,rfl,by omega,rfl,rfl⟩
   ·repeat (refine PRun.wpn rfl ?_;simp only [SW,↓reduceIte,reduceCtorEq,ltB_f hlt])
    exact .refl ⟨_,rfl,rfl,hK.keep,hK.nx⟩
end
end Go.Proofs.YtkldgoapompinaaDoor.Ai
namespace Go.Proofs.YtkldgoapompinaaDoor.Ai
set_option linter.unusedSimpArgs false
open Go
set_option linter.unusedVariables false
set_option linter.unusedSectionVars false
set_option maxRecDepth 10000
set_option maxHeartbeats 4000000
theorem slq_or (p:Nat × Nat):slq p = .lit (.slice none 0 0)∨slq p = .loc p.1 0 p.2 p.2:=by
 unfold slq
 split
 ·exact .inl rfl
 ·exact .inr rfl
theorem nm_slq {b:Nat} {p:Nat × Nat} (h:p.1 ≠ 0→p.1 < b):nmP b (slq p)=true:=by
 unfold slq
 split
 ·rfl
 ·rename_i hp
  simp only [nmP];rw [Nat.blt_eq];exact h hp
def QW (H:List (Nat × PObj)) (nx bk:Nat) (p:Nat × Nat) (ps:List (Nat × Nat)) (l:List PV):Prop:=(p.1=0→p.2=0)∧(p.1 ≠ 0→bk < p.1∧p.1 < nx∧p.2 < 2 ^ 36∧l.length=p.2∧(∃ ex,(p.2 ≠ 0→ex=false)∧look H p.1=some (.cells l 54 1 ex false []))∧∀ q∈ps,q.1 ≠ 0→q.1 ≠ p.1)
structure BookQ (H:List (Nat × PObj)) (nx bk j:Nat) (ps:List (Nat × Nat)):Prop where
 hbk:bk < nx∧∃ ex,look H bk=some (.cells [.lit (.slice none 0 0),.lit (.slice none 0 0),.lit (.slice none 0 0),.lit (.slice none 0 0),slotP (j,ps.length),.lit (.slice none 0 0),.lit (.slice none 0 0),.lit (.slice none 0 0),.lit (.slice none 0 0),.lit (.slice none 0 0),.lit (.slice none 0 0),.lit (.slice none 0 0),.lit (.slice none 0 0)] 44 13 ex false [])
 arr:ps ≠ []→bk < j∧j < nx∧∃ al,look H j=some (.cells (ps.map slq) 23 1 false false al)
 lst:∀ (i:Nat) (p:Nat × Nat),ps[i]? = some p→p.1 ≠ 0→bk < p.1∧p.1 < nx∧p.2 < 2 ^ 36∧∃ cs ex,cs.length=p.2∧(p.2 ≠ 0→ex=false)∧look H p.1=some (.cells cs 54 1 ex false [])
 dis:QDist j ps
 z0:∀ (i:Nat) (p:Nat × Nat),ps[i]? = some p→p.1=0→p.2=0
theorem BookQ.push {H:List (Nat × PObj)} {nx bk j:Nat} {ps:List (Nat × Nat)} (h:BookQ H nx bk j ps) (o:PObj):BookQ ((nx,o)::H) (nx + 1) bk j ps:=
 ⟨⟨Nat.lt_succ_of_lt h.hbk.1,h.hbk.2.imp fun ex e=>look_push e h.hbk.1⟩,fun h0=>by
  obtain ⟨h1,h2,al,h3⟩:=h.arr h0
  exact ⟨h1,Nat.lt_succ_of_lt h2,al,look_push h3 h2⟩,fun i p hp h0=>by
  obtain ⟨h1,h2,h2',cs,ex,h3,hx,h4⟩:=h.lst i p hp h0
  exact ⟨h1,Nat.lt_succ_of_lt h2,h2',cs,ex,h3,hx,look_push h4 h2⟩,h.dis,h.z0⟩
theorem BookQ.keep {H H':List (Nat × PObj)} {nx nx' bk j:Nat} {ps:List (Nat × Nat)} (h:BookQ H nx bk j ps) (hn:nx≤nx') (hk:∀ id o,id < nx→look H id=some o→look H' id=some o):BookQ H' nx' bk j ps:=
 ⟨⟨Nat.lt_of_lt_of_le h.hbk.1 hn,h.hbk.2.imp fun ex e=>hk _ _ h.hbk.1 e⟩,fun h0=>by
  obtain ⟨h1,h2,al,h3⟩:=h.arr h0
  exact ⟨h1,Nat.lt_of_lt_of_le h2 hn,al,hk _ _ h2 h3⟩,fun i p hp h0=>by
  obtain ⟨h1,h2,h2',cs,ex,h3,hx,h4⟩:=h.lst i p hp h0
  exact ⟨h1,Nat.lt_of_lt_of_le h2 hn,h2',cs,ex,h3,hx,hk _ _ h2 h4⟩,h.dis,h.z0⟩
theorem BookQ.snoc {H H':List (Nat × PObj)} {nx nx' bk j j':Nat} {ps:List (Nat × Nat)} {p:Nat × Nat} {l:List PV} (h:BookQ H nx bk j ps)
  (hp:QW H nx bk p ps l)
  (hn:nx≤nx') (hj:nx≤j') (hj':j' < nx') (hb:∃ ex,look H' bk=some (.cells [.lit (.slice none 0 0),.lit (.slice none 0 0),.lit (.slice none 0 0),.lit (.slice none 0 0),slotP (j',(ps++[p]).length),.lit (.slice none 0 0),.lit (.slice none 0 0),.lit (.slice none 0 0),.lit (.slice none 0 0),.lit (.slice none 0 0),.lit (.slice none 0 0),.lit (.slice none 0 0),.lit (.slice none 0 0)] 44 13 ex false []))
  (ha:∃ al,look H' j'=some (.cells ((ps++[p]).map slq) 23 1 false false al)) (hr:∀ id o,id < nx→id ≠ bk→(ps ≠ []→id ≠ j)→look H id=some o→look H' id=some o):BookQ H' nx' bk j' (ps++[p]):=by
 have hbk:=h.hbk.1
 have hne:∀ (i:Nat) (q:Nat × Nat),(ps++[p])[i]? = some q→(i < ps.length∧ps[i]? = some q)∨(i=ps.length∧q=p):=fun i q hq=>by
  by_cases hi:i < ps.length
  ·rw [List.getElem?_append_left hi] at hq;exact .inl ⟨hi,hq⟩
  ·rw [List.getElem?_append_right (by omega)] at hq
   have:i - ps.length=0:=by
    cases hd:i - ps.length with
    | zero=>rfl
    | succ n=>rw [hd] at hq;simp at hq
   rw [this] at hq
   simp only [List.getElem?_cons_zero,Option.some.injEq] at hq
   exact .inr ⟨by omega,hq.symm⟩
 have hlt:∀ (i:Nat) (q:Nat × Nat),(ps++[p])[i]? = some q→q.1 ≠ 0→q.1 < nx:=fun i q hq h0=>by
  rcases hne i q hq with ⟨_,hq⟩ | ⟨_,rfl⟩
  ·exact (h.lst i q hq h0).2.1
  ·exact (hp.2 h0).2.1
 refine ⟨⟨by omega,hb⟩,fun _=>⟨by omega,hj',ha⟩,fun i q hq h0=>?_,⟨fun i i' q q' hq hq' h0 h0' e=>?_,fun i q hq h0=>?_⟩,fun i q hq h0=>?_⟩
 ·rcases hne i q hq with ⟨_,hq⟩ | ⟨_,rfl⟩
  ·obtain ⟨g1,g2,g2',cs,ex,g3,gx,g4⟩:=h.lst i q hq h0
   exact ⟨g1,by omega,g2',cs,ex,g3,gx,hr _ _ g2 (by omega) (fun hps e=>by
    have:=h.dis.2 i q hq h0;exact this e) g4⟩
  ·obtain ⟨g1,g2,g2',g3,⟨ex,gx,g4⟩,g5⟩:=hp.2 h0
   refine ⟨g1,by omega,g2',l,ex,g3,gx,hr _ _ g2 (by omega) (fun hps e=>?_) g4⟩
   obtain ⟨_,_,al,h3⟩:=h.arr hps
   rw [e] at g4;rw [g4] at h3;cases h3
 ·rcases hne i q hq with ⟨hi,hq1⟩ | ⟨hi,rfl⟩ <;> rcases hne i' q' hq' with ⟨hi',hq1'⟩ | ⟨hi',rfl⟩
  ·exact h.dis.1 i i' q q' hq1 hq1' h0 h0' e
  ·exact absurd e ((hp.2 h0').2.2.2.2.2 q (List.mem_iff_getElem?.2 ⟨i,hq1⟩) h0)
  ·exact absurd e.symm ((hp.2 h0).2.2.2.2.2 q' (List.mem_iff_getElem?.2 ⟨i',hq1'⟩) h0')
  ·omega
 ·have:=hlt i q hq h0;omega
 ·rcases hne i q hq with ⟨_,hq⟩ | ⟨_,rfl⟩
  ·exact h.z0 i q hq h0
  ·exact hp.1 h0
theorem BookQ.off {H:List (Nat × PObj)} {nx bk j:Nat} {ps:List (Nat × Nat)} (h:BookQ H nx bk j ps) {i:Nat} {l:List PV} {ex:Bool} (hi:look H i=some (.cells l 54 1 ex false [])):i ≠ bk∧(ps ≠ []→i ≠ j):=by
 refine ⟨fun e=>?_,fun hp e=>?_⟩
 ·obtain ⟨_,ex,hb⟩:=h.hbk
  rw [← e,hi] at hb;cases hb
 ·obtain ⟨_,_,al,hj⟩:=h.arr hp
  rw [← e,hi] at hj;cases hj
section
variable {C:Ctx} (hm:C.P.follows .mixedOrders=true) (hC:TabOK C.P C.ng C.ts Tryd.tab)
include hm hC
theorem letters_q (b nx bk j:Nat) (ps:List (Nat × Nat)) (p:Nat × Nat) (H:List (Nat × PObj)) (hb:b≤nx) (h:BookQ H nx bk j ps) (hl:ps.length < 2 ^ 30)
  {l:List PV} (hp:QW H nx bk p ps l) :
  PToB C b 37 [.ptr bk 0,slq p] ⟨nx,H⟩ fun r π'=>r=tupP []∧∃ H',π'=⟨nx + 1 + 1,H'⟩∧BookQ H' (nx + 1 + 1) bk (nx + 1) (ps++[p])∧∀ id o,id < nx→id ≠ bk→(ps ≠ []→id ≠ j)→look H id=some o→look H' id=some o:=by
 obtain ⟨hb1,ex,hbk⟩:=h.hbk
 have hb0:Nat.ble b nx=true:=Nat.ble_eq_true_of_le hb
 have hb1':Nat.ble b (nx + 1)=true:=Nat.ble_eq_true_of_le (by omega)
 have hb2:Nat.ble b (nx + 1 + 1)=true:=Nat.ble_eq_true_of_le (by omega)
 have e1:¬ bk=nx + 1:=by omega
 have e2:¬ bk=nx:=by omega
 have nb:∀ x:Int,neB x x=false:=fun x=>by simp [neB]
 refine PToB.of_body hm hC (show Tryd.tab.get 37=some Tryd.c37 from rfl) ?_
 have key:∀ v,slq p=v→(v = .lit (.slice none 0 0)∨v = .loc p.1 0 p.2 p.2)→PRun C b Tryd.c37.body (startP Tryd.c37 [.ptr bk 0,v]) ⟨nx,H⟩ fun x t π'=>(x = .normal∨x = .ret)∧Gh C b t π' fun t π'=>∃ rs,resPs t π' Tryd.c37.results=some rs∧tupP rs=tupP []∧∃ H',π'=⟨nx + 1 + 1,H'⟩∧BookQ H' (nx + 1 + 1) bk (nx + 1) (ps++[p])∧∀ id o,id < nx→id ≠ bk→(ps ≠ []→id ≠ j)→look H id=some o→look H' id=some o:=by
  intro v hs hv
  simp only [SW,Tryd.c37,startP,Nat.reduceAdd,Nat.reduceSub,List.replicate]
  by_cases hps:ps=[]
  ·subst hps
   rw [show slotP (j,([]:List (Nat × Nat)).length) = .lit (.slice none 0 0) from rfl] at hbk
   have e3:slotP (nx + 1,(([]:List (Nat × Nat))++[p]).length) = .loc (nx + 1) 0 1 1:=slotP_loc (by simp)
   have fin:∀ ex',∀ al',look ((nx + 1,PObj.cells [v] 23 1 false false al')::(nx,PObj.cells [v] 23 1 true false [])::setO H bk (.cells [.lit (.slice none 0 0),.lit (.slice none 0 0),.lit (.slice none 0 0),.lit (.slice none 0 0),.loc (nx + 1) 0 1 1,.lit (.slice none 0 0),.lit (.slice none 0 0),.lit (.slice none 0 0),.lit (.slice none 0 0),.lit (.slice none 0 0),.lit (.slice none 0 0),.lit (.slice none 0 0),.lit (.slice none 0 0)] 44 13 ex' false [])) bk=some (.cells [.lit (.slice none 0 0),.lit (.slice none 0 0),.lit (.slice none 0 0),.lit (.slice none 0 0),.loc (nx + 1) 0 1 1,.lit (.slice none 0 0),.lit (.slice none 0 0),.lit (.slice none 0 0),.lit (.slice none 0 0),.lit (.slice none 0 0),.lit (.slice none 0 0),.lit (.slice none 0 0),.lit (.slice none 0 0)] 44 13 ex' false []):=fun ex' al'=>by simp only [look];rw [if_neg e1,if_neg e2,look_setO,if_pos rfl,hbk];rfl
   rcases hv with rfl | rfl
   all_goals
    repeat (refine PRun.wpn rfl ?_;simp only [SW,↓reduceIte,reduceCtorEq,Nat.reduceAdd,Nat.reduceMul,Nat.reduceLeDiff,Nat.reduceLT,hbk,e1,e2,hb0,hb1',hb2,bne_self_eq_false])
    exact .refl ⟨_,rfl,rfl,_,rfl,h.snoc (l:=l) hp (by omega) (by omega) (by omega) ⟨ex,by rw [e3];exact fin _ _⟩ ⟨_,by simp only [SW,List.map_cons,List.map_nil,hs];rfl⟩ (fun id o h1 h2 _ h4=>look_push (look_push (look_set_ne h4 h2) h1) (by omega)),fun id o h1 h2 _ h4=>look_push (look_push (look_set_ne h4 h2) h1) (by omega)⟩
  ·obtain ⟨hbj,hjn,al,hj⟩:=h.arr hps
   have hK:ps.length ≠ 0:=fun e=>hps (List.length_eq_zero_iff.1 e)
   rw [slotP_loc hK] at hbk
   have r1:¬ ps.length + 1≤ps.length:=by omega
   have r2:¬ 140737488355328 < (2 * (ps.length + 1) + 768) * 24:=by omega
   have r4:(ps.map slq).length=ps.length:=List.length_map _
   have r3:=cutB r4
   have r5:¬ j=nx:=by omega
   have hbk2:=fun o=>look_set_ne (c:=j) (o:=o) hbk (by omega)
   have e3:slotP (nx + 1,(ps++[p]).length) = .loc (nx + 1) 0 (ps.length + 1) (ps.length + 1):=by rw [slotP_loc (by simp),List.length_append];rfl
   rcases hv with rfl | rfl
   all_goals
    repeat (refine PRun.wpn rfl ?_;simp only [SW,↓reduceIte,reduceCtorEq,hbk,hbk2,e1,e2,hb0,hb1',hb2,hj,r1,r2,r3,r4,r5,bne_self_eq_false])
    exact .refl ⟨_,rfl,rfl,_,rfl,h.snoc (l:=l) hp (by omega) (by omega) (by omega) ⟨ex,by rw [e3];simp only [look];rw [if_neg e1,if_neg e2,look_setO,if_pos rfl,hbk2];rfl⟩ ⟨_,by simp only [look,if_true,List.map_append,List.map_cons,List.map_nil,hs];rfl⟩ (fun id o h1 h2 h3 h4=>look_push (look_push (look_set_ne (look_set_ne h4 (h3 hps)) h2) h1) (by omega)),fun id o h1 h2 h3 h4=>look_push (look_push (look_set_ne (look_set_ne h4 (h3 hps)) h2) h1) (by omega)⟩
 refine key _ rfl ?_
 unfold slq
 split
 ·exact .inl rfl
 ·exact .inr rfl
theorem word_q (b nx bk j:Nat) (ps:List (Nat × Nat)) (p1 p2:Nat × Nat) (H:List (Nat × PObj)) (hb:b≤nx) (h:BookQ H nx bk j ps) (hl:ps.length + 1 < 2 ^ 30)
  {l1 l2:List PV} (hp1:QW H nx bk p1 ps l1) (hp2:QW H nx bk p2 ps l2) (h12:p1.1 ≠ 0→p2.1 ≠ 0→p1.1 ≠ p2.1) :
  PToB C b 36 [.ptr bk 0,.agg [slq p1,slq p2]] ⟨nx,H⟩ fun r π'=>r=tupP []∧∃ H',π'=⟨nx + 1 + 1 + 1 + 1 + 1,H'⟩∧BookQ H' (nx + 1 + 1 + 1 + 1 + 1) bk (nx + 1 + 1 + 1 + 1) (ps++[p1]++[p2])∧∀ id o,id < nx→id ≠ bk→(ps ≠ []→id ≠ j)→look H id=some o→look H' id=some o:=by
 have hbk:=h.hbk.1
 have hb0:Nat.ble b nx=true:=Nat.ble_eq_true_of_le hb
 have hb1:Nat.ble b (nx + 1)=true:=Nat.ble_eq_true_of_le (by omega)
 have n1:Nat.blt bk (nx + 1)=true:=by rw [Nat.blt_eq];omega
 have n2:Nat.blt nx (nx + 1)=true:=by rw [Nat.blt_eq];omega
 have n3:Nat.blt bk (nx + 1 + 1 + 1)=true:=by rw [Nat.blt_eq];omega
 have n4:Nat.blt nx (nx + 1 + 1 + 1)=true:=by rw [Nat.blt_eq];omega
 have s1:nmP (nx + 1) (slq p1)=true:=nm_slq fun h0=>by have:=(hp1.2 h0).2.1;omega
 have s2:nmP (nx + 1) (slq p2)=true:=nm_slq fun h0=>by have:=(hp2.2 h0).2.1;omega
 have s3:nmP (nx + 1 + 1 + 1) (slq p1)=true:=nm_slq fun h0=>by have:=(hp1.2 h0).2.1;omega
 have s4:nmP (nx + 1 + 1 + 1) (slq p2)=true:=nm_slq fun h0=>by have:=(hp2.2 h0).2.1;omega
 have key:∀ v1 v2,slq p1=v1→slq p2=v2→(v1 = .lit (.slice none 0 0)∨v1 = .loc p1.1 0 p1.2 p1.2)→(v2 = .lit (.slice none 0 0)∨v2 = .loc p2.1 0 p2.2 p2.2)→
   PRun C b Tryd.c36.body (startP Tryd.c36 [.ptr bk 0,.agg [v1,v2]]) ⟨nx,H⟩ fun x t π'=>(x = .normal∨x = .ret)∧Gh C b t π' fun t π'=>∃ rs,resPs t π' Tryd.c36.results=some rs∧tupP rs=tupP []∧∃ H',π'=⟨nx + 1 + 1 + 1 + 1 + 1,H'⟩∧BookQ H' (nx + 1 + 1 + 1 + 1 + 1) bk (nx + 1 + 1 + 1 + 1) (ps++[p1]++[p2])∧∀ id o,id < nx→id ≠ bk→(ps ≠ []→id ≠ j)→look H id=some o→look H' id=some o:=by
  intro v1 v2 hs1 hs2 hv1 hv2
  simp only [SW,Tryd.c36,startP,Nat.reduceAdd,Nat.reduceSub,List.replicate]
  have hL1:=letters_q hm hC (nx + 1) (nx + 1) bk j ps p1 ((nx,.cells [v1,v2] 25 2 true false [])::H) (Nat.le_refl _) (h.push _) (by omega) (l:=l1) ⟨hp1.1,fun h0=>by
   obtain ⟨g1,g2,g3,g4,⟨ex,gx,g5⟩,g6⟩:=hp1.2 h0
   exact ⟨g1,by omega,g3,g4,⟨ex,gx,look_push g5 g2⟩,g6⟩⟩
  have hL2:∀ H2,BookQ H2 (nx + 1 + 1 + 1) bk (nx + 1 + 1) (ps++[p1])→(∀ id o,id < nx + 1→id ≠ bk→(ps ≠ []→id ≠ j)→look ((nx,.cells [v1,v2] 25 2 true false [])::H) id=some o→look H2 id=some o)→_:=fun H2 hI hK=>
   letters_q hm hC (nx + 1 + 1 + 1) (nx + 1 + 1 + 1) bk (nx + 1 + 1) (ps++[p1]) p2 H2 (Nat.le_refl _) hI (by rw [List.length_append];exact hl) (l:=l2) ⟨hp2.1,fun h0=>by
    obtain ⟨g1,g2,g3,g4,⟨ex,gx,g5⟩,g6⟩:=hp2.2 h0
    refine ⟨g1,by omega,g3,g4,⟨ex,gx,hK _ _ (by omega) (h.off g5).1 (h.off g5).2 (look_push g5 g2)⟩,fun q hq h0'=>?_⟩
    rcases List.mem_append.1 hq with hq | hq
    ·exact g6 q hq h0'
    ·obtain rfl:=List.mem_singleton.1 hq;exact h12 h0' h0⟩
  rw [hs1] at hL1 s1 s3
  rw [hs2] at hL2 s2 s4
  have hnj:ps ≠ []→nx ≠ j:=fun h0=>by have:=(h.arr h0).2.1;omega
  rcases hv1 with rfl | rfl <;> rcases hv2 with rfl | rfl
  all_goals
   repeat (refine PRun.wpn rfl ?_;simp only [SW,↓reduceIte,hb0])
   refine .refl ⟨show b≤nx + 1 by omega,PToE.mono (PToB.toE hL1 (by simp only [nmL,nm_ptr,nm_agg,nm_junk,n1,n2,s1,s2,Bool.and_self]) (by omega)) ?_⟩
   rintro r _ ⟨rfl,H2,rfl,hI2,hK2⟩
   have hbox:=hK2 nx _ (by omega) (by omega) hnj (by simp only [look,if_true];rfl)
   refine POps.wp ?_
   simp only [wo_nil,setP,tupP]
   repeat (refine PRun.wpn rfl ?_;simp only [SW,reduceCtorEq,hbox])
   refine .refl ⟨show b≤nx + 1 + 1 + 1 by omega,PToE.mono (PToB.toE (hL2 H2 hI2 hK2) (by simp only [nmL,nm_ptr,nm_agg,nm_tup,nm_junk,n3,n4,s3,s4,Bool.and_self]) (by omega)) ?_⟩
   rintro r' _ ⟨rfl,H3,rfl,hI3,hK3⟩
   refine POps.wp ?_
   simp only [wo_nil,setP,tupP]
   exact .refl ⟨_,rfl,rfl,_,rfl,hI3,fun id o h1 h2 h3 h4=>hK3 id o (by omega) h2 (fun _=>by omega) (hK2 id o (by omega) h2 h3 (look_push h4 h1))⟩
 refine PToB.of_body hm hC (show Tryd.tab.get 36=some Tryd.c36 from rfl) ?_
 refine key _ _ rfl rfl ?_ ?_
 all_goals
  unfold slq
  split
  ·exact .inl rfl
  ·exact .inr rfl
theorem book_own_q (bk nx j:Nat) (ps:List (Nat × Nat)) (H:List (Nat × PObj)) (h:BookQ H nx bk j ps) (hne:ps ≠ []) (hl:ps.length < 2 ^ 30) :
  PToB C nx 42 [.ptr bk 0] ⟨nx,H⟩ fun r π'=>r = .lit (.bool true):=by
 obtain ⟨hb,ex,hbk⟩:=h.hbk
 obtain ⟨hj1,hj2,al,hj⟩:=h.arr hne
 have hK:ps.length ≠ 0:=fun e=>hne (List.length_eq_zero_iff.1 e)
 rw [slotP_loc hK] at hbk
 dsimp only at hbk
 have m1:Nat.blt bk nx=true:=by rw [Nat.blt_eq];exact hb
 have m2:Nat.blt j nx=true:=by rw [Nat.blt_eq];exact hj2
 have hb:bk + 1≤nx:=hb
 have o62:=own62 hm hC
 have o63:=own63 hm hC
 have o64:=own64 hm hC
 have o65:=own65 hm hC
 have o66:=own_q hm hC (bk + 1) nx nx j ps H hb (Nat.le_refl _) h.dis hl (fun i p hp=>by
  by_cases h0:p.1=0
  ·have:=h.z0 i p hp h0;omega
  ·exact (h.lst i p hp h0).2.2.1) h.z0 ⟨⟨hj2,_,_,_,_,_,hj⟩,fun i p hp h0=>by
  obtain ⟨g1,g2,g3,cs,ex,g4,gx,g5⟩:=h.lst i p hp h0
  exact ⟨g1,g2,cs,ex,g4,gx,g5,fun _ _ hf=>hf.elim⟩⟩
 have o67:=own67 hm hC
 have o68:=own68 hm hC
 have o69:=own69 hm hC
 have o70:=own70 hm hC
 have o71:=own71 hm hC
 have o72:=own72 hm hC
 have o73:=own73 hm hC
 have o74:=own74 hm hC
 refine PToB.of_body hm hC (show Tryd.tab.get 42=some Tryd.c42 from rfl) ?_
 simp only [SW,Tryd.c42,startP,Nat.reduceAdd,Nat.reduceSub,List.replicate]
 repeat (refine PRun.wpn rfl ?_;simp only [SW,hbk])
 refine .refl ⟨Nat.le_refl _,PFun.to o62 rfl (POps.wp ?_)⟩
 simp only [SW,hbk]
 refine .refl ⟨Nat.le_refl _,PFun.to o63 rfl (POps.wp ?_)⟩
 simp only [SW,hbk]
 refine .refl ⟨Nat.le_refl _,PFun.to o64 rfl (POps.wp ?_)⟩
 simp only [SW,hbk]
 refine .refl ⟨Nat.le_refl _,PFun.to o65 rfl (POps.wp ?_)⟩
 simp only [SW,hbk]
 refine .refl ⟨Nat.le_refl _,PToE.mono (PToB.toE o66 (by simp only [nmL,nmP,Bool.and_self,m1,m2]) (Nat.le_refl _)) ?_⟩
 rintro r ⟨nx',H'⟩ ⟨rfl,hK,hn'⟩
 simp only at hK hn'
 have hbk':=hK bk _ (by omega) hbk
 refine POps.wp ?_
 simp only [SW,hbk']
 refine .refl ⟨hn',PFun.to o67 rfl (POps.wp ?_)⟩
 simp only [SW,hbk']
 refine .refl ⟨hn',PFun.to o68 rfl (POps.wp ?_)⟩
 simp only [SW,hbk']
 refine .refl ⟨hn',PFun.to o69 rfl (POps.wp ?_)⟩
 simp only [SW,hbk']
 refine .refl ⟨hn',PFun.to o70 rfl (POps.wp ?_)⟩
 simp only [SW,hbk']
 refine .refl ⟨hn',PFun.to o71 rfl (POps.wp ?_)⟩
 simp only [SW,hbk']
 refine .refl ⟨hn',PFun.to o72 rfl (POps.wp ?_)⟩
 simp only [SW,hbk']
 refine .refl ⟨hn',PFun.to o73 rfl (POps.wp ?_)⟩
 simp only [SW,hbk']
 refine .refl ⟨hn',PFun.to o74 rfl (POps.wp ?_)⟩
 simp only [SW]
 repeat (refine PRun.wpn rfl ?_;simp only [wp,or_true,true_and,reduceCtorEq])
 skip
 exact .refl ⟨_,rfl,rfl⟩
end
end Go.Proofs.YtkldgoapompinaaDoor.Ai
namespace Go.Proofs.YtkldgoapompinaaDoor.Ai
set_option linter.unusedSimpArgs false
open Go
set_option linter.unusedVariables false
set_option linter.unusedSectionVars false
set_option maxRecDepth 10000
set_option maxHeartbeats 4000000
theorem pureL_L16 (l:List Int):pureL (L16 l)=true:=by
 induction l with
 | nil=>rfl
 | cons n l ih=>simp only [SW,L16,List.map_cons] at ih ⊢;exact ih
theorem allPlain_L16 (l:List Int):allPlain (L16 l)=true:=by
 induction l with
 | nil=>rfl
 | cons n l ih=>simp only [L16,List.map_cons,allPlain,plainP] at ih ⊢;exact ih
theorem L16_take (l:List Int):(L16 l).take l.length=L16 l:=by rw [← L16_len l,List.take_length]
theorem L16_cut (l:List Int):cutP l.length (L16 l)=some (L16 l):=cutB (L16_len l)
theorem renL_L16 (ρ:List (Nat × Nat)) (l:List Int):renL ρ (L16 l)=L16 l:=renL_pure ρ _ (pureL_L16 l)
theorem frzL_L16 (i:Nat) (cs:List PV) (l:List Int):frzL i cs (L16 l)=L16 l:=frzL_pure i cs _ (pureL_L16 l)
theorem free_L16 (l:List Int):freeLv (L16 l)=true:=by
 induction l with
 | nil=>rfl
 | cons n l ih=>simp only [L16,List.map_cons,freeLv,freePv,Bool.true_and] at ih ⊢;exact ih
def one1 (l:List Int):PW:=⟨1,[(0,.cells (L16 l) 54 1 (decide (l=[])) false [])]⟩
section
variable {C:Ctx} (hm:C.P.follows .mixedOrders=true) (hC:TabOK C.P C.ng C.ts Tryd.tab)
include hm hC
theorem clone_g (l:List Int) (hl:l.length < 2 ^ 40):PGen C 52 [.sl (L16 l) l.length] (.loc 0 0 l.length l.length) (one1 l):=by
 refine PGen.body hm hC (show Tryd.tab.get 52=some Tryd.c52 from rfl) ?_
 simp only [SW,Tryd.c52,startP,Nat.reduceAdd,Nat.reduceSub,List.replicate]
 by_cases h0:l=[]
 ·subst h0
  repeat (refine PRun.wpn rfl ?_;simp only [SW,↓reduceIte,reduceCtorEq])
  exact Gh.mr (false::false::true::false::false::false::false::false::[]) [(0,0)] 1 rfl ⟨_,rfl,.refl _,rfl⟩
 ·have h1:l.length ≠ 0:=fun e=>h0 (List.length_eq_zero_iff.1 e)
  have h2:¬ 140737488355328 < (2 * l.length + 768) * 2:=by omega
  have h3:¬ l.length≤0:=by omega
  repeat (refine PRun.wpn rfl ?_;simp only [SW,↓reduceIte,reduceCtorEq,Nat.reduceAdd,L16_cut,allPlain_L16,h2,h3])
  refine Gh.mr (false::false::true::false::false::false::false::false::[]) [(1,0)] 1 rfl ⟨_,rfl,.refl _,?_⟩
  simp only [↓reduceIte,reduceCtorEq,renO,renH,renA,lkN,renL_L16,one1,decide_eq_false h0]
end
end Go.Proofs.YtkldgoapompinaaDoor.Ai
namespace Go.Proofs.YtkldgoapompinaaDoor.Ai
set_option linter.unusedSimpArgs false
open Go
set_option linter.unusedVariables false
set_option linter.unusedSectionVars false
set_option maxRecDepth 10000
set_option maxHeartbeats 4000000
theorem mapS_drop {ls:List (List Int)} {i:Nat} (h:i < ls.length):(ls.map szU).drop i = .sz (L16 ls[i]) ls[i].length::(ls.drop (i + 1)).map szU:=by
 rw [← List.map_drop,List.drop_eq_getElem_cons h];rfl
theorem flat_next {ls:List (List Int)} {i:Nat} (h:i < ls.length):(ls.take (i + 1)).flatten=(ls.take i).flatten++ls[i]:=by
 rw [List.take_succ_eq_append_getElem h,List.flatten_append];simp
theorem flat_le (ls:List (List Int)) (i:Nat):(ls.take i).flatten.length≤ls.flatten.length:=by
 have h:ls.flatten=(ls.take i).flatten++(ls.drop i).flatten:=by rw [← List.flatten_append,List.take_append_drop]
 rw [h,List.length_append];omega
theorem L16_append (a b:List Int):L16 (a++b)=L16 a++L16 b:=by simp [L16]
theorem fillL_step (a l:List Int) (k:Nat) (h:l.length≤k) (z:PV):spliceP (L16 a++List.replicate k z) a.length (L16 l)=some (L16 (a++l)++List.replicate (k - l.length) z):=by
 rw [spliceP_eq _ _ _ (by simp only [List.length_append,L16_len,List.length_replicate];omega)]
 have h1:(L16 a++List.replicate k z).take a.length=L16 a:=by rw [List.take_append_of_le_length (by rw [L16_len];exact Nat.le_refl _),L16_take]
 have h2:(L16 a++List.replicate k z).drop (a.length + (L16 l).length)=List.replicate (k - l.length) z:=by
  rw [List.drop_append,List.drop_of_length_le (by rw [L16_len];omega),List.nil_append,L16_len,L16_len,List.drop_replicate]
  congr 1;omega
 simp only [h1,h2,L16_append,List.append_assoc]
section
variable {C:Ctx} (hm:C.P.follows .mixedOrders=true) (hC:TabOK C.P C.ng C.ts Tryd.tab)
include hm hC
theorem grow_g (n:Nat) (h0:0 < n) (hn:n < 2 ^ 41) (π:PW) {A:PV→PW→Prop} (hA:A (.loc π.next 0 0 n) (π.push (.cells (List.replicate n (.lit (.int .u16 0))) 54 1 false false []))):PTo C 82 [.lit (.slice none 0 0),.lit (.int .i64 (n:Nat))] π A:=by
 refine PTo.of_body hm hC (show Tryd.tab.get 82=some Tryd.c82 from rfl) ?_
 simp only [SW,Tryd.c82,startP,Nat.reduceAdd,Nat.reduceSub,List.replicate]
 have h1:=ltB_f (show ¬ (n:Int) < 0 by omega)
 have e0:IntKind.i64.wrap 0=0:=rfl
 have e1:IntKind.i64.wrap (n:Int)=n:=wrap64 (by omega) (by omega)
 have e2:(n:Int)≤140737488355328:=by omega
 have e3:(n:Int) * 2≤140737488355328:=by omega
 have h2:¬ n=0:=by omega
 have h3:¬ n≤0:=by omega
 have h4:¬ 140737488355328 < (2 * n + 768) * 2:=by omega
 have h5:=ltB_t (show (0:Int) < (n:Int) by omega)
 repeat (refine PRun.wpn rfl ?_;simp only [SW,↓reduceIte,reduceCtorEq,h1,e0,e1,e2,e3,h2,h3,h4,h5,allPlain_rep (p:=.lit (.int .u16 0)) rfl,bne_self_eq_false])
 exact ⟨_,rfl,hA⟩
theorem grow_0:PFun C 82 [.lit (.slice none 0 0),.lit (.int .i64 0)] (.lit (.slice none 0 0)):=by
 have z0:=ltB_f (show ¬ (0:Int) < 0 by omega)
 have e0:IntKind.i64.wrap 0=0:=rfl
 refine PFun.body hm hC (show Tryd.tab.get 82=some Tryd.c82 from rfl) rfl ?_
 simp only [SW,Tryd.c82,startP,Nat.reduceAdd,Nat.reduceSub,List.replicate]
 repeat (refine PRun.wpn rfl ?_;simp only [SW,↓reduceIte,reduceCtorEq,z0,e0])
 exact .refl ⟨_,rfl,.refl _⟩
theorem concat_sum (ls:List (List Int)) (hl:ls.length < 2 ^ 40) (hs:ls.flatten.length < 2 ^ 40) {i:Nat} (h1:i < ls.length):IntKind.i64.wrap (((ls.take i).flatten.length:Nat) + (ls[i].length:Nat))=(((ls.take (i + 1)).flatten.length:Nat):Int):=by
 have h2:=flat_le ls (i + 1)
 rw [flat_next h1,List.length_append] at h2
 rw [wrap64 (by omega) (by omega),flat_next h1,List.length_append];omega
theorem concat_g (ls:List (List Int)) (h0:ls.flatten ≠ []) (hl:ls.length < 2 ^ 40) (hs:ls.flatten.length < 2 ^ 40):PGen C 53 [.sl (ls.map szU) ls.length] (.loc 0 0 ls.flatten.length ls.flatten.length) ⟨1,[(0,.cells (L16 ls.flatten) 54 1 false false [])]⟩:=by
 have hp0:0 < ls.flatten.length:=List.length_pos_iff.2 h0
 refine PGen.body hm hC (show Tryd.tab.get 53=some Tryd.c53 from rfl) ?_
 simp only [SW,Tryd.c53,startP,Nat.reduceAdd,Nat.reduceSub,List.replicate]
 repeat (refine PRun.wpn rfl ?_;simp only [SW,reduceCtorEq])
 refine PRun.gh (Gh.mask mkWtB8 ?_)
 simp only [mkWtB8,↓reduceIte,Bool.false_eq_true,maskP]
 refine PRun.loopG (fun n t π=>∃ i:Nat,t=(.sl (ls.map szU) ls.length::.junk::.junk::.lit (.int .i64 ((ls.take i).flatten.length:Nat))::.junk::.junk::.junk::.junk::.junk::.sl (ls.map szU) ls.length::.lit (.int .i64 (ls.length:Nat))::.lit (.int .i64 (i:Nat))::.junk::.junk::.junk::.junk::.junk::.junk::.junk::.junk::.junk::.junk::.junk::.junk::.junk::.junk::.junk::.junk::.junk::.junk::.junk::.junk::.junk::.junk::.junk::.junk::[])∧i≤ls.length∧n=ls.length - i∧π=⟨0,[]⟩) ?_ ls.length _ _ ⟨0,rfl,by omega,rfl,rfl⟩
 rintro n t π ⟨i,rfl,hi,rfl,rfl⟩
 by_cases hlt:(i:Int) < (ls.length:Nat)
 ·have h1:i < ls.length:=by omega
  have e1:=concat_sum hm hC ls hl hs h1
  have e2:=ltB_f (show ¬ (((ls.take (i + 1)).flatten.length:Nat):Int) < 0 by omega)
  have w1:IntKind.i64.wrap (((i:Nat):Int) + 1)=((i + 1:Nat):Int):=by rw [wrap64 (by omega) (by omega)];omega
  repeat (refine PRun.wpn rfl ?_;simp only [SW,↓reduceIte,ltB_t hlt,hlt,mapS_drop h1,e1,e2,w1])
  refine Gh.mask mkWtB8 ?_
  exact ⟨ls.length - (i + 1),by omega,i + 1,rfl,by omega,rfl,rfl⟩
 ·obtain rfl:i=ls.length:=by omega
  repeat (refine PRun.wpn rfl ?_;simp only [SW,↓reduceIte,ltB_f hlt])
  rw [List.take_length]
  refine .refl (PTo.toE (grow_g hm hC ls.flatten.length hp0 (by omega) _ (POps.wp ?_)) (Nat.zero_le _))
  simp only [SW]
  repeat (refine PRun.wpn rfl ?_;simp only [SW,reduceCtorEq])
  refine PRun.gh (Gh.mask mkWtB9 ?_)
  simp only [mkWtB9,↓reduceIte,Bool.false_eq_true,maskP]
  refine PRun.loopG (fun n t π=>∃ i:Nat,t=(.junk::.junk::.junk::.junk::.junk::.junk::.loc 0 0 (ls.take i).flatten.length ls.flatten.length::.junk::.junk::.junk::.junk::.junk::.junk::.junk::.junk::.junk::.junk::.junk::.junk::.junk::.junk::.junk::.junk::.junk::.junk::.sl (ls.map szU) ls.length::.lit (.int .i64 (ls.length:Nat))::.lit (.int .i64 (i:Nat))::.junk::.junk::.junk::.junk::.junk::.junk::.junk::.junk::[])∧i≤ls.length∧n=ls.length - i∧π=⟨1,[(0,.cells (L16 (ls.take i).flatten++List.replicate (ls.flatten.length - (ls.take i).flatten.length) (.lit (.int .u16 0))) 54 1 false false [])]⟩) ?_ ls.length _ _ ⟨0,rfl,by omega,rfl,rfl⟩
  clear hi hlt
  rintro n t π ⟨i,rfl,hi,rfl,rfl⟩
  by_cases hlt:(i:Int) < (ls.length:Nat)
  ·have h1:i < ls.length:=by omega
   have h2:=flat_le ls (i + 1)
   rw [flat_next h1,List.length_append] at h2
   have w1:IntKind.i64.wrap (((i:Nat):Int) + 1)=((i + 1:Nat):Int):=by rw [wrap64 (by omega) (by omega)];omega
   by_cases h3:ls[i].length=0
   ·have h4:ls[i]=[]:=List.length_eq_zero_iff.1 h3
    have h5:(ls.take i).flatten=(ls.take (i + 1)).flatten:=by rw [flat_next h1,h4,List.append_nil]
    have h6:=flat_le ls i
    repeat (refine PRun.wpn rfl ?_;simp only [SW,↓reduceIte,ltB_t hlt,hlt,mapS_drop h1,h3,h6,w1])
    refine Gh.mask mkWtB9 ?_
    exact ⟨ls.length - (i + 1),by omega,i + 1,by rw [h5];rfl,by omega,rfl,by rw [h5]⟩
   ·have h6:=fillL_step (ls.take i).flatten ls[i] _ (show ls[i].length≤ls.flatten.length - (ls.take i).flatten.length by omega) (.lit (.int .u16 0))
    repeat (refine PRun.wpn rfl ?_;simp only [SW,↓reduceIte,ltB_t hlt,hlt,mapS_drop h1,h2,h3,L16_cut,allPlain_L16,h6,w1])
    refine Gh.mask mkWtB9 ?_
    exact ⟨ls.length - (i + 1),by omega,i + 1,by rw [flat_next h1,List.length_append];rfl,by omega,rfl,by rw [flat_next h1,List.length_append,Nat.sub_sub]⟩
  ·obtain rfl:i=ls.length:=by omega
   repeat (refine PRun.wpn rfl ?_;simp only [SW,↓reduceIte,reduceCtorEq,ltB_f hlt])
   refine Gh.mr (false::false::true::false::false::false::false::false::false::false::false::false::false::false::false::false::false::false::false::false::false::false::false::false::false::false::false::false::false::false::false::false::false::false::false::false::[]) [(0,0)] 1 rfl ⟨_,rfl,?_,?_⟩
   ·simp only [SW,↓reduceIte,List.take_length];exact .refl _
   ·simp only [SW,↓reduceIte,List.take_length,Nat.sub_self,List.replicate,renL_L16]
theorem concat_0 (ls:List (List Int)) (h0:ls.flatten=[]) (hl:ls.length < 2 ^ 40):PFun C 53 [.sl (ls.map szU) ls.length] (.lit (.slice none 0 0)):=by
 have hz:∀ i,(ls.take i).flatten.length=0:=fun i=>by have:=flat_le ls i;rw [h0] at this;simpa using this
 have hs:ls.flatten.length < 2 ^ 40:=by rw [h0];decide
 refine PFun.body hm hC (show Tryd.tab.get 53=some Tryd.c53 from rfl) rfl ?_
 simp only [SW,Tryd.c53,startP,Nat.reduceAdd,Nat.reduceSub,List.replicate]
 repeat (refine PRun.wpn rfl ?_;simp only [SW,reduceCtorEq])
 refine PRun.gh (Gh.mask mkWtB8 ?_)
 simp only [mkWtB8,↓reduceIte,Bool.false_eq_true,maskP]
 refine PRun.loopG (fun n t π=>∃ i:Nat,t=(.sl (ls.map szU) ls.length::.junk::.junk::.lit (.int .i64 ((ls.take i).flatten.length:Nat))::.junk::.junk::.junk::.junk::.junk::.sl (ls.map szU) ls.length::.lit (.int .i64 (ls.length:Nat))::.lit (.int .i64 (i:Nat))::.junk::.junk::.junk::.junk::.junk::.junk::.junk::.junk::.junk::.junk::.junk::.junk::.junk::.junk::.junk::.junk::.junk::.junk::.junk::.junk::.junk::.junk::.junk::.junk::[])∧i≤ls.length∧n=ls.length - i∧π=⟨0,[]⟩) ?_ ls.length _ _ ⟨0,rfl,by omega,rfl,rfl⟩
 rintro n t π ⟨i,rfl,hi,rfl,rfl⟩
 by_cases hlt:(i:Int) < (ls.length:Nat)
 ·have h1:i < ls.length:=by omega
  have e1:=concat_sum hm hC ls hl hs h1
  have e2:=ltB_f (show ¬ (((ls.take (i + 1)).flatten.length:Nat):Int) < 0 by omega)
  have w1:IntKind.i64.wrap (((i:Nat):Int) + 1)=((i + 1:Nat):Int):=by rw [wrap64 (by omega) (by omega)];omega
  repeat (refine PRun.wpn rfl ?_;simp only [SW,↓reduceIte,ltB_t hlt,hlt,mapS_drop h1,e1,e2,w1])
  refine Gh.mask mkWtB8 ?_
  exact ⟨ls.length - (i + 1),by omega,i + 1,rfl,by omega,rfl,rfl⟩
 ·obtain rfl:i=ls.length:=by omega
  have hz':=hz ls.length
  rw [hz']
  repeat (refine PRun.wpn rfl ?_;simp only [SW,↓reduceIte,ltB_f hlt])
  refine .refl (PFun.to (grow_0 hm hC) rfl (POps.wp ?_))
  simp only [SW]
  repeat (refine PRun.wpn rfl ?_;simp only [SW,reduceCtorEq])
  refine PRun.gh (Gh.mask mkWtB9 ?_)
  simp only [mkWtB9,↓reduceIte,Bool.false_eq_true,maskP]
  refine PRun.loopG (fun n t π=>∃ i:Nat,t=(.junk::.junk::.junk::.junk::.junk::.junk::.lit (.slice none 0 0)::.junk::.junk::.junk::.junk::.junk::.junk::.junk::.junk::.junk::.junk::.junk::.junk::.junk::.junk::.junk::.junk::.junk::.junk::.sl (ls.map szU) ls.length::.lit (.int .i64 (ls.length:Nat))::.lit (.int .i64 (i:Nat))::.junk::.junk::.junk::.junk::.junk::.junk::.junk::.junk::[])∧i≤ls.length∧n=ls.length - i∧π=⟨0,[]⟩) ?_ ls.length _ _ ⟨0,rfl,by omega,rfl,rfl⟩
  clear hi hlt
  rintro n t π ⟨i,rfl,hi,rfl,rfl⟩
  by_cases hlt:(i:Int) < (ls.length:Nat)
  ·have h1:i < ls.length:=by omega
   have w1:IntKind.i64.wrap (((i:Nat):Int) + 1)=((i + 1:Nat):Int):=by rw [wrap64 (by omega) (by omega)];omega
   have h3:ls[i].length=0:=by
    have:=hz (i + 1)
    rw [flat_next h1,List.length_append] at this;omega
   repeat (refine PRun.wpn rfl ?_;simp only [SW,↓reduceIte,ltB_t hlt,hlt,mapS_drop h1,h3,w1])
   refine Gh.mask mkWtB9 ?_
   exact ⟨ls.length - (i + 1),by omega,i + 1,rfl,by omega,rfl,rfl⟩
  ·repeat (refine PRun.wpn rfl ?_;simp only [SW,↓reduceIte,reduceCtorEq,ltB_f hlt])
   exact .refl ⟨_,rfl,.refl _⟩
end
end Go.Proofs.YtkldgoapompinaaDoor.Ai
namespace Go.Proofs.YtkldgoapompinaaDoor.Ai
set_option linter.unusedSimpArgs false
open Go
set_option linter.unusedVariables false
set_option linter.unusedSectionVars false
set_option maxRecDepth 10000
set_option maxHeartbeats 4000000
structure Wd' where
 stem:List Int
 loop:List Int
theorem shL_L16 (k:Nat) (l:List Int):shL k (L16 l)=L16 l:=by
 induction l with
 | nil=>rfl
 | cons n l ih=>simp only [L16,List.map_cons,shL,shP] at ih ⊢;rw [ih]
theorem wk_cutL (l:List Int) (a k:Nat) (h:a + k≤l.length):Wk (.sl ((L16 l).drop a) k) (.sl (L16 ((l.drop a).take k)) ((l.drop a).take k).length):=by
 have e:((l.drop a).take k).length=k:=by simp;omega
 rw [e]
 refine Wk.sl (ext:=(L16 l).drop (a + k)) ?_
 have:(L16 l).drop a=L16 ((l.drop a).take k)++(L16 l).drop (a + k):=by
  simp only [L16,← List.map_drop,← List.map_append]
  congr 1
  rw [← List.drop_drop,List.take_append_drop]
 rw [this]
 exact WkL.refl _
theorem wk_cutZ (l:List Int) (a k:Nat) (h:a + k≤l.length):Wk (.sl ((L16 l).drop a) k) (szU ((l.drop a).take k)):=fun I η v hv=>Wk.sl_sz I η v (wk_cutL l a k h I η v hv)
theorem perFrom_le (l:List Int):∀ k n,n + k≤l.length→perFrom l n k≤l.length
 | 0,n,_=>Nat.le_refl _
 | k + 1,n,h=>by
  unfold perFrom
  split
  ·omega
  ·exact perFrom_le l k (n + 1) (by omega)
theorem per_le (l:List Int):per l≤l.length:=by
 unfold per
 by_cases h:l.length=0
 ·rw [h];show perFrom l 1 0≤0;unfold perFrom;omega
 ·exact perFrom_le l _ _ (by omega)
theorem perFrom_pos (l:List Int) (hl:0 < l.length):∀ k n,0 < n→0 < perFrom l n k
 | 0,n,_=>hl
 | k + 1,n,h=>by
  unfold perFrom
  split
  ·exact h
  ·exact perFrom_pos l hl k (n + 1) (by omega)
theorem per_pos (l:List Int) (hl:0 < l.length):0 < per l:=perFrom_pos l hl _ _ (by omega)
def rollF (stem loop:List Int) (p:Nat):Nat→Nat→Nat × Nat
 | 0,t=>(0,t)
 | s + 1,t=>if stem[s]? = loop[(t + p - 1) % p]? then rollF stem loop p s ((t + p - 1) % p) else (s + 1,t)
def nStem (stem loop:List Int):List Int:=if loop=[] then [] else stem.take (rollF stem loop (per loop) stem.length 0).1
def nLoop (stem loop:List Int):List Int:=if loop=[] then [] else (loop.take (per loop)).drop (rollF stem loop (per loop) stem.length 0).2++loop.take (rollF stem loop (per loop) stem.length 0).2
def one2 (a b:List Int):PW:=⟨3,[(1,.cells (L16 b) 54 1 false false []),(0,.cells (L16 a) 54 1 (decide (a=[])) false []),(2,.cells [.loc 0 0 a.length a.length,.loc 1 0 b.length b.length] 25 2 true false [])]⟩
def oneN (b:List Int):PW:=⟨2,[(0,.cells (L16 b) 54 1 false false []),(1,.cells [.lit (.slice none 0 0),.loc 0 0 b.length b.length] 25 2 true false [])]⟩
theorem shP_loc (k j o n c:Nat):shP k (.loc j o n c) = .loc (j + k) o n c:=by simp only [shP]
section
variable {C:Ctx} (hm:C.P.follows .mixedOrders=true) (hC:TabOK C.P C.ng C.ts Tryd.tab)
include hm hC
theorem clone_n:PFun C 52 [.lit (.slice none 0 0)] (.lit (.slice none 0 0)):=by
 refine PFun.body hm hC (show Tryd.tab.get 52=some Tryd.c52 from rfl) rfl ?_
 simp only [SW,Tryd.c52,startP,Nat.reduceAdd,Nat.reduceSub,List.replicate]
 repeat (refine PRun.wpn rfl ?_;simp only [SW,↓reduceIte,reduceCtorEq])
 exact .refl ⟨_,rfl,.refl _⟩
theorem normal_S (stem loop:List Int) (h0:loop ≠ []) (h1:stem.length < 2 ^ 38) (h2:loop.length < 2 ^ 38):PGen C 16 [.agg [.sl (L16 stem) stem.length,.sl (L16 loop) loop.length]] (.agg [.loc 0 0 (nStem stem loop).length (nStem stem loop).length,.loc 1 0 (nLoop stem loop).length (nLoop stem loop).length]) (one2 (nStem stem loop) (nLoop stem loop)):=by
 have hl0:loop.length ≠ 0:=fun e=>h0 (List.length_eq_zero_iff.1 e)
 refine PGen.body hm hC (show Tryd.tab.get 16=some Tryd.c16 from rfl) ?_
 simp only [SW,Tryd.c16,startP,Nat.reduceAdd,Nat.reduceSub,List.replicate]
 repeat (refine PRun.wpn rfl ?_;simp only [SW,↓reduceIte,reduceCtorEq,Nat.reduceAdd,eqB_f (show ¬ ((loop.length:Nat):Int)=0 by omega)])
 have p0:=per_pos loop (by omega)
 have p1:=per_le loop
 refine PDraw.stage (Nat.zero_le _) rfl ?_
 simp only [SW,↓reduceIte,reduceCtorEq,Nat.reduceAdd]
 refine PDE.pure ((period_ok hm hC loop (by omega)).args (.cons .sl_sz .nil)) rfl ?_
 refine PDraw.last (Nat.zero_le _) rfl ?_
 simp only [SW,↓reduceIte,Nat.reduceAdd]
 have p2:((per loop:Nat):Int)≤(loop.length:Nat):=by omega
 have p3:((per loop:Nat):Int) ≠ 0:=by omega
 try dsimp only
 simp only [SW,↓reduceIte,p2]
 repeat (refine PRun.wpn rfl ?_;simp only [SW,reduceCtorEq])
 refine PRun.cut (fun x t π=>x = .exit 0∧∃ (s u:Nat),t=(.junk::.ptr 0 0::.ptr 1 0::.sl (L16 stem) stem.length::.sl (L16 loop) (per loop)::.lit (.int .i64 (s:Nat))::.lit (.int .i64 (u:Nat))::.junk::.junk::.junk::.junk::.junk::.junk::.junk::.junk::.junk::.junk::.junk::.junk::.junk::.junk::.junk::.junk::.junk::.junk::.junk::.junk::.junk::.junk::.junk::.junk::.junk::.junk::.junk::.junk::.junk::.junk::.junk::.junk::.junk::.junk::.junk::.junk::.junk::.junk::.junk::.junk::.junk::.junk::.junk::.junk::.junk::.junk::.junk::.junk::.junk::.junk::.junk::.junk::.junk::.junk::.junk::.junk::.junk::.junk::.junk::[])∧s≤stem.length∧u < per loop∧rollF stem loop (per loop) stem.length 0=(s,u)∧π=⟨2,[(1,.cells [.lit (.slice none 0 0),.lit (.slice none 0 0)] 25 2 true false []),(0,.cells [.sl (L16 stem) stem.length,.sl (L16 loop) loop.length] 25 2 true false [])]⟩) ?_ ?_
 ·refine PRun.gh (Gh.mask mkWtB10 ?_)
  refine PRun.loopG (fun n t π=>∃ (s u:Nat),t=(.junk::.ptr 0 0::.ptr 1 0::.sl (L16 stem) stem.length::.sl (L16 loop) (per loop)::.lit (.int .i64 (s:Nat))::.lit (.int .i64 (u:Nat))::.junk::.junk::.junk::.junk::.junk::.junk::.junk::.junk::.junk::.junk::.junk::.junk::.junk::.junk::.junk::.junk::.junk::.junk::.junk::.junk::.junk::.junk::.junk::.junk::.junk::.junk::.junk::.junk::.junk::.junk::.junk::.junk::.junk::.junk::.junk::.junk::.junk::.junk::.junk::.junk::.junk::.junk::.junk::.junk::.junk::.junk::.junk::.junk::.junk::.junk::.junk::.junk::.junk::.junk::.junk::.junk::.junk::.junk::.junk::[])∧s≤stem.length∧u < per loop∧n=s∧rollF stem loop (per loop) s u=rollF stem loop (per loop) stem.length 0∧π=⟨2,[(1,.cells [.lit (.slice none 0 0),.lit (.slice none 0 0)] 25 2 true false []),(0,.cells [.sl (L16 stem) stem.length,.sl (L16 loop) loop.length] 25 2 true false [])]⟩) ?_ stem.length _ _ ⟨stem.length,0,rfl,by omega,by omega,rfl,rfl,rfl⟩
  rintro n t π ⟨s,u,rfl,hs,hu,hn,hr,rfl⟩
  repeat (refine PRun.wpn rfl ?_;simp only [wp])
  refine PDraw.last (Nat.zero_le _) rfl ?_
  cases s with
  | zero=>
   have e0:¬ (0:Int) < 0:=by omega
   try dsimp only
   simp only [SW,ltB_f e0]
   repeat (refine PRun.wpn rfl ?_;simp only [SW,↓reduceIte])
   refine Gh.mask mkWtB10 ?_
   exact ⟨0,u,rfl,by omega,hu,hr.symm,rfl⟩
  | succ s=>
   have e0:(0:Int) < ((s + 1:Nat):Int):=by omega
   have e1:IntKind.i64.wrap (((s + 1:Nat):Int) - 1)=(s:Nat):=by rw [wrap64 (by omega) (by omega)];omega
   have e2:(s:Int) < (stem.length:Nat):=by omega
   have e3:IntKind.i64.wrap ((u:Nat) + (per loop:Nat))=((u + per loop:Nat):Int):=by rw [wrap64 (by omega) (by omega)];omega
   have e4:IntKind.i64.wrap (((u + per loop:Nat):Int) - 1)=((u + per loop - 1:Nat):Int):=by rw [wrap64 (by omega) (by omega)];omega
   have e5:(u + per loop - 1) % per loop < per loop:=Nat.mod_lt _ p0
   have e6:(((u + per loop - 1) % per loop:Nat):Int) < (per loop:Nat):=by omega
   have e7:s < stem.length:=by omega
   have e8:(u + per loop - 1) % per loop < loop.length:=by omega
   have e9:stem[s]? = loop[(u + per loop - 1) % per loop]?↔stem[s]=loop[(u + per loop - 1) % per loop]:=by rw [List.getElem?_eq_getElem e7,List.getElem?_eq_getElem e8];simp
   simp only [rollF] at hr
   try dsimp only
   simp only [SW,↓reduceIte,Nat.reduceAdd,ltB_t e0,e1,e2,L16_drop e7,e3,e4,bi_rem p3,tmod_nat,e6,L16_drop e8]
   by_cases he:stem[s]=loop[(u + per loop - 1) % per loop]
   ·repeat (refine PRun.wpn rfl ?_;simp only [SW,↓reduceIte,eqB_t he,e1,e3,e4,bi_rem p3,tmod_nat])
    rw [if_pos (e9.2 he)] at hr
    refine Gh.mask mkWtB10 ?_
    exact ⟨s,by omega,s,(u + per loop - 1) % per loop,rfl,by omega,e5,rfl,hr,rfl⟩
   ·repeat (refine PRun.wpn rfl ?_;simp only [SW,↓reduceIte,eqB_f he])
    rw [if_neg (fun h=>he (e9.1 h))] at hr
    refine Gh.mask mkWtB10 ?_
    exact ⟨s + 1,u,rfl,hs,hu,hr.symm,rfl⟩
 ·rintro x t π ⟨rfl,s,u,rfl,hs,hu,hr,rfl⟩
  have fin1:nStem stem loop=stem.take s:=by unfold nStem;rw [if_neg h0,hr]
  have fin2:nLoop stem loop=(loop.take (per loop)).drop u++loop.take u:=by unfold nLoop;rw [if_neg h0,hr]
  have hne:(loop.take (per loop)).drop u++loop.take u ≠ []:=fun e=>by
   have:=congrArg List.length e
   simp only [List.length_append,List.length_drop,List.length_take,List.length_nil] at this;omega
  have f1:((s:Nat):Int)≤(stem.length:Nat):=by omega
  have f2:((u:Nat):Int)≤(per loop:Nat):=by omega
  have g1:(loop.drop u).take (per loop - u)=(loop.take (per loop)).drop u:=by rw [List.drop_take]
  have hcat:=concat_g hm hC [(loop.take (per loop)).drop u,loop.take u] (by simpa using hne) (by simp) (by simp;omega)
  simp only [List.flatten_cons,List.flatten_nil,List.append_nil] at hcat
  rw [fin1,fin2]
  repeat (refine PRun.wpn rfl ?_;simp only [wp])
  refine PDraw.stage (Nat.zero_le _) rfl ?_
  try dsimp only
  simp only [SW,↓reduceIte,Nat.reduceAdd,f1,f2,hu]
  have hcl:=(clone_g hm hC (stem.take s) (by simp;omega)).wkA (.cons (wk_cutL stem 0 s (by omega)) .nil)
  simp only [List.drop_zero] at hcl
  refine PDE.gen (Nat.zero_le _) hcl rfl ?_
  simp only [SW,Nat.reduceAdd,PW.with,one1,shH,shO,shL_L16,shA,shP_loc]
  refine PDraw.stage (Nat.zero_le _) rfl ?_
  try dsimp only
  simp only [SW,↓reduceIte,Nat.reduceAdd]
  refine PDE.gh (Gh.frz 3 rfl rfl rfl ?_)
  simp only [SW,↓reduceIte,reduceCtorEq,Nat.reduceEqDiff,frzL_L16]
  refine .refl ?_
  refine PDE.gen (Nat.zero_le _) (hcat.wkA (.cons (Wk.sl (ext:=[]) (.cons (by rw [← g1];exact wk_cutZ loop u (per loop - u) (by omega)) (.cons (wk_cutZ loop 0 u (by omega)) .nil))) .nil)) rfl ?_
  simp only [SW,Nat.reduceAdd,PW.with,shH,shO,shL_L16,shA,shP_loc]
  refine PDraw.stage (Nat.zero_le _) rfl ?_
  try dsimp only
  simp only [SW,↓reduceIte]
  refine PDE.any (Nat.zero_le _) (PE.det rfl ?_)
  refine PDraw.last (Nat.zero_le _) rfl ?_
  try dsimp only
  simp only [SW,↓reduceIte,Nat.reduceEqDiff]
  repeat (refine PRun.wpn rfl ?_;simp only [wp,or_true,true_and,reduceCtorEq])
  refine Gh.mr mkWtB11 [(1,2),(2,0),(4,1)] 3 rfl ⟨_,rfl,.refl _,?_⟩
  simp only [mkWtB11,SW,↓reduceIte,reduceCtorEq,Nat.reduceEqDiff,renL_L16,one2]
theorem normal_N (loop:List Int) (h0:loop ≠ []) (h2:loop.length < 2 ^ 38):PGen C 16 [.agg [.lit (.slice none 0 0),.sl (L16 loop) loop.length]] (.agg [.lit (.slice none 0 0),.loc 0 0 (nLoop [] loop).length (nLoop [] loop).length]) (oneN (nLoop [] loop)):=by
 obtain ⟨stem,hst⟩:∃ s:List Int,s=[]:=⟨_,rfl⟩
 have h1:stem.length < 2 ^ 38:=by rw [hst];decide
 have hs0:stem.length=0:=by rw [hst];rfl
 rw [← hst]
 have hl0:loop.length ≠ 0:=fun e=>h0 (List.length_eq_zero_iff.1 e)
 refine PGen.body hm hC (show Tryd.tab.get 16=some Tryd.c16 from rfl) ?_
 simp only [SW,Tryd.c16,startP,Nat.reduceAdd,Nat.reduceSub,List.replicate]
 repeat (refine PRun.wpn rfl ?_;simp only [SW,↓reduceIte,reduceCtorEq,Nat.reduceAdd,eqB_f (show ¬ ((loop.length:Nat):Int)=0 by omega)])
 have p0:=per_pos loop (by omega)
 have p1:=per_le loop
 refine PDraw.stage (Nat.zero_le _) rfl ?_
 simp only [SW,↓reduceIte,reduceCtorEq,Nat.reduceAdd]
 refine PDE.pure ((period_ok hm hC loop (by omega)).args (.cons .sl_sz .nil)) rfl ?_
 refine PDraw.last (Nat.zero_le _) rfl ?_
 simp only [SW,↓reduceIte,Nat.reduceAdd]
 have p2:((per loop:Nat):Int)≤(loop.length:Nat):=by omega
 have p3:((per loop:Nat):Int) ≠ 0:=by omega
 try dsimp only
 simp only [SW,↓reduceIte,p2]
 repeat (refine PRun.wpn rfl ?_;simp only [SW,reduceCtorEq])
 refine PRun.cut (fun x t π=>x = .exit 0∧∃ (s u:Nat),t=(.junk::.ptr 0 0::.ptr 1 0::.lit (.slice none 0 0)::.sl (L16 loop) (per loop)::.lit (.int .i64 (s:Nat))::.lit (.int .i64 (u:Nat))::.junk::.junk::.junk::.junk::.junk::.junk::.junk::.junk::.junk::.junk::.junk::.junk::.junk::.junk::.junk::.junk::.junk::.junk::.junk::.junk::.junk::.junk::.junk::.junk::.junk::.junk::.junk::.junk::.junk::.junk::.junk::.junk::.junk::.junk::.junk::.junk::.junk::.junk::.junk::.junk::.junk::.junk::.junk::.junk::.junk::.junk::.junk::.junk::.junk::.junk::.junk::.junk::.junk::.junk::.junk::.junk::.junk::.junk::.junk::[])∧s≤stem.length∧u < per loop∧rollF stem loop (per loop) stem.length 0=(s,u)∧π=⟨2,[(1,.cells [.lit (.slice none 0 0),.lit (.slice none 0 0)] 25 2 true false []),(0,.cells [.lit (.slice none 0 0),.sl (L16 loop) loop.length] 25 2 true false [])]⟩) ?_ ?_
 ·refine PRun.gh (Gh.mask mkWtB10 ?_)
  refine PRun.loopG (fun n t π=>∃ (s u:Nat),t=(.junk::.ptr 0 0::.ptr 1 0::.lit (.slice none 0 0)::.sl (L16 loop) (per loop)::.lit (.int .i64 (s:Nat))::.lit (.int .i64 (u:Nat))::.junk::.junk::.junk::.junk::.junk::.junk::.junk::.junk::.junk::.junk::.junk::.junk::.junk::.junk::.junk::.junk::.junk::.junk::.junk::.junk::.junk::.junk::.junk::.junk::.junk::.junk::.junk::.junk::.junk::.junk::.junk::.junk::.junk::.junk::.junk::.junk::.junk::.junk::.junk::.junk::.junk::.junk::.junk::.junk::.junk::.junk::.junk::.junk::.junk::.junk::.junk::.junk::.junk::.junk::.junk::.junk::.junk::.junk::.junk::[])∧s≤stem.length∧u < per loop∧n=s∧rollF stem loop (per loop) s u=rollF stem loop (per loop) stem.length 0∧π=⟨2,[(1,.cells [.lit (.slice none 0 0),.lit (.slice none 0 0)] 25 2 true false []),(0,.cells [.lit (.slice none 0 0),.sl (L16 loop) loop.length] 25 2 true false [])]⟩) ?_ stem.length _ _ ⟨stem.length,0,by rw [hs0];rfl,by omega,by omega,rfl,rfl,rfl⟩
  rintro n t π ⟨s,u,rfl,hs,hu,hn,hr,rfl⟩
  repeat (refine PRun.wpn rfl ?_;simp only [wp])
  refine PDraw.last (Nat.zero_le _) rfl ?_
  cases s with
  | zero=>
   have e0:¬ (0:Int) < 0:=by omega
   try dsimp only
   simp only [SW,ltB_f e0]
   repeat (refine PRun.wpn rfl ?_;simp only [SW,↓reduceIte])
   refine Gh.mask mkWtB10 ?_
   exact ⟨0,u,rfl,by omega,hu,hr.symm,rfl⟩
  | succ s=>omega
 ·rintro x t π ⟨rfl,s,u,rfl,hs,hu,hr,rfl⟩
  have fin1:nStem stem loop=stem.take s:=by unfold nStem;rw [if_neg h0,hr]
  have fin2:nLoop stem loop=(loop.take (per loop)).drop u++loop.take u:=by unfold nLoop;rw [if_neg h0,hr]
  have hne:(loop.take (per loop)).drop u++loop.take u ≠ []:=fun e=>by
   have:=congrArg List.length e
   simp only [List.length_append,List.length_drop,List.length_take,List.length_nil] at this;omega
  have f1:((s:Nat):Int)≤(stem.length:Nat):=by omega
  have f2:((u:Nat):Int)≤(per loop:Nat):=by omega
  have g1:(loop.drop u).take (per loop - u)=(loop.take (per loop)).drop u:=by rw [List.drop_take]
  have hcat:=concat_g hm hC [(loop.take (per loop)).drop u,loop.take u] (by simpa using hne) (by simp) (by simp;omega)
  simp only [List.flatten_cons,List.flatten_nil,List.append_nil] at hcat
  rw [fin2]
  obtain rfl:s=0:=by omega
  repeat (refine PRun.wpn rfl ?_;simp only [wp,nc0])
  refine PDraw.stage (Nat.zero_le _) rfl ?_
  try dsimp only
  simp only [SW,↓reduceIte,Nat.reduceAdd,f2,hu]
  have hcl:=clone_n hm hC
  refine PDE.pure (hcl.args (.cons (.refl _) .nil)) rfl ?_
  try dsimp only
  simp only [put_some,setP]
  refine PDraw.stage (Nat.zero_le _) rfl ?_
  try dsimp only
  simp only [SW,↓reduceIte,Nat.reduceAdd]
  refine PDE.gh (Gh.frz 2 rfl rfl rfl ?_)
  simp only [SW,↓reduceIte,reduceCtorEq,Nat.reduceEqDiff]
  refine .refl ?_
  refine PDE.gen (Nat.zero_le _) (hcat.wkA (.cons (Wk.sl (ext:=[]) (.cons (by rw [← g1];exact wk_cutZ loop u (per loop - u) (by omega)) (.cons (wk_cutZ loop 0 u (by omega)) .nil))) .nil)) rfl ?_
  simp only [SW,Nat.reduceAdd,PW.with,shH,shO,shL_L16,shA,shP_loc]
  refine PDraw.stage (Nat.zero_le _) rfl ?_
  try dsimp only
  simp only [SW,↓reduceIte]
  refine PDE.any (Nat.zero_le _) (PE.det rfl ?_)
  refine PDraw.last (Nat.zero_le _) rfl ?_
  try dsimp only
  simp only [SW,↓reduceIte,Nat.reduceEqDiff]
  repeat (refine PRun.wpn rfl ?_;simp only [wp,or_true,true_and,reduceCtorEq])
  refine Gh.mr mkWtB11 [(1,1),(3,0)] 2 rfl ⟨_,rfl,.refl _,?_⟩
  simp only [mkWtB11,SW,↓reduceIte,reduceCtorEq,Nat.reduceEqDiff,renL_L16,oneN]
end
end Go.Proofs.YtkldgoapompinaaDoor.Ai
namespace Go.Proofs.YtkldgoapompinaaDoor.Ai
set_option linter.unusedSimpArgs false
open Go
set_option linter.unusedVariables false
set_option linter.unusedSectionVars false
set_option maxRecDepth 10000
set_option maxHeartbeats 4000000
def itH:List (Nat × List PV × Bool)→List (Nat × PObj)
 | []=>[]
 | (i,cs,ex)::xs=>if i=0 then itH xs else (i,.cells cs 54 1 ex false [])::itH xs
def ItOK (H:List (Nat × PObj)) (x:Nat × List PV × Bool):Prop:=x.1 ≠ 0→pureL x.2.1=true∧look H x.1=some (.cells x.2.1 54 1 x.2.2 false [])
def ApartQ (xs:List (Nat × List PV × Bool)):Prop:=xs.Pairwise fun x y=>x.1 ≠ 0→y.1 ≠ 0→x.1 ≠ y.1
theorem look_itH:∀ {xs:List (Nat × List PV × Bool)} {j:Nat} {o:PObj},look (itH xs) j=some o→∃ cs ex,(j,cs,ex)∈xs∧j ≠ 0∧o = .cells cs 54 1 ex false []
 | [],j,o,h=>by simp [itH,look] at h
 | (i,cs,ex)::xs,j,o,h=>by
  unfold itH at h
  split at h
  ·obtain ⟨m,x,h1,h2⟩:=look_itH h
   exact ⟨m,x,by simp [h1],h2⟩
  ·rename_i hl
   simp only [look] at h
   split at h
   ·rename_i e;subst e
    exact ⟨cs,ex,by simp,hl,(Option.some.inj h).symm⟩
   ·obtain ⟨m,x,h1,h2⟩:=look_itH h
    exact ⟨m,x,by simp [h1],h2⟩
theorem itH_look:∀ {xs:List (Nat × List PV × Bool)},ApartQ xs→∀ x∈xs,x.1 ≠ 0→look (itH xs) x.1=some (.cells x.2.1 54 1 x.2.2 false [])
 | [],_,x,hx,_=>by simp at hx
 | (i,cs,ex)::xs,hA,x,hx,h0=>by
  obtain ⟨h1,h2⟩:=List.pairwise_cons.1 hA
  unfold itH
  rcases List.mem_cons.1 hx with rfl | hx
  ·rw [if_neg h0];simp only [look,if_true]
  ·split
   ·exact itH_look h2 x hx h0
   ·rename_i hl
    simp only [look]
    rw [if_neg (fun e=>h1 x hx hl h0 e.symm)]
    exact itH_look h2 x hx h0
def frQ (i:Nat) (cs:List PV) (e:List PV):List PV:=if i=0 then e else frzL i cs e
def frQP (i:Nat) (cs:List PV) (p:PV):PV:=if i=0 then p else frzP i cs p
def lendQ:List (Nat × List PV × Bool)→List PV→List PV
 | [],e=>e
 | (i,cs,_)::xs,e=>lendQ xs (frQ i cs e)
theorem Gh.lendQ {C:Ctx} {b:Nat}:∀ (xs:List (Nat × List PV × Bool)) (e:List PV) (π:PW),ApartQ xs→(∀ x∈xs,ItOK π.heap x)→Gh C b e π fun e' _=>e'=Ai.lendQ xs e
 | [],e,π,_,_=>.refl rfl
 | (i,cs,ex)::xs,e,π,hA,hx=>by
  obtain ⟨h1,h2⟩:=List.pairwise_cons.1 hA
  unfold Ai.lendQ frQ
  by_cases hl:i=0
  ·rw [if_pos hl]
   exact Gh.lendQ xs e π h2 fun x hm=>hx x (by simp [hm])
  ·rw [if_neg hl]
   obtain ⟨hp,h0⟩:=hx (i,cs,ex) (by simp) hl
   refine (Gh.fzTop (A:=fun e' π'=>e'=frzL i cs e∧π'=⟨π.next,itH xs⟩) (H:=itH xs) i h0 hp (fun j o hj=>?_) ⟨rfl,rfl⟩).trans ?_
   ·obtain ⟨m,x,g1,g2,rfl⟩:=look_itH hj
    refine ⟨(hx (j,m,x) (by simp [g1]) g2).2,fun e=>h1 (j,m,x) g1 hl g2 e.symm,fun _ _ _ _ _ al h=>?_⟩
    simp only [PObj.cells.injEq] at h
    rw [← h.2.2.2.2.2];simp
   ·rintro _ _ ⟨rfl,rfl⟩
    exact Gh.lendQ xs _ _ h2 fun x hm h0=>⟨(hx x (by simp [hm]) h0).1,itH_look h2 x hm h0⟩
theorem frQ_nil (i:Nat) (cs:List PV):frQ i cs []=[]:=by unfold frQ;split <;> rfl
theorem frQ_cons (i:Nat) (cs:List PV) (p:PV) (e:List PV):frQ i cs (p::e)=frQP i cs p::frQ i cs e:=by unfold frQ frQP;split <;> rfl
theorem frQP_agg (i:Nat) (cs:List PV) (e:List PV):frQP i cs (.agg e) = .agg (frQ i cs e):=by unfold frQ frQP;split <;> rfl
theorem frQP_lit (i:Nat) (cs:List PV) (u:Value):frQP i cs (.lit u) = .lit u:=by unfold frQP;split <;> rfl
theorem frQP_sz (i:Nat) (cs ds:List PV) (n:Nat):frQP i cs (.sz ds n) = .sz ds n:=by unfold frQP;split <;> rfl
theorem frQP_sl (i:Nat) (cs ds:List PV) (n:Nat):frQP i cs (.sl ds n) = .sl ds n:=by unfold frQP;split <;> rfl
def slv (i:Nat) (cs:List PV) (n:Nat):PV:=if i=0 then .lit (.slice none 0 0) else .sl cs n
theorem frQP_slv (i j:Nat) (cs ds:List PV) (n:Nat):frQP i cs (slv j ds n)=slv j ds n:=by
 unfold slv
 split
 ·exact frQP_lit i cs _
 ·exact frQP_sl i cs _ _
theorem frQP_slq (i n:Nat) (cs:List PV):frQP i cs (slq (i,n))=slv i cs n:=by
 unfold frQP slv slq
 by_cases h:i=0
 ·rw [if_pos h,if_pos h,if_pos h]
 ·rw [if_neg h,if_neg h,if_neg h]
  simp only [SW]
theorem frQP_ne {i j:Nat} (h:j ≠ 0→j ≠ i) (cs:List PV) (n:Nat):frQP i cs (slq (j,n))=slq (j,n):=by
 unfold frQP
 split
 ·rfl
 ·unfold slq
  split
  ·rfl
  ·rename_i hj;simp only [frzP];rw [if_neg (h hj)]
theorem frQP_loc {i:Nat} (h:i ≠ 0) (cs:List PV) (n c:Nat) (hc:n≤c):frQP i cs (.loc i 0 n c) = .sl cs n:=by
 unfold frQP;rw [if_neg h];simp only [SW];rw [if_pos hc]
theorem frQP_locne {i j:Nat} (h:j ≠ i) (cs:List PV) (n c:Nat):frQP i cs (.loc j 0 n c) = .loc j 0 n c:=by
 unfold frQP
 split
 ·rfl
 ·simp only [frzP];rw [if_neg h]
theorem slv_wk {i:Nat} {l e:List Int} (h:i=0→l=[]):Wk (slv i (L16 (l++e)) l.length) (szU l):=by
 unfold slv szU
 by_cases h0:i=0
 ·rw [if_pos h0,h h0];exact .nil_sz
 ·rw [if_neg h0]
  have:L16 (l++e)=L16 l++L16 e:=L16_append l e
  rw [this]
  exact fun I η v hv=>Wk.sl_sz I η v ((Wk.sl (WkL.refl (L16 l++L16 e))) I η v hv)
theorem sl_wk (l e:List Int):Wk (.sl (L16 (l++e)) l.length) (.sl (L16 l) l.length):=by
 rw [L16_append]
 exact Wk.sl (WkL.refl (L16 l++L16 e))
theorem slv_pure (i n:Nat) (l:List Int):pureP (slv i (L16 l) n)=true:=by
 unfold slv;split <;> rfl
theorem PFun.lendQ {C:Ctx} {b:Nat} {e:List PV} {f:FuncId} {args args0 args1:List PV} {u:Value} {π:PW} (h:PFun C f args0 (.lit u)) (xs:List (Nat × List PV × Bool)) (hA:ApartQ xs)
  (hx:∀ x∈xs,ItOK π.heap x) (h1:Ai.lendQ xs args=args1) (hw:WkL args1 args0) (hp:pureL args1=true) {A:PV→PW→Prop} (hA':A (.lit u) π) (hb:b≤π.next:=by exact Nat.zero_le _):PToE C b e f args π A:=
 (h.wkA' hw).lent hp ((Gh.lendQ xs args π hA hx).mono fun _ _ h=>h.trans h1) hA' hb
theorem PGen.lendQ {C:Ctx} {f:FuncId} {args args0 args1:List PV} {r:PV} {π π1:PW} (h:PGen C f args0 r π1) (xs:List (Nat × List PV × Bool)) (hA:ApartQ xs)
  (hx:∀ x∈xs,ItOK π.heap x) (h1:Ai.lendQ xs args=args1) (hw:WkL args1 args0) (hp:pureL args1=true) (hr:freePv r=true) (hh:freeHv π1.heap=true) {A:PV→PW→Prop} (hA':A (shP π.next r) (π.with π1)):PTo C f args π A:=
 (h.wkA hw).lentT hp ((Gh.lendQ xs args π hA hx).mono fun _ _ h=>h.trans h1) hr hh hA'
def one0:PW:=⟨1,[(0,.cells [.lit (.slice none 0 0),.lit (.slice none 0 0)] 25 2 true false [])]⟩
inductive WG:PV→PW→List Int→List Int→Prop
 | z:WG (.agg [.lit (.slice none 0 0),.lit (.slice none 0 0)]) one0 [] []
 | n (b:List Int):WG (.agg [.lit (.slice none 0 0),.loc 0 0 b.length b.length]) (oneN b) [] b
 | s (a b:List Int):WG (.agg [.loc 0 0 a.length a.length,.loc 1 0 b.length b.length]) (one2 a b) a b
theorem WG.free {r:PV} {π:PW} {a b:List Int} (h:WG r π a b):freePv r=true∧freeHv π.heap=true:=by
 cases h
 ·exact ⟨rfl,rfl⟩
 ·exact ⟨rfl,by simp only [oneN,freeHv,freeOb,free_L16,freeLv,freePv,Bool.and_self]⟩
 ·exact ⟨rfl,by simp only [one2,freeHv,freeOb,free_L16,freeLv,freePv,Bool.and_self]⟩
def QF (H:List (Nat × PObj)) (nx nx':Nat) (p:Nat × Nat) (l:List Int):Prop:=p.2=l.length∧(p.1=0→l=[])∧(p.1 ≠ 0→nx≤p.1∧p.1 < nx'∧∃ ex,(l ≠ []→ex=false)∧look H p.1=some (.cells (L16 l) 54 1 ex false []))
theorem WG.to {r:PV} {π1:PW} {a b:List Int} (h:WG r π1 a b) {nx:Nat} {H:List (Nat × PObj)} (h1:1≤nx) {A:PV→PW→Prop}
  (hA:∀ nx' H' p1 p2,nx≤nx'→(∀ id o,id < nx→look H id=some o→look H' id=some o)→QF H' nx nx' p1 a→QF H' nx nx' p2 b→(p1.1 ≠ 0→p2.1 ≠ 0→p1.1 ≠ p2.1)→A (.agg [slq p1,slq p2]) ⟨nx',H'⟩):A (shP nx r) ((⟨nx,H⟩:PW).with π1):=by
 cases h with
 | z=>
  refine hA _ _ (0,0) (0,0) (Nat.le_add_left _ _) (fun id o hi ho=>by rw [look_shH_old hi];exact ho) ⟨rfl,fun _=>rfl,fun h=>absurd rfl h⟩ ⟨rfl,fun _=>rfl,fun h=>absurd rfl h⟩ (fun h=>absurd rfl h)
 | n b=>
  have e:slq (0 + nx,b.length) = .loc (0 + nx) 0 b.length b.length:=slq_loc (by show 0 + nx ≠ 0;omega)
  have:=hA _ (shH nx H (oneN b).heap) (0,0) (0 + nx,b.length) (show nx≤(oneN b).next + nx from Nat.le_add_left _ _) (fun id o hi ho=>by rw [look_shH_old hi];exact ho) ⟨rfl,fun _=>rfl,fun h=>absurd rfl h⟩
   ⟨rfl,fun h=>absurd h (by show 0 + nx ≠ 0;omega),fun _=>⟨by show nx≤0 + nx;omega,by show 0 + nx < 2 + nx;omega,false,fun _=>rfl,by
    rw [look_shH_new (i:=0) (o:=.cells (L16 b) 54 1 false false []) rfl];simp only [shO,shL_L16,shA]⟩⟩ (fun h=>absurd rfl h)
  rw [e] at this
  exact this
 | s a b=>
  have e1:slq (0 + nx,a.length) = .loc (0 + nx) 0 a.length a.length:=slq_loc (by show 0 + nx ≠ 0;omega)
  have e2:slq (1 + nx,b.length) = .loc (1 + nx) 0 b.length b.length:=slq_loc (by show 1 + nx ≠ 0;omega)
  have:=hA _ (shH nx H (one2 a b).heap) (0 + nx,a.length) (1 + nx,b.length) (show nx≤(one2 a b).next + nx from Nat.le_add_left _ _) (fun id o hi ho=>by rw [look_shH_old hi];exact ho)
   ⟨rfl,fun h=>absurd h (by show 0 + nx ≠ 0;omega),fun _=>⟨by show nx≤0 + nx;omega,by show 0 + nx < 3 + nx;omega,decide (a=[]),fun h=>decide_eq_false h,by
    rw [look_shH_new (i:=0) (o:=.cells (L16 a) 54 1 (decide (a=[])) false []) rfl];simp only [shO,shL_L16,shA]⟩⟩
   ⟨rfl,fun h=>absurd h (by show 1 + nx ≠ 0;omega),fun _=>⟨by show nx≤1 + nx;omega,by show 1 + nx < 3 + nx;omega,false,fun _=>rfl,by
    rw [look_shH_new (i:=1) (o:=.cells (L16 b) 54 1 false false []) rfl];simp only [shO,shL_L16,shA]⟩⟩ (fun _ _=>by show 0 + nx ≠ 1 + nx;omega)
  rw [e1,e2] at this
  exact this
theorem nLoop_ne {stem loop:List Int} (h0:loop ≠ []):nLoop stem loop ≠ []:=fun e=>by
 have hl:0 < loop.length:=List.length_pos_iff.2 h0
 have p0:=per_pos loop hl
 have p1:=per_le loop
 have:=congrArg List.length e
 unfold nLoop at this
 rw [if_neg h0] at this
 simp only [List.length_append,List.length_drop,List.length_take,List.length_nil] at this;omega
theorem nStem_nil (loop:List Int):nStem [] loop=[]:=by unfold nStem;split <;> simp
section
variable {C:Ctx} (hm:C.P.follows .mixedOrders=true) (hC:TabOK C.P C.ng C.ts Tryd.tab)
include hm hC
theorem normal_z (sv:PV) (cs:List PV) (hsv:sv = .lit (.slice none 0 0)∨∃ cs n,sv = .sl cs n):PGen C 16 [.agg [sv,.sl cs 0]] (.agg [.lit (.slice none 0 0),.lit (.slice none 0 0)]) one0:=by
 have z0:=eqB_t (show (0:Int)=0 from rfl)
 rcases hsv with rfl | ⟨ds,n,rfl⟩
 all_goals
  refine PGen.body hm hC (show Tryd.tab.get 16=some Tryd.c16 from rfl) ?_
  simp only [SW,Tryd.c16,startP,Nat.reduceAdd,Nat.reduceSub,List.replicate]
  repeat (refine PRun.wpn rfl ?_;simp only [SW,↓reduceIte,reduceCtorEq,Nat.reduceAdd,z0])
  exact Gh.mr mkWtB11 [(1,0)] 1 rfl ⟨_,rfl,.refl _,rfl⟩
theorem normal_w (stem loop:List Int) (h1:stem.length < 2 ^ 38) (h2:loop.length < 2 ^ 38):∃ r π1,WG r π1 (nStem stem loop) (nLoop stem loop)∧PGen C 16 [.agg [.sl (L16 stem) stem.length,.sl (L16 loop) loop.length]] r π1:=by
 by_cases h0:loop=[]
 ·subst h0
  exact ⟨_,_,.z,normal_z hm hC _ _ (.inr ⟨_,_,rfl⟩)⟩
 ·exact ⟨_,_,.s _ _,normal_S hm hC stem loop h0 h1 h2⟩
def sufS (stem loop:List Int) (n:Nat):List Int:=if loop=[] then [] else if n < stem.length then nStem (stem.drop n) loop else []
def sufL (stem loop:List Int) (n:Nat):List Int:=if loop=[] then [] else if n < stem.length then nLoop (stem.drop n) loop else nLoop [] (loop.drop ((n - stem.length) % loop.length)++loop.take ((n - stem.length) % loop.length))
theorem suffix_w (stem loop:List Int) (i:Int) (g0 : -9223372036854775808≤i) (g0':i < 9223372036854775808) (h1:stem.length < 2 ^ 37) (h2:loop.length < 2 ^ 37) :
  ∃ r π1,WG r π1 (sufS stem loop i.toNat) (sufL stem loop i.toNat)∧PGen C 17 [.agg [.sl (L16 stem) stem.length,.sl (L16 loop) loop.length],.lit (.int .i64 i)] r π1:=by
 have z0:=eqB_t (show (0:Int)=0 from rfl)
 by_cases h0:loop=[]
 ·subst h0
  refine ⟨_,_,.z,?_⟩
  refine PGen.body hm hC (show Tryd.tab.get 17=some Tryd.c17 from rfl) ?_
  simp only [SW,Tryd.c17,startP,Nat.reduceAdd,Nat.reduceSub,List.replicate]
  repeat (refine PRun.wpn rfl ?_;simp only [SW,↓reduceIte,reduceCtorEq,Nat.reduceAdd,z0])
  exact Gh.mr mkWtB12 [(1,0)] 1 rfl ⟨_,rfl,.refl _,rfl⟩
 have hl0:loop.length ≠ 0:=fun e=>h0 (List.length_eq_zero_iff.1 e)
 have hl:=eqB_f (show ¬ ((loop.length:Nat):Int)=0 by omega)
 obtain ⟨n,hn⟩:∃ n:Nat,(if 0 > i then 0 else i)=n:=by
  split
  ·exact ⟨0,rfl⟩
  ·exact ⟨i.toNat,by omega⟩
 have hi:i.toNat=n:=by split at hn <;> omega
 have hn9:n < 9223372036854775808:=by omega
 rw [hi]
 simp only [gt_iff_lt] at hn
 unfold sufS sufL
 rw [if_neg h0,if_neg h0]
 by_cases hs:n < stem.length
 ·rw [if_pos hs,if_pos hs]
  have n1:=normal_S hm hC (stem.drop n) loop h0 (by simp;omega) (by omega)
  have e1:((n:Nat):Int)≤(stem.length:Nat):=by omega
  have e2:((n:Nat):Int) < (stem.length:Nat):=by omega
  refine ⟨_,_,.s _ _,?_⟩
  refine PGen.body hm hC (show Tryd.tab.get 17=some Tryd.c17 from rfl) ?_
  simp only [SW,Tryd.c17,startP,Nat.reduceAdd,Nat.reduceSub,List.replicate]
  repeat (refine PRun.wpn rfl ?_;simp only [SW,↓reduceIte,reduceCtorEq,Nat.reduceAdd,hl,hn,ltB_t e2])
  refine PDraw.stage (Nat.zero_le _) rfl ?_
  try dsimp only
  simp only [SW,↓reduceIte,reduceCtorEq,Nat.reduceAdd,e1,hs]
  refine PDE.gen (Nat.zero_le _) (n1.wkA (.cons (.agg (.cons ?_ (.cons (.refl _) .nil))) .nil)) rfl ?_
  ·have:=wk_cutL stem n (stem.length - n) (by omega)
   rw [List.take_of_length_le (by simp)] at this
   exact this
  simp only [SW,Nat.reduceAdd,PW.with,one2,shH,shO,shP,shL,shL_L16,shA]
  refine PDraw.stage (Nat.zero_le _) rfl ?_
  try dsimp only
  simp only [SW]
  refine PDE.any (Nat.zero_le _) (PE.det rfl ?_)
  refine PDraw.last (Nat.zero_le _) rfl ?_
  try dsimp only
  simp only [SW,↓reduceIte,Nat.reduceEqDiff]
  repeat (refine PRun.wpn rfl ?_;simp only [wp,or_true,true_and,reduceCtorEq])
  refine Gh.mr mkWtB12 [(1,2),(2,0),(3,1)] 3 rfl ⟨_,rfl,.refl _,?_⟩
  simp only [mkWtB12,SW,↓reduceIte,reduceCtorEq,Nat.reduceEqDiff,renL_L16]
 ·rw [if_neg hs,if_neg hs]
  have hs':=ltB_f (show ¬ ((n:Nat):Int) < (stem.length:Nat) by omega)
  have e1:IntKind.i64.wrap ((n:Int) - (stem.length:Nat))=((n - stem.length:Nat):Int):=by rw [wrap64 (by omega) (by omega)];omega
  have e2:(n - stem.length) % loop.length < loop.length:=Nat.mod_lt _ (by omega)
  generalize hk:(n - stem.length) % loop.length=k at *
  have e3:((k:Nat):Int)≤(loop.length:Nat):=by omega
  have hne:loop.drop k++loop.take k ≠ []:=fun e=>by
   have:=congrArg List.length e
   simp only [List.length_append,List.length_drop,List.length_take,List.length_nil] at this;omega
  have hlen:(loop.drop k++loop.take k).length < 2 ^ 38:=by simp only [List.length_append,List.length_drop,List.length_take];omega
  have hcat:=concat_g hm hC [loop.drop k,loop.take k] (by simpa using hne) (by simp) (by simp;omega)
  simp only [List.flatten_cons,List.flatten_nil,List.append_nil] at hcat
  generalize hL:loop.drop k++loop.take k=L at hne hlen hcat ⊢
  have n1:=normal_N hm hC L hne hlen
  have hlne:((loop.length:Nat):Int) ≠ 0:=by omega
  refine ⟨_,_,.n _,?_⟩
  refine PGen.body hm hC (show Tryd.tab.get 17=some Tryd.c17 from rfl) ?_
  simp only [SW,Tryd.c17,startP,Nat.reduceAdd,Nat.reduceSub,List.replicate]
  repeat (refine PRun.wpn rfl ?_;simp only [SW,↓reduceIte,reduceCtorEq,Nat.reduceAdd,hl,hn,hs',e1,bi_rem hlne,tmod_nat,hk])
  refine PDraw.stage (Nat.zero_le _) rfl ?_
  try dsimp only
  simp only [SW,↓reduceIte,reduceCtorEq,Nat.reduceAdd,e3,e2]
  refine PDE.gh (Gh.frz 2 rfl rfl rfl ?_)
  simp only [SW,↓reduceIte,reduceCtorEq,Nat.reduceEqDiff]
  refine .refl ?_
  refine PDE.gen (Nat.zero_le _) (hcat.wkA (.cons (Wk.sl (ext:=[]) (.cons ?_ (.cons (wk_cutZ loop 0 k (by omega)) .nil))) .nil)) rfl ?_
  ·have:=wk_cutZ loop k (loop.length - k) (by omega)
   rw [List.take_of_length_le (by simp)] at this
   exact this
  simp only [SW,Nat.reduceAdd,PW.with,shH,shO,shL_L16,shA,shP_loc]
  refine PDraw.stage (Nat.zero_le _) rfl ?_
  try dsimp only
  simp only [SW,↓reduceIte]
  refine PDE.gh (Gh.frz 3 rfl (pureL_L16 _) rfl ?_)
  simp only [SW,↓reduceIte,reduceCtorEq,Nat.reduceEqDiff]
  refine .refl ?_
  refine PDE.gen (Nat.zero_le _) n1 rfl ?_
  simp only [SW,Nat.reduceAdd,PW.with,oneN,shH,shO,shP,shL,shL_L16,shA]
  refine PDraw.stage (Nat.zero_le _) rfl ?_
  try dsimp only
  simp only [SW]
  refine PDE.any (Nat.zero_le _) (PE.det rfl ?_)
  refine PDraw.last (Nat.zero_le _) rfl ?_
  try dsimp only
  simp only [SW,↓reduceIte,Nat.reduceEqDiff]
  repeat (refine PRun.wpn rfl ?_;simp only [wp,or_true,true_and,reduceCtorEq])
  refine Gh.mr mkWtB12 [(1,1),(4,0)] 2 rfl ⟨_,rfl,.refl _,?_⟩
  simp only [mkWtB12,SW,↓reduceIte,reduceCtorEq,Nat.reduceEqDiff,renL_L16]
theorem join_w (u stem loop:List Int) (g1:u.length < 2 ^ 37) (h1:stem.length < 2 ^ 37) (h2:loop.length < 2 ^ 37) :
  ∃ r π1,WG r π1 (nStem (u++stem) loop) (nLoop (u++stem) loop)∧PGen C 18 [.sl (L16 u) u.length,.agg [.sl (L16 stem) stem.length,.sl (L16 loop) loop.length]] r π1:=by
 have z0:=eqB_t (show (0:Int)=0 from rfl)
 by_cases h0:loop=[]
 ·subst h0
  refine ⟨_,_,.z,?_⟩
  refine PGen.body hm hC (show Tryd.tab.get 18=some Tryd.c18 from rfl) ?_
  simp only [SW,Tryd.c18,startP,Nat.reduceAdd,Nat.reduceSub,List.replicate]
  repeat (refine PRun.wpn rfl ?_;simp only [SW,↓reduceIte,reduceCtorEq,Nat.reduceAdd,z0])
  exact Gh.mr (false::false::false::false::true::false::false::false::false::false::false::false::false::false::false::false::false::false::false::[]) [(1,0)] 1 rfl ⟨_,rfl,.refl _,rfl⟩
 have hl0:loop.length ≠ 0:=fun e=>h0 (List.length_eq_zero_iff.1 e)
 have hl:=eqB_f (show ¬ ((loop.length:Nat):Int)=0 by omega)
 by_cases hU:u++stem=[]
 ·have hcat:=concat_0 hm hC [u,stem] (by simpa using hU) (by simp)
  rw [hU,nStem_nil]
  have n1:=normal_N hm hC loop h0 (by omega)
  refine ⟨_,_,.n _,?_⟩
  refine PGen.body hm hC (show Tryd.tab.get 18=some Tryd.c18 from rfl) ?_
  simp only [SW,Tryd.c18,startP,Nat.reduceAdd,Nat.reduceSub,List.replicate]
  repeat (refine PRun.wpn rfl ?_;simp only [SW,↓reduceIte,reduceCtorEq,Nat.reduceAdd,hl])
  refine PDraw.stage (Nat.zero_le _) rfl ?_
  try dsimp only
  simp only [SW,↓reduceIte,reduceCtorEq,Nat.reduceAdd]
  refine PDE.gh (Gh.frz 2 rfl rfl rfl ?_)
  simp only [SW,↓reduceIte,reduceCtorEq,Nat.reduceEqDiff]
  refine .refl ?_
  refine PDE.pure (hcat.args (.cons (Wk.sl (ext:=[]) (.cons .sl_sz (.cons .sl_sz .nil))) .nil)) rfl ?_
  refine PDraw.stage (Nat.zero_le _) rfl ?_
  try dsimp only
  simp only [SW,↓reduceIte]
  refine PDE.gen (Nat.zero_le _) n1 rfl ?_
  simp only [SW,Nat.reduceAdd,PW.with,oneN,shH,shO,shP,shL,shL_L16,shA]
  refine PDraw.stage (Nat.zero_le _) rfl ?_
  try dsimp only
  simp only [SW]
  refine PDE.any (Nat.zero_le _) (PE.det rfl ?_)
  refine PDraw.last (Nat.zero_le _) rfl ?_
  try dsimp only
  simp only [SW,↓reduceIte,Nat.reduceEqDiff]
  repeat (refine PRun.wpn rfl ?_;simp only [wp,or_true,true_and,reduceCtorEq])
  refine Gh.mr (false::false::false::false::true::false::false::false::false::false::false::false::false::false::false::false::false::false::false::[]) [(1,1),(3,0)] 2 rfl ⟨_,rfl,.refl _,?_⟩
  simp only [SW,↓reduceIte,reduceCtorEq,Nat.reduceEqDiff,renL_L16]
 ·have hcat:=concat_g hm hC [u,stem] (by simpa using hU) (by simp) (by simp;omega)
  simp only [List.flatten_cons,List.flatten_nil,List.append_nil] at hcat
  have hlen:(u++stem).length < 2 ^ 38:=by simp;omega
  generalize u++stem=U at hU hlen hcat ⊢
  have n1:=normal_S hm hC U loop h0 hlen (by omega)
  refine ⟨_,_,.s _ _,?_⟩
  refine PGen.body hm hC (show Tryd.tab.get 18=some Tryd.c18 from rfl) ?_
  simp only [SW,Tryd.c18,startP,Nat.reduceAdd,Nat.reduceSub,List.replicate]
  repeat (refine PRun.wpn rfl ?_;simp only [SW,↓reduceIte,reduceCtorEq,Nat.reduceAdd,hl])
  refine PDraw.stage (Nat.zero_le _) rfl ?_
  try dsimp only
  simp only [SW,↓reduceIte,reduceCtorEq,Nat.reduceAdd]
  refine PDE.gh (Gh.frz 2 rfl rfl rfl ?_)
  simp only [SW,↓reduceIte,reduceCtorEq,Nat.reduceEqDiff]
  refine .refl ?_
  refine PDE.gen (Nat.zero_le _) (hcat.wkA (.cons (Wk.sl (ext:=[]) (.cons .sl_sz (.cons .sl_sz .nil))) .nil)) rfl ?_
  simp only [SW,Nat.reduceAdd,PW.with,shH,shO,shL_L16,shA,shP_loc]
  refine PDraw.stage (Nat.zero_le _) rfl ?_
  try dsimp only
  simp only [SW,↓reduceIte]
  refine PDE.gh (Gh.frz 3 rfl (pureL_L16 _) rfl ?_)
  simp only [SW,↓reduceIte,reduceCtorEq,Nat.reduceEqDiff]
  refine .refl ?_
  refine PDE.gen (Nat.zero_le _) n1 rfl ?_
  simp only [SW,Nat.reduceAdd,PW.with,one2,shH,shO,shP,shL,shL_L16,shA]
  refine PDraw.stage (Nat.zero_le _) rfl ?_
  try dsimp only
  simp only [SW]
  refine PDE.any (Nat.zero_le _) (PE.det rfl ?_)
  refine PDraw.last (Nat.zero_le _) rfl ?_
  try dsimp only
  simp only [SW,↓reduceIte,Nat.reduceEqDiff]
  repeat (refine PRun.wpn rfl ?_;simp only [wp,or_true,true_and,reduceCtorEq])
  refine Gh.mr (false::false::false::false::true::false::false::false::false::false::false::false::false::false::false::false::false::false::false::[]) [(1,2),(4,0),(5,1)] 3 rfl ⟨_,rfl,.refl _,?_⟩
  simp only [SW,↓reduceIte,reduceCtorEq,Nat.reduceEqDiff,renL_L16]
end
end Go.Proofs.YtkldgoapompinaaDoor.Ai
