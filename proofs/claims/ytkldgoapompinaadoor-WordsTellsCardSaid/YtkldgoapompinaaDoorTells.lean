/- WHAT IS PROVED: the card of 'augurlaw05.WordsTells': whatever the arguments, the law returns true, and the arguments read as they did. -/
import Derived.Test.YtkldgoapompinaaDoorCards
import Derived.Test.YtkldgoapompinaaDoorTie
import Derived.WalkKit
import Derived.ProofKit
import Derived.OpenShut
import Derived.Carry
import Derived.Deep.DeepHandedRow
import Derived.Lib.LaidTab
import Derived.Stop.LaidErr
import Derived.LaidMore
import Derived.Stop.ErrReads
import Derived.Test.YtkldgoapompinaaDoorIrTT
import Derived.Test.YtkldgoapompinaaDoorRunT
import Derived.Test.YtkldgoapompinaaDoorWtK
import Derived.Test.YtkldgoapompinaaDoorWtD
import Derived.Test.YtkldgoapompinaaDoorPv5
namespace Go.Proofs.YtkldgoapompinaaDoor.wordsTells
open Go.ChangeShapes Go.WideShapes Go.ChangeAt Go.RowKit
set_option linter.unusedVariables false
set_option linter.unusedSimpArgs false
theorem own:ownKnob Tryd.prog.godebug=none:=by kernel_rfl
theorem laidOut:laidOutB Tryd.prog=true:=by kernel_rfl
theorem cells54:Tryd.prog.cellsOf 54=1:=by kernel_rfl
theorem cells25:Tryd.prog.cellsOf 25=2:=by kernel_rfl
theorem cells23:Tryd.prog.cellsOf 23=1:=by kernel_rfl
theorem bytes54:Tryd.prog.bytesOf 54=2:=by kernel_rfl
theorem types25:Tryd.prog.cellTypes Tryd.prog.depth 25=some [23,23]:=by kernel_rfl
theorem is0 {W:World} (h:laidMetH Tryd.prog Rows.wordsTellsRow.laid W):Lib.TabIs Tryd.prog W "internal/strconv.uint64pow10" .u64 Lib.pow10Tab:=by
 have L:laidMet Tryd.prog Rows.wordsTellsRow.laid W:=h
 exact Lib.tabIs_of_head (g:=0) (t:=148) (e:=141) (n:=20) (k:=.u64) (zs:=Lib.pow10Tab) (by kernel_rfl) (by kernel_rfl) (by kernel_rfl) (by kernel_rfl) (by kernel_rfl) (by kernel_rfl) (L.tail.tail)
theorem works (W:World):Ai.PFun (Ai.CT W) 12 [] (.lit (.bool true)):=Ai.PFun.of_yes Ai.Tryd.mixed Ai.Tryd.tab_at.ok (by show 3≤16;omega) Ai.WB.run_yes
theorem post_of_below {H:Type} {enc:TypeId × Value→H} {P:Program} {f:Func} {s:ChangeSpec} {apart fresh handsOn again:Bool} {W W':World} {args:Array Value} {v:Value} {ds gs:List (DataW H)} {before pa pv:List MemPlace}
  (hW:DataW.Whole enc P f.params.toList s.vars apart W args.toList ds gs before)
  (hres:∀ (b:Nat) (sp:Nat→Bool) (hd:Bool),DataW.TrodAll enc P W' b sp hd f.resultTypes.toList (v.resultList f.resultTypes.size) (s.fn H (ds++gs)).results [])
  (hargs:∀ sp:Nat→Bool,(∀ p∈before,sp p.block=true)→DataW.TrodAll enc P W' 0 sp true f.params.toList args.toList (s.fn H (ds++gs)).args pa)
  (hvars:∀ sp:Nat→Bool,(∀ p∈before,sp p.block=true)→DataW.TrodVars enc P W' sp s.vars (s.fn H (ds++gs)).vars pv)
  (hps:before=pa++pv) (hb:Below W.heap.size W W')
  (hok:∀ (j:Nat) (t:TypeId) (r:Value),f.resultTypes[j]? = some t→(v.resultList f.resultTypes.size)[j]? = some r→Value.okWide P W' .any 0 t r) :
  s.post enc P f apart fresh handsOn again W args v W':=by
 have hlt:=hW.lt
 have hold:∀ p∈before,(fun b=>decide (b < W.heap.size)) p.block=true:=fun p hp=>by simpa using hW.lt p hp
 refine ⟨ds,gs,before,[],pa,pv,hW,hres _ _ _,hargs _ hold,hvars _ hold,World.keptBut_mono (fun p hp=>⟨hp,?_⟩) (hb.frame (·∈before)),fun _=>?_⟩
 ·rw [hps,List.mem_append] at hp
  exact Or.inr hp
 ·obtain ⟨_,_,_,_,_,hz,hn⟩:=hW
  refine ⟨hok,_,_,([]++pa)++pv,⟨[]++pa,pv,trodAll_append (hargs _ (fun _ _=>rfl)) (hres _ _ _),hvars _ (fun _ _=>rfl),rfl,?_,?_⟩,?_⟩
  ·intro b off hp
   have hp':MemPlace.cell b off∈before:=by rw [hps];simpa using hp
   rw [hb.frozen (hlt _ hp')]
   exact hz b off hp'
  ·intro ha
   have:=hn ha
   rw [hps] at this
   simpa using this
  ·intro p hp _
   rw [hps]
   simpa using hp
section
variable {H:Type} {enc:TypeId × Value→H} {P:Program} {w:World} {base:Nat} {spare:Nat→Bool} {held:Bool}
theorem trodAll_five {t t' t'' t3 t4:TypeId} {args:Array Value} {ds:List (DataW H)} {ps:List MemPlace} (h:DataW.TrodAll enc P w base spare held [t,t',t'',t3,t4] args.toList ds ps) :
  ∃ v v' v'' v3 v4 d d' d'' d3 d4 p p' p'' p3 p4,args = #[v,v',v'',v3,v4]∧ds=[d,d',d'',d3,d4]∧ps=p++p'++p''++p3++p4∧DataW.Trod enc P w base spare held t v d p∧DataW.Trod enc P w base spare held t' v' d' p'∧DataW.Trod enc P w base spare held t'' v'' d'' p''∧DataW.Trod enc P w base spare held t3 v3 d3 p3∧DataW.Trod enc P w base spare held t4 v4 d4 p4:=by
 obtain ⟨v,vs,d,ds',p,q,hargs,rfl,rfl,hd,hrest⟩:=trodAll_cons h
 obtain ⟨v',vs',d',ds'',p',q',rfl,rfl,rfl,hd',hrest'⟩:=trodAll_cons hrest
 obtain ⟨v'',vs'',d'',ds9,p'',q'',rfl,rfl,rfl,hd'',hrest''⟩:=trodAll_cons hrest'
 obtain ⟨v3,vs3,d3,ds3,p3,q3,rfl,rfl,rfl,hd3,hrest3⟩:=trodAll_cons hrest''
 obtain ⟨v4,vs4,d4,ds4,p4,q4,rfl,rfl,rfl,hd4,hrest4⟩:=trodAll_cons hrest3
 obtain ⟨rfl,rfl,rfl⟩:=trodAll_nil hrest4
 exact ⟨v,v',v'',v3,v4,d,d',d'',d3,d4,p,p',p'',p3,p4,by cases args;simp_all,rfl,by simp,hd,hd',hd'',hd3,hd4⟩
theorem trodAll_mk5 {t t' t'' t3 t4:TypeId} {v v' v'' v3 v4:Value} {d d' d'' d3 d4:DataW H} {p p' p'' p3 p4:List MemPlace} (h:DataW.Trod enc P w base spare held t v d p) (h':DataW.Trod enc P w base spare held t' v' d' p')
  (h'':DataW.Trod enc P w base spare held t'' v'' d'' p'') (h3:DataW.Trod enc P w base spare held t3 v3 d3 p3) (h4:DataW.Trod enc P w base spare held t4 v4 d4 p4):DataW.TrodAll enc P w base spare held [t,t',t'',t3,t4] [v,v',v'',v3,v4] [d,d',d'',d3,d4] (p++(p'++(p''++(p3++p4)))):=⟨p,p'++(p''++(p3++p4)),h,trodAll_mk4 h' h'' h3 h4,rfl⟩
end
set_option maxRecDepth 100000 in
theorem contract (H:Type) (enc:TypeId × Value→H) (W:World) (base:Nat) (args:Array Value) (ds gs:List (DataW H)) (before:List MemPlace) (hL:laidMetH Tryd.prog Rows.wordsTellsRow.laid W)
  (hval:∀ (j:Nat) t v,Tryd.f4.params[j]? = some t→args[j]? = some v→Value.okWide Tryd.prog W .any base t v)
  (hW:DataW.Whole enc Tryd.prog Tryd.f4.params.toList Rows.wordsTellsSpec.vars false W args.toList ds gs before)
  (hsz:(DataW.weightsEach Tryd.prog (Tryd.f4.params.toList++(OpenSpec.ofChange Rows.wordsTellsSpec).bare.plain.varTypes Tryd.prog) (ds++gs)).all (·≤reachBytes)=true) :
  Calls Tryd.prog 4 args W fun e W'=>∃ v,e = .returned v∧Rows.wordsTellsSpec.post enc Tryd.prog Tryd.f4 false true false false W args v W':=by
 have hW':=hW
 obtain ⟨p0,q,hA0,hV,rfl,hfz,hnd⟩:=hW
 have hA:DataW.TrodAll enc Tryd.prog W 0 (fun _=>true) true Tryd.f4.params.toList args.toList ds p0:=hA0
 have hpar:Tryd.f4.params.toList=[25,3,3,3,23]:=by rw [Tryd.params4]
 rw [hpar] at hA hsz
 rw [Tryd.params4] at hval
 obtain ⟨v0,v1,v2,v3,v4,d0,d1,d2,d3,d4,p0,p1,p2,p3,p4,rfl,rfl,rfl,h0,h1,h2,h3,h4⟩:=trodAll_five hA
 obtain ⟨rfl,rfl⟩:=trodVars_none hV
 simp only [List.append_nil] at hW' hsz
 have hlt:∀ x∈p0++p1++p2++p3++p4,x.block < W.heap.size:=fun x hx=>by simpa using hW'.lt x hx
 obtain ⟨n1,rfl,rfl,rfl,w1⟩:=open_int Tryd.underlying3 (hval 1 3 v1 rfl rfl) h1
 obtain ⟨n2,rfl,rfl,rfl,w2⟩:=open_int Tryd.underlying3 (hval 2 3 v2 rfl rfl) h2
 obtain ⟨n3,rfl,rfl,rfl,w3⟩:=open_int Tryd.underlying3 (hval 3 3 v3 rfl rfl) h3
 have hsz2:(DataW.weightsEach Tryd.prog [25,3,3,3,23] [d0,(.lit (.int .i64 n1)),(.lit (.int .i64 n2)),(.lit (.int .i64 n3)),d4]).all (·≤reachBytes)=true:=hsz
 have hbits:=fun (x:Nat) hx=>of_decide_eq_true (List.all_eq_true.1 hsz2 x hx)
 obtain ⟨fw0,hw0⟩:=h0
 have hv0:=hval 0 25 v0 rfl rfl
 obtain ⟨cs0,hcs0,hsize0,ts0,hts0,_,hrow0⟩:∃ cs,v0 = .agg cs∧cs.size=Tryd.prog.cellsOf 25∧Row.okWide Tryd.prog W .any base 25 cs:=by
  unfold Value.okWide at hv0
  rw [Tryd.underlying25] at hv0
  exact hv0
 rw [types25] at hts0
 obtain rfl:=Option.some.inj hts0
 rw [cells25] at hsize0
 subst hcs0
 obtain ⟨a0,b0,rfl⟩:∃ a b,cs0 = #[a,b]:=by
  obtain ⟨l⟩:=cs0
  match l,hsize0 with
  | [a,b],_=>exact ⟨a,b,rfl⟩
 have hw'0:DataW.trod enc Tryd.prog W 0 (fun _=>true) true fw0 25 [a0,b0]=some (d0,p0):=hw0
 obtain ⟨xs0,nn0,rfl,hx0,_,hxl0,hf0⟩:=DataW.trod_struct Tryd.underlying25 hw'0
 have hoka0:Cell.okWide Tryd.prog W .any base 23 a0:=by
  obtain ⟨t,ht,hk⟩:=hrow0 0 a0 rfl
  simp at ht;subst ht;exact hk
 have hokb0:Cell.okWide Tryd.prog W .any base 23 b0:=by
  obtain ⟨t,ht,hk⟩:=hrow0 1 b0 rfl
  simp at ht;subst ht;exact hk
 obtain ⟨x0,y0,rfl⟩:∃ x0 x1,xs0=[x0,x1]:=by
  match xs0,hxl0 with
  | [x0,x1],_=>exact ⟨x0,x1,rfl⟩
 have ha0:DataW.trod enc Tryd.prog W 0 (fun _=>true) true nn0 23 (([a0,b0].drop 0).take (Tryd.prog.cellsOf 23))=some x0:=hf0 0 _ rfl
 have hb0:DataW.trod enc Tryd.prog W 0 (fun _=>true) true nn0 23 (([a0,b0].drop 1).take (Tryd.prog.cellsOf 23))=some y0:=hf0 1 _ rfl
 rw [cells23] at ha0 hb0
 have ha'0:DataW.trod enc Tryd.prog W 0 (fun _=>true) true nn0 23 [a0]=some x0:=ha0
 have hb'0:DataW.trod enc Tryd.prog W 0 (fun _=>true) true nn0 23 [b0]=some y0:=hb0
 obtain ⟨stem0,sa0,wa0,la0⟩:=Ai.slAt_open Tryd.underlying23 Tryd.underlying54 cells54 ha'0 hoka0
 obtain ⟨loop0,sb0,wb0,lb0⟩:=Ai.slAt_open Tryd.underlying23 Tryd.underlying54 cells54 hb'0 hokb0
 simp only [Prod.mk.injEq] at hx0
 have hd0:d0 = .agg [x0.1,y0.1]:=hx0.1
 have lena0:stem0.length≤reachBytes:=la0 _ (by rw [bytes54];omega) fun x hx=>hbits x (by simp only [hd0,DataW.weightsEach,DataW.weights,Tryd.underlying25];simp [DataW.weightsEach,hx])
 have lenb0:loop0.length≤reachBytes:=lb0 _ (by rw [bytes54];omega) fun x hx=>hbits x (by simp only [hd0,DataW.weightsEach,DataW.weights,Tryd.underlying25];simp [DataW.weightsEach,hx])
 obtain ⟨fu4,hu4⟩:=h4
 have hv4:=hval 4 23 v4 rfl rfl
 have hok4:Cell.okWide Tryd.prog W .any base 23 v4:=by
  unfold Value.okWide at hv4
  rw [Tryd.underlying23] at hv4
  exact hv4
 have hc4:v4.cells.toList=[v4]:=by
  unfold Cell.okWide at hok4
  rw [Tryd.underlying23] at hok4
  dsimp only at hok4
  unfold Cell.ok at hok4
  rw [Tryd.underlying23] at hok4
  cases v4 <;> first | rfl | exact hok4.elim
 have hu'4:=hu4
 rw [hc4] at hu'4
 obtain ⟨u4,su4,wu4,lu4⟩:=Ai.slAt_open Tryd.underlying23 Tryd.underlying54 cells54 hu'4 hok4
 have lenu4:u4.length≤reachBytes:=lu4 _ (by rw [bytes54];omega) fun x hx=>hbits x (by simp only [DataW.weightsEach];simp [hx])
 have hrb:reachBytes < 2 ^ 60:=by decide
 have rng:∀ z:Int,(Lit.int .i64 z).wf=true→-9223372036854775808≤z∧z < 9223372036854775808:=by
  intro z hz
  simp [Lit.wf,IntKind.min,IntKind.max,IntKind.signed,IntKind.bits] at hz
  omega
 have r16:∀ l:List Int,(∀ n∈l,(Lit.int .u16 n).wf=true)→Ai.W16 l:=fun l h n hn=>by
  have:=h n hn
  simp [Lit.wf,IntKind.min,IntKind.max,IntKind.signed,IntKind.bits] at this
  omega
 have top:=Ai.tells_top (C:=Ai.CT W) Ai.Tryd.mixed Ai.Tryd.tab_at.ok (works W) (Ai.itoa_pf (is0 hL)) Ai.itS_digs stem0 loop0 u4 n1 n2 n3 (rng n1 w1).1 (rng n1 w1).2 (rng n2 w2).1 (rng n2 w2).2 (rng n3 w3).1 (rng n3 w3).2 (by omega) (by omega) (by omega) (r16 _ wa0) (r16 _ wb0)
 have vw:Ai.VwS 3 W [] []:=Ai.VwS.nil
 have vw:=Ai.VwS.aggs (ws:=[a0,b0]) (qs:=[Ai.szU stem0,Ai.szU loop0]) (vs:=[]) (ps:=[]) rfl ((vw.slice sa0).slice sb0)
 have vw:=vw.lit (u:=.int .i64 n1) rfl
 have vw:=vw.lit (u:=.int .i64 n2) rfl
 have vw:=vw.lit (u:=.int .i64 n3) rfl
 have vw:=vw.slice su4
 have hcall:=vw.calls (C:=Ai.CT W) Ai.Tryd.mixed Ai.Tryd.tab_at.ok rfl (Nat.le_refl 3) (fun I g cs h=>by cases h) top
 refine hcall.mono fun e W' ⟨he,hbel⟩=>?_
 subst he
 have k0:DataW.Trod enc Tryd.prog W 0 (fun _=>true) true 25 (.agg #[a0,b0]) d0 p0:=⟨_,hw0⟩
 have k4:DataW.Trod enc Tryd.prog W 0 (fun _=>true) true 23 v4 d4 p4:=⟨_,hu4⟩
 exact ⟨_,rfl,post_of_below (pa:=p0++([]++([]++([]++p4)))) (pv:=[]) hW' (fun _ _ _=>trodAll_cons_mk (shut_bool Tryd.underlying4 _) trodAll_mk0) (fun sp hsp=>by
   rw [hpar]
   exact trodAll_mk5 (WideElems.Trod_stays laidOut (by kernel_rfl) (of_decide_eq_true (by kernel_rfl)) k0 (fun x hx=>hbel.same (hlt x (by simp [hx]))) (fun x hx=>hsp x (by simp [hx]))) (shut_int Tryd.underlying3 w1) (shut_int Tryd.underlying3 w2) (shut_int Tryd.underlying3 w3) (WideElems.Trod_stays laidOut (by kernel_rfl) (of_decide_eq_true (by kernel_rfl)) k4 (fun x hx=>hbel.same (hlt x (by simp [hx]))) (fun x hx=>hsp x (by simp [hx])))) (fun _ _=>rfl) (by simp)
  hbel (ok_one (by kernel_rfl) rfl (okWide_bool_mk Tryd.underlying4 _))⟩
set_option maxRecDepth 100000 in
def lay (i:Nat) (o:Obj):Obj:=
 match i with
  | 1=>if let .cells _ t frozen:=o then .cells #[.int .u8 0,.int .u8 1,.int .u8 28,.int .u8 2,.int .u8 29,.int .u8 14,.int .u8 24,.int .u8 3,.int .u8 30,.int .u8 22,.int .u8 20,.int .u8 15,.int .u8 25,.int .u8 17,.int .u8 4,.int .u8 8,.int .u8 31,.int .u8 27,.int .u8 13,.int .u8 23,.int .u8 21,.int .u8 19,.int .u8 16,.int .u8 7,.int .u8 26,.int .u8 12,.int .u8 18,.int .u8 6,.int .u8 11,.int .u8 5,.int .u8 10,.int .u8 9] t frozen else o
  | 2=>if let .cells _ t frozen:=o then .cells #[.int .u8 0,.int .u8 1,.int .u8 56,.int .u8 2,.int .u8 57,.int .u8 49,.int .u8 28,.int .u8 3,.int .u8 61,.int .u8 58,.int .u8 42,.int .u8 50,.int .u8 38,.int .u8 29,.int .u8 17,.int .u8 4,.int .u8 62,.int .u8 47,.int .u8 59,.int .u8 36,.int .u8 45,.int .u8 43,.int .u8 51,.int .u8 22,.int .u8 53,.int .u8 39,.int .u8 33,.int .u8 30,.int .u8 24,.int .u8 18,.int .u8 12,.int .u8 5,.int .u8 63,.int .u8 55,.int .u8 48,.int .u8 27,.int .u8 60,.int .u8 41,.int .u8 37,.int .u8 16,.int .u8 46,.int .u8 35,.int .u8 44,.int .u8 21,.int .u8 52,.int .u8 32,.int .u8 23,.int .u8 11,.int .u8 54,.int .u8 26,.int .u8 40,.int .u8 15,.int .u8 34,.int .u8 20,.int .u8 31,.int .u8 10,.int .u8 25,.int .u8 14,.int .u8 19,.int .u8 9,.int .u8 13,.int .u8 8,.int .u8 7,.int .u8 6] t frozen else o
  | 0=>if let .cells _ t frozen:=o then .cells #[.int .u64 1,.int .u64 10,.int .u64 100,.int .u64 1000,.int .u64 10000,.int .u64 100000,.int .u64 1000000,.int .u64 10000000,.int .u64 100000000,.int .u64 1000000000,.int .u64 10000000000,.int .u64 100000000000,.int .u64 1000000000000,.int .u64 10000000000000,.int .u64 100000000000000,.int .u64 1000000000000000,.int .u64 10000000000000000,.int .u64 100000000000000000,.int .u64 1000000000000000000,.int .u64 10000000000000000000] t frozen else o
  | _=>o
noncomputable def laidWorld (os:Os):World:=
 {World.holding Tryd.prog os ⟨#[],#[],[]⟩ with heap:=(World.holding Tryd.prog os ⟨#[],#[],[]⟩).heap.mapIdx lay }
theorem laid_met (os:Os):laidMet Tryd.prog Rows.wordsTellsRow.laid ((laidWorld os).forCall (fun _ _=>0) ⟨#[],#[.agg #[.slice none 0 0,.slice none 0 0],.int .i64 0,.int .i64 0,.int .i64 0,.slice none 0 0],[]⟩).memory:=
 laidMet_of_run' 8 (by kernel_rfl) (by kernel_rfl)
theorem reads (os:Os) {H:Type} (enc:TypeId × Value→H):∃ places,DataW.whole enc Tryd.prog ((laidWorld os).forCall (fun _ _=>0) ⟨#[],#[.agg #[.slice none 0 0,.slice none 0 0],.int .i64 0,.int .i64 0,.int .i64 0,.slice none 0 0],[]⟩).memory Tryd.f4.params.toList Rows.wordsTellsSpec.vars false (#[.agg #[.slice none 0 0,.slice none 0 0],.int .i64 0,.int .i64 0,.int .i64 0,.slice none 0 0]:Array Value).toList 8=some ([.agg [.nil,.nil],.lit (.int .i64 0),.lit (.int .i64 0),.lit (.int .i64 0),.nil],[],places):=
 ⟨[],by kernel_rfl⟩
set_option maxRecDepth 100000 in
theorem lifted (os:Os) (started:os.Started) (H:Type) (enc:TypeId × Value→H) (F:Stop.Interp) :
  ReturnsInHanded {} Tryd.checked os 4 .any ((OpenSpec.ofChange Rows.wordsTellsSpec).preRow enc Tryd.prog Tryd.f4 Rows.wordsTellsRow.domain false Rows.wordsTellsRow.laid) (((OpenSpec.ofChange Rows.wordsTellsSpec).at F).post enc Tryd.prog Tryd.f4 false true false false):=by
 obtain ⟨places,hx⟩:=reads os enc
 refine returnsInHanded_of_row (C:=Tryd.checked) (s:=OpenSpec.ofChange Rows.wordsTellsSpec) own started (by kernel_rfl) Tryd.func4
  (witness_row_at (enc:=enc) (C:=Tryd.checked) false (laidWorld os) #[.agg #[.slice none 0 0,.slice none 0 0],.int .i64 0,.int .i64 0,.int .i64 0,.slice none 0 0] rfl (by kernel_rfl) (by kernel_rfl) (by kernel_rfl)
   (OpenSpec.preRow_of_cond 8 hx (by kernel_rfl) (fun k hk=>by cases hk) (by kernel_rfl) (laid_met os))) ?_
 intro W base args ds gs before hval hW _ _ hsz hL _ _
 exact contract H enc W base args ds gs before hL hval hW hsz
set_option maxRecDepth 100000 in
theorem said:Rows.WordsTellsSaid:=
 OpenClaim.holds_of_cond 4 Tryd.f4 rfl rfl rfl rfl rfl rfl rfl ⟨rfl,rfl,rfl,rfl,rfl⟩ rfl rfl rfl rfl rfl (by kernel_rfl) Tryd.func4 (by kernel_rfl)
  (of_decide_eq_true (by kernel_rfl)) (by unfold Func.isWrapper;first | (rw [if_pos (by decide +kernel)];kernel_rfl) | (rw [if_neg (by decide +kernel)];exact ⟨rfl,rfl⟩))
  (fun os started H enc _ F=>by rw [OpenClaim.pre_eq_preRow];exact lifted os started H enc F)
set_option maxRecDepth 100000 in
theorem plain (f:FuncId) (fn:Func) (hf:Tryd.pinned.checked.prog.funcNamed "augur/augurlaw05.WordsTells" = some f) (hfn:Tryd.pinned.checked.prog.funcs[f]? = some fn) :
  false=Tryd.pinned.checked.prog.looks []∧∀ (j:Nat) t,fn.params[j]? = some t→Tryd.pinned.checked.prog.wantsStandIn t=false:=by
 obtain rfl:f=4:=Option.some.inj ((show Tryd.prog.funcNamed "augur/augurlaw05.WordsTells" = some 4 by kernel_rfl).symm.trans hf) |>.symm
 obtain rfl:fn=Tryd.f4:=(Option.some.inj (Tryd.func4.symm.trans hfn)).symm
 refine ⟨by kernel_rfl,fun j t ht=>?_⟩
 rw [Tryd.params4] at ht
 match j,ht with
 | 0,ht=>
  simp at ht
  rw [← ht]
  exact (show Tryd.prog.wantsStandIn 25=false by kernel_rfl)
 | 1,ht=>
  simp at ht
  rw [← ht]
  exact (show Tryd.prog.wantsStandIn 3=false by kernel_rfl)
 | 2,ht=>
  simp at ht
  rw [← ht]
  exact (show Tryd.prog.wantsStandIn 3=false by kernel_rfl)
 | 3,ht=>
  simp at ht
  rw [← ht]
  exact (show Tryd.prog.wantsStandIn 3=false by kernel_rfl)
 | 4,ht=>
  simp at ht
  rw [← ht]
  exact (show Tryd.prog.wantsStandIn 23=false by kernel_rfl)
 | j + 5,ht=>simp at ht
set_option maxRecDepth 100000 in
theorem card:Rows.WordsTellsCardSaid:=
 Claim7.holds_tied_plain_at .later [] _ _ _ _ said (fun _ h=>by cases h) (by kernel_rfl) (fun _ h=>by cases h) wordsTells_row_tie rfl ⟨rfl,rfl⟩ (by kernel_rfl) rfl plain (by kernel_rfl)
end Go.Proofs.YtkldgoapompinaaDoor.wordsTells
#print axioms Go.Proofs.YtkldgoapompinaaDoor.wordsTells.card
