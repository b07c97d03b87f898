/- WHAT IS PROVED: the card of 'augurlaw05.WordsReads': whatever the arguments, the law returns true, and the arguments read as they did. -/
import Derived.Test.YtkldgoapompinaaDoorCards
import Derived.Test.YtkldgoapompinaaDoorTie
import Derived.WalkKit
import Derived.ProofKit
import Derived.OpenShut
import Derived.Carry
import Derived.Deep.DeepHandedRow
import Derived.Lib.LaidTab
import Derived.Stop.LaidErr
import Derived.LaidMore
import Derived.Stop.ErrReads
import Derived.Test.YtkldgoapompinaaDoorIrRT
import Derived.Test.YtkldgoapompinaaDoorRunR
import Derived.Test.YtkldgoapompinaaDoorWrK
import Derived.Test.YtkldgoapompinaaDoorWrD
import Derived.ChangeMaps5
import Derived.Test.YtkldgoapompinaaDoorPv4
namespace Go.Proofs.YtkldgoapompinaaDoor.wordsReads
open Go.ChangeShapes Go.WideShapes Go.ChangeAt Go.RowKit
set_option linter.unusedVariables false
set_option linter.unusedSimpArgs false
theorem own:ownKnob Tryd.prog.godebug=none:=by kernel_rfl
theorem is0 {W:World} (h:laidMetH Tryd.prog Rows.wordsReadsRow.laid W):Lib.TabIs Tryd.prog W "internal/strconv.uint64pow10" .u64 Lib.pow10Tab:=by
 have L:laidMet Tryd.prog Rows.wordsReadsRow.laid W:=h
 exact Lib.tabIs_of_head (g:=0) (t:=148) (e:=141) (n:=20) (k:=.u64) (zs:=Lib.pow10Tab) (by kernel_rfl) (by kernel_rfl) (by kernel_rfl) (by kernel_rfl) (by kernel_rfl) (by kernel_rfl) (L.tail.tail)
theorem works (W:World):Ai.PFun (Ai.CT W) 12 [] (.lit (.bool true)):=Ai.PFun.of_yes Ai.Tryd.mixed Ai.Tryd.tab_at.ok (by show 3≤16;omega) Ai.WB.run_yes
theorem post_of_below {H:Type} {enc:TypeId × Value→H} {P:Program} {f:Func} {s:ChangeSpec} {apart fresh handsOn again:Bool} {W W':World} {args:Array Value} {v:Value} {ds gs:List (DataW H)} {before pa pv:List MemPlace}
  (hW:DataW.Whole enc P f.params.toList s.vars apart W args.toList ds gs before)
  (hres:∀ (b:Nat) (sp:Nat→Bool) (hd:Bool),DataW.TrodAll enc P W' b sp hd f.resultTypes.toList (v.resultList f.resultTypes.size) (s.fn H (ds++gs)).results [])
  (hargs:∀ sp:Nat→Bool,(∀ p∈before,sp p.block=true)→DataW.TrodAll enc P W' 0 sp true f.params.toList args.toList (s.fn H (ds++gs)).args pa)
  (hvars:∀ sp:Nat→Bool,(∀ p∈before,sp p.block=true)→DataW.TrodVars enc P W' sp s.vars (s.fn H (ds++gs)).vars pv)
  (hps:before=pa++pv) (hb:Below W.heap.size W W')
  (hok:∀ (j:Nat) (t:TypeId) (r:Value),f.resultTypes[j]? = some t→(v.resultList f.resultTypes.size)[j]? = some r→Value.okWide P W' .any 0 t r) :
  s.post enc P f apart fresh handsOn again W args v W':=by
 have hlt:=hW.lt
 have hold:∀ p∈before,(fun b=>decide (b < W.heap.size)) p.block=true:=fun p hp=>by simpa using hW.lt p hp
 refine ⟨ds,gs,before,[],pa,pv,hW,hres _ _ _,hargs _ hold,hvars _ hold,World.keptBut_mono (fun p hp=>⟨hp,?_⟩) (hb.frame (·∈before)),fun _=>?_⟩
 ·rw [hps,List.mem_append] at hp
  exact Or.inr hp
 ·obtain ⟨_,_,_,_,_,hz,hn⟩:=hW
  refine ⟨hok,_,_,([]++pa)++pv,⟨[]++pa,pv,trodAll_append (hargs _ (fun _ _=>rfl)) (hres _ _ _),hvars _ (fun _ _=>rfl),rfl,?_,?_⟩,?_⟩
  ·intro b off hp
   have hp':MemPlace.cell b off∈before:=by rw [hps];simpa using hp
   rw [hb.frozen (hlt _ hp')]
   exact hz b off hp'
  ·intro ha
   have:=hn ha
   rw [hps] at this
   simpa using this
  ·intro p hp _
   rw [hps]
   simpa using hp
set_option maxRecDepth 100000 in
theorem contract (H:Type) (enc:TypeId × Value→H) (W:World) (base:Nat) (args:Array Value) (ds gs:List (DataW H)) (before:List MemPlace) (hL:laidMetH Tryd.prog Rows.wordsReadsRow.laid W)
  (hval:∀ (j:Nat) t v,Tryd.f10.params[j]? = some t→args[j]? = some v→Value.okWide Tryd.prog W .any base t v)
  (hW:DataW.Whole enc Tryd.prog Tryd.f10.params.toList Rows.wordsReadsSpec.vars false W args.toList ds gs before)
  (hsz:(DataW.weightsEach Tryd.prog (Tryd.f10.params.toList++(OpenSpec.ofChange Rows.wordsReadsSpec).bare.plain.varTypes Tryd.prog) (ds++gs)).all (·≤reachBytes)=true) :
  Calls Tryd.prog 10 args W fun e W'=>∃ v,e = .returned v∧Rows.wordsReadsSpec.post enc Tryd.prog Tryd.f10 false true false false W args v W':=by
 have hW':=hW
 obtain ⟨p0,q,hA0,hV,rfl,hfz,hnd⟩:=hW
 have hA:DataW.TrodAll enc Tryd.prog W 0 (fun _=>true) true Tryd.f10.params.toList args.toList ds p0:=hA0
 have hpar:Tryd.f10.params.toList=[9]:=by rw [Tryd.params10]
 rw [hpar] at hA hsz
 rw [Tryd.params10] at hval
 obtain ⟨v0,d0,rfl,rfl,h0⟩:=trodAll_one hA
 obtain ⟨rfl,rfl⟩:=trodVars_none hV
 simp only [List.append_nil] at hW' hsz
 obtain ⟨s0,rfl,rfl,rfl,w0⟩:=Go.ChangeMaps.open_string Tryd.underlying9 (hval 0 9 v0 rfl rfl) h0
 have hsz2:(DataW.weightsEach Tryd.prog [9] [.lit (.string s0.data.toList)]).all (·≤reachBytes)=true:=hsz
 have hbits:=fun (x:Nat) hx=>of_decide_eq_true (List.all_eq_true.1 hsz2 x hx)
 have len0:s0.data.toList.length≤reachBytes:=hbits _ (by simp [DataW.weightsEach,DataW.weights])
 have len1:s0.data.toList.length=s0.size:=Array.length_toList
 have hrb:reachBytes < 2 ^ 60:=by decide
 have top:=Ai.reads_top (C:=Ai.CT W) Ai.Tryd.mixed Ai.Tryd.tab_at.ok (works W) (Ai.itoa_pf (is0 hL)) Ai.itS_digs s0 (by omega)
 have vw:Ai.VwS 3 W [] []:=Ai.VwS.nil
 have vw:=vw.lit (u:=.string s0) rfl
 have hcall:=vw.calls (C:=Ai.CT W) Ai.Tryd.mixed Ai.Tryd.tab_at.ok rfl (Nat.le_refl 3) (fun I g cs h=>by cases h) top
 refine hcall.mono fun e W' ⟨he,hbel⟩=>?_
 subst he
 exact ⟨_,rfl,post_of_below (pa:=[]) (pv:=[]) hW' (fun _ _ _=>trodAll_cons_mk (shut_bool Tryd.underlying4 _) trodAll_mk0) (fun sp hsp=>by
   rw [hpar]
   exact trodAll_mk1 (Go.ChangeMaps.shut_string Tryd.underlying9 w0)) (fun _ _=>rfl) (by simp)
  hbel (ok_one (by kernel_rfl) rfl (okWide_bool_mk Tryd.underlying4 _))⟩
set_option maxRecDepth 100000 in
def lay (i:Nat) (o:Obj):Obj:=
 match i with
  | 1=>if let .cells _ t frozen:=o then .cells #[.int .u8 0,.int .u8 1,.int .u8 28,.int .u8 2,.int .u8 29,.int .u8 14,.int .u8 24,.int .u8 3,.int .u8 30,.int .u8 22,.int .u8 20,.int .u8 15,.int .u8 25,.int .u8 17,.int .u8 4,.int .u8 8,.int .u8 31,.int .u8 27,.int .u8 13,.int .u8 23,.int .u8 21,.int .u8 19,.int .u8 16,.int .u8 7,.int .u8 26,.int .u8 12,.int .u8 18,.int .u8 6,.int .u8 11,.int .u8 5,.int .u8 10,.int .u8 9] t frozen else o
  | 2=>if let .cells _ t frozen:=o then .cells #[.int .u8 0,.int .u8 1,.int .u8 56,.int .u8 2,.int .u8 57,.int .u8 49,.int .u8 28,.int .u8 3,.int .u8 61,.int .u8 58,.int .u8 42,.int .u8 50,.int .u8 38,.int .u8 29,.int .u8 17,.int .u8 4,.int .u8 62,.int .u8 47,.int .u8 59,.int .u8 36,.int .u8 45,.int .u8 43,.int .u8 51,.int .u8 22,.int .u8 53,.int .u8 39,.int .u8 33,.int .u8 30,.int .u8 24,.int .u8 18,.int .u8 12,.int .u8 5,.int .u8 63,.int .u8 55,.int .u8 48,.int .u8 27,.int .u8 60,.int .u8 41,.int .u8 37,.int .u8 16,.int .u8 46,.int .u8 35,.int .u8 44,.int .u8 21,.int .u8 52,.int .u8 32,.int .u8 23,.int .u8 11,.int .u8 54,.int .u8 26,.int .u8 40,.int .u8 15,.int .u8 34,.int .u8 20,.int .u8 31,.int .u8 10,.int .u8 25,.int .u8 14,.int .u8 19,.int .u8 9,.int .u8 13,.int .u8 8,.int .u8 7,.int .u8 6] t frozen else o
  | 0=>if let .cells _ t frozen:=o then .cells #[.int .u64 1,.int .u64 10,.int .u64 100,.int .u64 1000,.int .u64 10000,.int .u64 100000,.int .u64 1000000,.int .u64 10000000,.int .u64 100000000,.int .u64 1000000000,.int .u64 10000000000,.int .u64 100000000000,.int .u64 1000000000000,.int .u64 10000000000000,.int .u64 100000000000000,.int .u64 1000000000000000,.int .u64 10000000000000000,.int .u64 100000000000000000,.int .u64 1000000000000000000,.int .u64 10000000000000000000] t frozen else o
  | _=>o
noncomputable def laidWorld (os:Os):World:=
 {World.holding Tryd.prog os ⟨#[],#[],[]⟩ with heap:=(World.holding Tryd.prog os ⟨#[],#[],[]⟩).heap.mapIdx lay }
theorem laid_met (os:Os):laidMet Tryd.prog Rows.wordsReadsRow.laid ((laidWorld os).forCall (fun _ _=>0) ⟨#[],#[.string ByteArray.empty],[]⟩).memory:=
 laidMet_of_run' 8 (by kernel_rfl) (by kernel_rfl)
theorem reads (os:Os) {H:Type} (enc:TypeId × Value→H):∃ places,DataW.whole enc Tryd.prog ((laidWorld os).forCall (fun _ _=>0) ⟨#[],#[.string ByteArray.empty],[]⟩).memory Tryd.f10.params.toList Rows.wordsReadsSpec.vars false (#[.string ByteArray.empty]:Array Value).toList 8=some ([.lit (.string [])],[],places):=
 ⟨[],by kernel_rfl⟩
set_option maxRecDepth 100000 in
theorem lifted (os:Os) (started:os.Started) (H:Type) (enc:TypeId × Value→H) (F:Stop.Interp) :
  ReturnsInHanded {} Tryd.checked os 10 .any ((OpenSpec.ofChange Rows.wordsReadsSpec).preRow enc Tryd.prog Tryd.f10 Rows.wordsReadsRow.domain false Rows.wordsReadsRow.laid) (((OpenSpec.ofChange Rows.wordsReadsSpec).at F).post enc Tryd.prog Tryd.f10 false true false false):=by
 obtain ⟨places,hx⟩:=reads os enc
 refine returnsInHanded_of_row (C:=Tryd.checked) (s:=OpenSpec.ofChange Rows.wordsReadsSpec) own started (by kernel_rfl) Tryd.func10
  (witness_row_at (enc:=enc) (C:=Tryd.checked) false (laidWorld os) #[.string ByteArray.empty] rfl (by kernel_rfl) (by kernel_rfl) (by kernel_rfl)
   (OpenSpec.preRow_of_cond 8 hx (by kernel_rfl) (fun k hk=>by cases hk) (by kernel_rfl) (laid_met os))) ?_
 intro W base args ds gs before hval hW _ _ hsz hL _ _
 exact contract H enc W base args ds gs before hL hval hW hsz
set_option maxRecDepth 100000 in
theorem said:Rows.WordsReadsSaid:=
 OpenClaim.holds_of_cond 10 Tryd.f10 rfl rfl rfl rfl rfl rfl rfl ⟨rfl,rfl,rfl,rfl,rfl⟩ rfl rfl rfl rfl rfl (by kernel_rfl) Tryd.func10 (by kernel_rfl)
  (of_decide_eq_true (by kernel_rfl)) (by unfold Func.isWrapper;first | (rw [if_pos (by decide +kernel)];kernel_rfl) | (rw [if_neg (by decide +kernel)];exact ⟨rfl,rfl⟩))
  (fun os started H enc _ F=>by rw [OpenClaim.pre_eq_preRow];exact lifted os started H enc F)
set_option maxRecDepth 100000 in
theorem plain (f:FuncId) (fn:Func) (hf:Tryd.pinned.checked.prog.funcNamed "augur/augurlaw05.WordsReads" = some f) (hfn:Tryd.pinned.checked.prog.funcs[f]? = some fn) :
  false=Tryd.pinned.checked.prog.looks []∧∀ (j:Nat) t,fn.params[j]? = some t→Tryd.pinned.checked.prog.wantsStandIn t=false:=by
 obtain rfl:f=10:=Option.some.inj ((show Tryd.prog.funcNamed "augur/augurlaw05.WordsReads" = some 10 by kernel_rfl).symm.trans hf) |>.symm
 obtain rfl:fn=Tryd.f10:=(Option.some.inj (Tryd.func10.symm.trans hfn)).symm
 refine ⟨by kernel_rfl,fun j t ht=>?_⟩
 rw [Tryd.params10] at ht
 match j,ht with
 | 0,ht=>
  simp at ht
  rw [← ht]
  exact (show Tryd.prog.wantsStandIn 9=false by kernel_rfl)
 | j + 1,ht=>simp at ht
set_option maxRecDepth 100000 in
theorem card:Rows.WordsReadsCardSaid:=
 Claim7.holds_tied_plain_at .later [] _ _ _ _ said (fun _ h=>by cases h) (by kernel_rfl) (fun _ h=>by cases h) wordsReads_row_tie rfl ⟨rfl,rfl⟩ (by kernel_rfl) rfl plain (by kernel_rfl)
end Go.Proofs.YtkldgoapompinaaDoor.wordsReads
#print axioms Go.Proofs.YtkldgoapompinaaDoor.wordsReads.card
