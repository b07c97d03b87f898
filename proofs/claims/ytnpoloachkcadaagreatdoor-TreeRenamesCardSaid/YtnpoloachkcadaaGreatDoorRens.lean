/- WHAT IS PROVED: the card of 'augurlaw03.TreeRenames'. -/
import Derived.Test.YtnpoloachkcadaaGreatDoorCards
import Derived.Test.YtnpoloachkcadaaGreatDoorTie
import Derived.WalkKit
import Derived.ProofKit
import Derived.OpenShut
import Derived.Deep.DeepHandedRow
import Derived.Lib.LaidTab
import Derived.Stop.LaidErr
import Derived.LaidMore
import Derived.Stop.ErrReads
import Derived.Carry
import Derived.Test.YtnpoloachkcadaaGreatDoorPuK
import Derived.Test.YtnpoloachkcadaaGreatDoorPuE
namespace Go.Proofs.YtnpoloachkcadaaGreatDoor.treeRenames
open Go.ChangeShapes Go.WideShapes Go.ChangeAt Go.RowKit
theorem own:ownKnob Tryz.prog.godebug=none:=by kernel_rfl
theorem is0 {W:World} (h:laidMetH Tryz.prog Rows.treeRenamesRow.laid W):Lib.TabIs Tryz.prog W "augur/tree.kids" .i8 Ai.Awake.tab0:=by
 have L:laidMet Tryz.prog Rows.treeRenamesRow.laid W:=h
 exact Lib.tabIs_of_head (g:=0) (t:=168) (e:=167) (n:=22) (k:=.i8) (zs:=Ai.Awake.tab0) (by kernel_rfl) (by kernel_rfl) (by kernel_rfl) (by kernel_rfl) (by kernel_rfl) (by kernel_rfl) (L.tail.tail.tail.tail.tail.tail)
theorem star : "*" ++ "errors.errorString" = "*errors.errorString" := by decide
theorem row_of (u:TypeId) (h:Tryz.prog.typeName? 3 u=some "*errors.errorString"):u=219:=
 typeName_ptr_named (nm:="errors.errorString") (by rw [star];kernel_rfl) (by kernel_rfl) (by decide) u (by rw [star];exact h)
theorem ptr2 {W:World} (h:laidMetH Tryz.prog Rows.treeRenamesRow.laid W):∃ a:Addr,a.spot=none∧W.var? Tryz.prog "strconv.ErrSyntax" = some #[.iface 219 (.pointer (some a))]:=by
 have L:laidMet Tryz.prog Rows.treeRenamesRow.laid W:=h
 obtain ⟨a,s,h1,h2,_,_⟩:=laid_sentinel (g:=2) (tp:=219) (te:=221) (ts:=9) (L.tail.tail.tail.tail.tail) (by kernel_rfl) (by kernel_rfl) Tryz.underlying121 row_of Tryz.underlying219 Tryz.underlying221 rfl rfl Tryz.underlying9 (by kernel_rfl) (by kernel_rfl)
 refine ⟨a,?_,h1⟩
 unfold World.cell? at h2
 split at h2
 ·split at h2
  ·simp at h2
  ·rename_i hs
   simpa using hs
 ·simp at h2
theorem laidOut:laidOutB Tryz.prog=true:=by kernel_rfl
theorem awake {W:World} (hL:laidMetH Tryz.prog Rows.treeRenamesRow.laid W):Ai.PFun (Ai.CT W) 14 [] (.lit (.bool true)):=by
 obtain ⟨u0,f0,c0⟩:=Ai.laid_of_is (is0 hL) (g:=0) (by kernel_rfl)
 obtain ⟨a,ha,hv⟩:=ptr2 hL
 have hg:Ai.Glob 9 (Ai.withPtr 9 a):=Ai.withPtr_glob (by decide) a
 have hl:∀ x∈Ai.Awake.laidTabs 0,Ai.LaidAt 9 (Ai.withPtr 9 a) W 16 x:=by
  intro x hx
  simp only [Ai.Awake.laidTabs,List.mem_cons,List.not_mem_nil,or_false] at hx
  rcases hx with rfl | rfl
  ·exact Ai.laidAt_ints hg (show 0 < 16 by decide) (Nat.lt_succ_self _) (show 0 < 9 by decide) ⟨u0,f0,c0⟩
  ·exact Ai.laidAt_ptr (P:=Tryz.prog) (name:="strconv.ErrSyntax") (show 9 < 16 by decide) (show 2 < 16 by decide) (Nat.lt_succ_self _) (show 2 < 9 by decide) (by kernel_rfl) ha hv
 exact Ai.awake_pf hg hl
theorem walk {W:World} (hL:laidMetH Tryz.prog Rows.treeRenamesRow.laid W) {args:List Value} {f:Ai.Fm} {g:List ByteArray} {h:List ByteArray} (of:f.ok) (pf:f.opsOK)  (zg:g.length < 2 ^ 50) (zh:h.length < 2 ^ 50)  (sg:∀ s∈g,s.size < 2 ^ 50) (sh:∀ s∈h,s.size < 2 ^ 50) (ho:Ai.OpenAny Tryz.prog 9 [185] W args [Ai.fP f,.sz (Ai.sL g) g.length,.sz (Ai.sL h) h.length]) :
  Calls Tryz.prog 9 ⟨args⟩ W fun e w'=>e = .returned (.bool true)∧Below W.heap.size W w':=
 Ai.Opens.calls (C:=Ai.CT W) Ai.Tryz.mixed Ai.Tryz.tab_at.ok rfl Ai.grd0 (ho _ _ _ (Ai.op0 (is0 hL))) (Ai.renames_top (C:=Ai.CT W) Ai.Tryz.mixed Ai.Tryz.tab_at.ok rfl (awake hL) f g h of pf zg zh sg sh)
theorem post_of_below {H:Type} {enc:TypeId × Value→H} {P:Program} {f:Func} {s:ChangeSpec} {apart fresh handsOn again:Bool} {W W':World} {args:Array Value} {v:Value} {ds gs:List (DataW H)} {before pa pv:List MemPlace}
  (hW:DataW.Whole enc P f.params.toList s.vars apart W args.toList ds gs before)
  (hres:∀ (b:Nat) (sp:Nat→Bool) (hd:Bool),DataW.TrodAll enc P W' b sp hd f.resultTypes.toList (v.resultList f.resultTypes.size) (s.fn H (ds++gs)).results [])
  (hargs:∀ sp:Nat→Bool,(∀ p∈before,sp p.block=true)→DataW.TrodAll enc P W' 0 sp true f.params.toList args.toList (s.fn H (ds++gs)).args pa)
  (hvars:∀ sp:Nat→Bool,(∀ p∈before,sp p.block=true)→DataW.TrodVars enc P W' sp s.vars (s.fn H (ds++gs)).vars pv)
  (hps:before=pa++pv) (hb:Below W.heap.size W W')
  (hok:∀ (j:Nat) (t:TypeId) (r:Value),f.resultTypes[j]? = some t→(v.resultList f.resultTypes.size)[j]? = some r→Value.okWide P W' .any 0 t r) :
  s.post enc P f apart fresh handsOn again W args v W':=by
 have hlt:=hW.lt
 have hold:∀ p∈before,(fun b=>decide (b < W.heap.size)) p.block=true:=fun p hp=>by simpa using hW.lt p hp
 refine ⟨ds,gs,before,[],pa,pv,hW,hres _ _ _,hargs _ hold,hvars _ hold,World.keptBut_mono (fun p hp=>⟨hp,?_⟩) (hb.frame (·∈before)),fun _=>?_⟩
 ·rw [hps,List.mem_append] at hp
  exact Or.inr hp
 ·obtain ⟨_,_,_,_,_,hz,hn⟩:=hW
  refine ⟨hok,_,_,([]++pa)++pv,⟨[]++pa,pv,trodAll_append (hargs _ (fun _ _=>rfl)) (hres _ _ _),hvars _ (fun _ _=>rfl),rfl,?_,?_⟩,?_⟩
  ·intro b off hp
   have hp':MemPlace.cell b off∈before:=by rw [hps];simpa using hp
   rw [hb.frozen (hlt _ hp')]
   exact hz b off hp'
  ·intro ha
   have:=hn ha
   rw [hps] at this
   simpa using this
  ·intro p hp _
   rw [hps]
   simpa using hp
set_option maxRecDepth 100000 in
theorem contract (H:Type) (enc:TypeId × Value→H) (W:World) (base:Nat) (args:Array Value) (ds gs:List (DataW H)) (before:List MemPlace) (hL:laidMetH Tryz.prog Rows.treeRenamesRow.laid W)
  (hval:∀ (j:Nat) t v,Tryz.f9.params[j]? = some t→args[j]? = some v→Value.okWide Tryz.prog W .any base t v)
  (hW:DataW.Whole enc Tryz.prog Tryz.f9.params.toList Rows.treeRenamesSpec.vars false W args.toList ds gs before)
  (hsz:(DataW.weightsEach Tryz.prog (Tryz.f9.params.toList++(OpenSpec.ofChange Rows.treeRenamesSpec).bare.plain.varTypes Tryz.prog) (ds++gs)).all (·≤reachBytes)=true) :
  Calls Tryz.prog 9 args W fun e W'=>∃ v,e = .returned v∧Rows.treeRenamesSpec.post enc Tryz.prog Tryz.f9 false true false false W args v W':=by
 have hW':=hW
 obtain ⟨p,q,hA0,hV,rfl,hfz,hnd⟩:=hW
 have hA:DataW.TrodAll enc Tryz.prog W 0 (fun _=>true) true Tryz.f9.params.toList args.toList ds p:=hA0
 have hpar:Tryz.f9.params.toList=[27,53,53]:=by rw [Tryz.params9]
 rw [hpar] at hA hsz
 rw [Tryz.params9] at hval
 obtain ⟨v0,v1,v2,d0,d1,d2,p0,p1,p2,rfl,rfl,rfl,h0,h1,h2⟩:=trodAll_three hA
 obtain ⟨rfl,rfl⟩:=trodVars_none hV
 simp only [List.append_nil] at hW' hsz
 have hlt:∀ x∈p0++p1++p2,x.block < W.heap.size:=fun x hx=>by simpa using hW'.lt x hx
 have hsz2:(DataW.weightsEach Tryz.prog [27,53,53] [d0,d1,d2]).all (·≤reachBytes)=true:=hsz
 have hbits:=fun (x:Nat) hx=>of_decide_eq_true (List.all_eq_true.1 hsz2 x hx)
 have hb:∃ (b:Nat) (C:Array Value) (t:TypeId) (fr:Nat × Nat),W.heap[b]? = some (.cells C t fr):=by
  obtain ⟨u0,f0,c0⟩:=Ai.laid_of_is (is0 hL) (g:=0) (by kernel_rfl)
  exact ⟨_,_,_,_,c0⟩
 have hagg:∀ v,Value.okWide Tryz.prog W .any base 27 v→∃ cs:Array Value,v = .agg cs:=by
  intro v hv
  unfold Value.okWide at hv
  rw [Tryz.underlying27] at hv
  obtain ⟨cs,h,_⟩:=hv
  exact ⟨cs,h⟩
 obtain ⟨f,of,pf,xf⟩:=Ai.Fm.open_arg hb (hagg _ (hval 0 27 v0 rfl rfl)) h0 fun m hm=>hbits m (by simp [DataW.weightsEach,hm])
 obtain ⟨g,zg,sg,xg⟩:=Ai.texts_open (ng:=9) (ts:=[185]) Tryz.underlying53 Tryz.underlying9 (by kernel_rfl) (of_decide_eq_true (by kernel_rfl)) hb (okWide_slice Tryz.underlying53 (hval 1 53 v1 rfl rfl)) h1 fun m hm=>hbits m (by simp [DataW.weightsEach,hm])
 obtain ⟨h,zh,sh,xh⟩:=Ai.texts_open (ng:=9) (ts:=[185]) Tryz.underlying53 Tryz.underlying9 (by kernel_rfl) (of_decide_eq_true (by kernel_rfl)) hb (okWide_slice Tryz.underlying53 (hval 2 53 v2 rfl rfl)) h2 fun m hm=>hbits m (by simp [DataW.weightsEach,hm])
 have hcall:=walk hL (args:=[v0,v1,v2]) of pf zg zh sg sh ((xf.append xg).append xh)
 refine hcall.mono fun e W' ⟨he,hbel⟩=>?_
 subst he
 exact ⟨_,rfl,post_of_below (pa:=p0++(p1++p2)) (pv:=[]) hW' (fun _ _ _=>trodAll_cons_mk (shut_bool Tryz.underlying4 _) trodAll_mk0) (fun sp hsp=>by
   rw [hpar]
   exact trodAll_mk3 (WideElems.Trod_stays laidOut (by kernel_rfl) (of_decide_eq_true (by kernel_rfl)) h0 (fun x hx=>hbel.same (hlt x (by simp [hx]))) (fun x hx=>hsp x (by simp [hx]))) (WideElems.Trod_stays laidOut (by kernel_rfl) (of_decide_eq_true (by kernel_rfl)) h1 (fun x hx=>hbel.same (hlt x (by simp [hx]))) (fun x hx=>hsp x (by simp [hx]))) (WideElems.Trod_stays laidOut (by kernel_rfl) (of_decide_eq_true (by kernel_rfl)) h2 (fun x hx=>hbel.same (hlt x (by simp [hx]))) (fun x hx=>hsp x (by simp [hx])))) (fun _ _=>rfl) (by simp)
  hbel (ok_one (by kernel_rfl) rfl (okWide_bool_mk Tryz.underlying4 _))⟩
def lay (i:Nat) (o:Obj):Obj:=
 match i with
  | 4=>if let .cells _ t frozen:=o then .cells (Pinned.utf8FirstZ.map fun (z:Nat)=>Value.int .u8 z).toArray t frozen else o
  | _=>o
noncomputable def laidWorld (os:Os):World:={World.doorLaid Tryz.prog 84 os with heap:=(World.doorLaid Tryz.prog 84 os).heap.mapIdx lay }
theorem laid_met (os:Os):laidMet Tryz.prog Rows.treeRenamesRow.laid ((laidWorld os).forCall (fun _ _=>0) ⟨#[],#[.agg #[.int .u8 0,.string ⟨#[]⟩,.slice none 0 0],.slice none 0 0,.slice none 0 0],[]⟩).memory:=
 laidMet_of_run' 8 (by kernel_rfl) (by kernel_rfl)
theorem reads (os:Os) {H:Type} (enc:TypeId × Value→H):∃ places,DataW.whole enc Tryz.prog ((laidWorld os).forCall (fun _ _=>0) ⟨#[],#[.agg #[.int .u8 0,.string ⟨#[]⟩,.slice none 0 0],.slice none 0 0,.slice none 0 0],[]⟩).memory Tryz.f9.params.toList Rows.treeRenamesSpec.vars false (#[.agg #[.int .u8 0,.string ⟨#[]⟩,.slice none 0 0],.slice none 0 0,.slice none 0 0]:Array Value).toList 8=some ([.agg [.lit (.int .u8 0),.lit (.string []),.nil],.nil,.nil],[],places):=
 ⟨[],by kernel_rfl⟩
set_option maxRecDepth 100000 in
theorem lifted (os:Os) (started:os.Started) (H:Type) (enc:TypeId × Value→H) (F:Stop.Interp) :
  ReturnsInHanded {} Tryz.checked os 9 .any ((OpenSpec.ofChange Rows.treeRenamesSpec).preRow enc Tryz.prog Tryz.f9 Rows.treeRenamesRow.domain false Rows.treeRenamesRow.laid) (((OpenSpec.ofChange Rows.treeRenamesSpec).at F).post enc Tryz.prog Tryz.f9 false true false false):=by
 obtain ⟨places,hx⟩:=reads os enc
 refine returnsInHanded_of_row (C:=Tryz.checked) (s:=OpenSpec.ofChange Rows.treeRenamesSpec) own started (by kernel_rfl) Tryz.func9
  (witness_row_at (enc:=enc) (C:=Tryz.checked) false (laidWorld os) #[.agg #[.int .u8 0,.string ⟨#[]⟩,.slice none 0 0],.slice none 0 0,.slice none 0 0] rfl (by kernel_rfl) (by kernel_rfl) (by kernel_rfl)
   (OpenSpec.preRow_of_cond 8 hx (by kernel_rfl) (fun k hk=>by cases hk) (by kernel_rfl) (laid_met os))) ?_
 intro W base args ds gs before hval hW _ _ hsz hL _ _
 exact contract H enc W base args ds gs before hL hval hW hsz
set_option maxRecDepth 100000 in
theorem said:Rows.TreeRenamesSaid:=
 OpenClaim.holds_of_cond 9 Tryz.f9 rfl rfl rfl rfl rfl rfl rfl ⟨rfl,rfl,rfl,rfl,rfl⟩ rfl rfl rfl rfl rfl (by kernel_rfl) Tryz.func9 (by kernel_rfl)
  (of_decide_eq_true (by kernel_rfl)) (by unfold Func.isWrapper;first | (rw [if_pos (by decide +kernel)];kernel_rfl) | (rw [if_neg (by decide +kernel)];exact ⟨rfl,rfl⟩))
  (fun os started H enc _ F=>by rw [OpenClaim.pre_eq_preRow];exact lifted os started H enc F)
set_option maxRecDepth 100000 in
theorem plain (f:FuncId) (fn:Func) (hf:Tryz.pinned.checked.prog.funcNamed "augur/augurlaw03.TreeRenames" = some f) (hfn:Tryz.pinned.checked.prog.funcs[f]? = some fn) :
  true=Tryz.pinned.checked.prog.looks []∧∀ (j:Nat) t,fn.params[j]? = some t→Tryz.pinned.checked.prog.wantsStandIn t=false:=by
 obtain rfl:f=9:=Option.some.inj ((show Tryz.prog.funcNamed "augur/augurlaw03.TreeRenames" = some 9 by kernel_rfl).symm.trans hf) |>.symm
 obtain rfl:fn=Tryz.f9:=(Option.some.inj (Tryz.func9.symm.trans hfn)).symm
 refine ⟨by kernel_rfl,fun j t ht=>?_⟩
 rw [Tryz.params9] at ht
 have h27:=show Tryz.prog.wantsStandIn 27=false by kernel_rfl
 have h53:=show Tryz.prog.wantsStandIn 53=false by kernel_rfl
 match j,ht with
 | 0,ht=>simp at ht;rw [← ht];exact h27
 | 1,ht=>simp at ht;rw [← ht];exact h53
 | 2,ht=>simp at ht;rw [← ht];exact h53
 | j + 3,ht=>simp at ht
set_option maxRecDepth 100000 in
theorem card:Rows.TreeRenamesCardSaid:=
 Claim7.holds_tied_plain_at .later [] _ _ _ _ said (fun _ h=>by cases h) (by kernel_rfl) (fun _ h=>by cases h) treeRenames_row_tie rfl ⟨rfl,rfl⟩ (by kernel_rfl) rfl plain (by kernel_rfl)
end Go.Proofs.YtnpoloachkcadaaGreatDoor.treeRenames
#print axioms Go.Proofs.YtnpoloachkcadaaGreatDoor.treeRenames.card
