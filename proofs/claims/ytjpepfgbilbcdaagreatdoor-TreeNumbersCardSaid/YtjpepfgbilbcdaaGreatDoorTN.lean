/- WHAT IS PROVED: the card of 'augurlaw03.TreeNumbers': the law returns true. It has no parameters; the program is run by an interpreter that is proved to be sound, and the run is worked out by Lean's kernel. -/
import Derived.Test.YtjpepfgbilbcdaaGreatDoorCards
import Derived.Test.YtjpepfgbilbcdaaGreatDoorTie
import Derived.WalkKit
import Derived.ProofKit
import Derived.OpenShut
import Derived.Deep.DeepHandedRow
import Derived.Lib.LaidTab
import Derived.Stop.LaidErr
import Derived.LaidMore
import Derived.Stop.ErrReads
import Derived.Test.YtjpepfgbilbcdaaGreatDoorIrTT
import Derived.Test.YtjpepfgbilbcdaaGreatDoorTNR
namespace Go.Proofs.YtjpepfgbilbcdaaGreatDoor.treeNumbers
open Go.ChangeShapes Go.WideShapes Go.ChangeAt Go.RowKit

theorem own : ownKnob Tryz.prog.godebug = none := by kernel_rfl
theorem is1 {W : World} (h : laidMetH Tryz.prog Rows.treeNumbersRow.laid W) : Lib.TabIs Tryz.prog W "augur/tree.kids" .i8 tab1 := by
  have L : laidMet Tryz.prog Rows.treeNumbersRow.laid W := h
  exact Lib.tabIs_of_head (g := 1) (t := 210) (e := 209) (n := 22) (k := .i8) (zs := tab1) (by kernel_rfl) (by kernel_rfl) (by kernel_rfl) (by kernel_rfl) (by kernel_rfl) (by kernel_rfl) (L.tail.tail.tail.tail.tail.tail)
theorem star : "*" ++ "errors.errorString" = "*errors.errorString" := by decide
theorem row_of (u : TypeId) (h : Tryz.prog.typeName? 3 u = some "*errors.errorString") : u = 338 :=
  typeName_ptr_named (nm := "errors.errorString") (by rw [star]; kernel_rfl) (by kernel_rfl) (by decide) u (by rw [star]; exact h)
theorem ptr3 {W : World} (h : laidMetH Tryz.prog Rows.treeNumbersRow.laid W) : ∃ a : Addr, a.spot = none ∧ W.var? Tryz.prog "strconv.ErrSyntax" = some #[.iface 338 (.pointer (some a))] := by
  have L : laidMet Tryz.prog Rows.treeNumbersRow.laid W := h
  obtain ⟨a, s, h1, h2, _, _⟩ := laid_sentinel (g := 3) (tp := 338) (te := 340) (ts := 9) (L.tail.tail.tail.tail.tail) (by kernel_rfl) (by kernel_rfl) Tryz.underlying46 row_of Tryz.underlying338 Tryz.underlying340 rfl rfl Tryz.underlying9 (by kernel_rfl) (by kernel_rfl)
  refine ⟨a, ?_, h1⟩
  unfold World.cell? at h2
  split at h2
  · split at h2
    · simp at h2
    · rename_i hs
      simpa using hs
  · simp at h2
theorem walk (w : World) (hL : laidMetH Tryz.prog Rows.treeNumbersRow.laid w) : Calls Tryz.prog 5 #[] w fun e w' => e = .returned (.bool true) ∧ Below w.heap.size w w' := by
  obtain ⟨u1, f1, c1⟩ := Ai.laid_of_is (is1 hL) (g := 1) (by kernel_rfl)
  obtain ⟨a, ha, hv⟩ := ptr3 hL
  have hg : Ai.Glob 10 (Ai.withPtr 10 a) := Ai.withPtr_glob (by decide) a
  have hl : ∀ x ∈ laidTabs 0, Ai.LaidAt 10 (Ai.withPtr 10 a) w 16 x := by
    intro x hx
    simp only [laidTabs, List.mem_cons, List.not_mem_nil, or_false] at hx
    rcases hx with rfl | rfl
    · exact Ai.laidAt_ints hg (show 1 < 16 by decide) (show 1 < Ai.most by decide) (show 1 < 10 by decide) ⟨u1, f1, c1⟩
    · exact Ai.laidAt_ptr (P := Tryz.prog) (name := "strconv.ErrSyntax") (show 10 < 16 by decide) (show 3 < 16 by decide) (show 3 < Ai.most by decide) (show 3 < 10 by decide) (by kernel_rfl) ha hv
  obtain ⟨hrep, hro⟩ := Ai.known_at (P := Tryz.prog) (ng := 10) (ts := [276]) hg w (n := 16) (by decide) hl
  have hc := Ai.Calls_of_body Ai.Tryz.tab_at.ok (show Ai.Tryz.tab.get 5 = some Ai.Tryz.c5 by kernel_rfl) (body w.heap.size 0) (.inr rfl) rfl (results 0) hrep (by rfl)
  have e0 : (⟨Ai.concL (Ai.withPtr 10 a) []⟩ : Array Value) = #[] := rfl
  rw [e0] at hc
  refine hc.mono fun e W' ⟨μ', he, _, hg, _⟩ => ⟨by rw [he]; simp [Ai.tupleOf], hg.os, hg.tape, hg.output, hg.size, fun k hk => hg.keep k hk fun i b h hr => by rw [hro i b h] at hr; simp at hr⟩

/-- below the heap's old size nothing has turned: no arguments, no variables -/
theorem post_of_below {H : Type} {enc : TypeId × Value → H} {P : Program} {f : Func} {s : ChangeSpec} {apart fresh handsOn again : Bool} {W W' : World} {args : Array Value} {v : Value} {ds gs : List (DataW H)} {before pa pv : List MemPlace}
    (hW : DataW.Whole enc P f.params.toList s.vars apart W args.toList ds gs before)
    (hres : ∀ (b : Nat) (sp : Nat → Bool) (hd : Bool), DataW.TrodAll enc P W' b sp hd f.resultTypes.toList (v.resultList f.resultTypes.size) (s.fn H (ds ++ gs)).results [])
    (hargs : ∀ sp : Nat → Bool, (∀ p ∈ before, sp p.block = true) → DataW.TrodAll enc P W' 0 sp true f.params.toList args.toList (s.fn H (ds ++ gs)).args pa)
    (hvars : ∀ sp : Nat → Bool, (∀ p ∈ before, sp p.block = true) → DataW.TrodVars enc P W' sp s.vars (s.fn H (ds ++ gs)).vars pv)
    (hps : before = pa ++ pv) (hb : Below W.heap.size W W')
    (hok : ∀ (j : Nat) (t : TypeId) (r : Value), f.resultTypes[j]? = some t → (v.resultList f.resultTypes.size)[j]? = some r → Value.okWide P W' .any 0 t r) :
    s.post enc P f apart fresh handsOn again W args v W' := by
  have hlt := hW.lt
  have hold : ∀ p ∈ before, (fun b => decide (b < W.heap.size)) p.block = true := fun p hp => by simpa using hW.lt p hp
  refine ⟨ds, gs, before, [], pa, pv, hW, hres _ _ _, hargs _ hold, hvars _ hold, World.keptBut_mono (fun p hp => ⟨hp, ?_⟩) (hb.frame (· ∈ before)), fun _ => ?_⟩
  · rw [hps, List.mem_append] at hp
    exact Or.inr hp
  · obtain ⟨_, _, _, _, _, hz, hn⟩ := hW
    refine ⟨hok, _, _, ([] ++ pa) ++ pv, ⟨[] ++ pa, pv, trodAll_append (hargs _ (fun _ _ => rfl)) (hres _ _ _), hvars _ (fun _ _ => rfl), rfl, ?_, ?_⟩, ?_⟩
    · intro b off hp
      have hp' : MemPlace.cell b off ∈ before := by rw [hps]; simpa using hp
      rw [hb.frozen (hlt _ hp')]
      exact hz b off hp'
    · intro ha
      have := hn ha
      rw [hps] at this
      simpa using this
    · intro p hp _
      rw [hps]
      simpa using hp

set_option maxRecDepth 100000 in
theorem contract (H : Type) (enc : TypeId × Value → H) (W : World) (args : Array Value) (ds gs : List (DataW H)) (before : List MemPlace) (hL : laidMetH Tryz.prog Rows.treeNumbersRow.laid W)
    (hW : DataW.Whole enc Tryz.prog Tryz.f5.params.toList Rows.treeNumbersSpec.vars false W args.toList ds gs before) :
    Calls Tryz.prog 5 args W fun e W' => ∃ v, e = .returned v ∧ Rows.treeNumbersSpec.post enc Tryz.prog Tryz.f5 false true false false W args v W' := by
  have hW' := hW
  obtain ⟨p, q, hA0, hV, rfl, hfz, hnd⟩ := hW
  have hA : DataW.TrodAll enc Tryz.prog W 0 (fun _ => true) true Tryz.f5.params.toList args.toList ds p := hA0
  rw [Tryz.params5] at hA
  obtain ⟨hargs, rfl, rfl⟩ := trodAll_nil hA
  obtain rfl : args = #[] := by cases args; simp_all
  obtain ⟨rfl, rfl⟩ := trodVars_none hV
  clear hA0
  simp only [List.append_nil] at hW'
  refine (walk W hL).mono fun e W' ⟨he, hb⟩ => ?_
  subst he
  exact ⟨_, rfl, post_of_below (pa := []) (pv := []) hW' (fun _ _ _ => trodAll_cons_mk (shut_bool Tryz.underlying4 _) trodAll_mk0) (fun _ _ => trodAll_mk0) (fun _ _ => rfl) rfl
    hb (ok_one (by kernel_rfl) rfl (okWide_bool_mk Tryz.underlying4 _))⟩

def lay (i : Nat) (o : Obj) : Obj :=
  match i with
    | 5 => if let .cells _ t frozen := o then .cells (Pinned.utf8FirstZ.map fun (z : Nat) => Value.int .u8 z).toArray t frozen else o
    | _ => o
/-- A WORLD FOR THE WITNESS: what the initialisers' own run leaves. -/
noncomputable def laidWorld (os : Os) : World := { World.doorLaid Tryz.prog 84 os with heap := (World.doorLaid Tryz.prog 84 os).heap.mapIdx lay }
theorem laid_met (os : Os) : laidMet Tryz.prog Rows.treeNumbersRow.laid ((laidWorld os).forCall (fun _ _ => 0) ⟨#[], #[], []⟩).memory :=
  laidMet_of_run' 8 (by kernel_rfl) (by kernel_rfl)
theorem reads (os : Os) {H : Type} (enc : TypeId × Value → H) : ∃ places, DataW.whole enc Tryz.prog ((laidWorld os).forCall (fun _ _ => 0) ⟨#[], #[], []⟩).memory Tryz.f5.params.toList Rows.treeNumbersSpec.vars false (#[] : Array Value).toList 8 = some ([], [], places) :=
  ⟨[], by kernel_rfl⟩

set_option maxRecDepth 100000 in
theorem lifted (os : Os) (started : os.Started) (H : Type) (enc : TypeId × Value → H) (F : Stop.Interp) :
    ReturnsInHanded {} Tryz.checked os 5 .any ((OpenSpec.ofChange Rows.treeNumbersSpec).preRow enc Tryz.prog Tryz.f5 Rows.treeNumbersRow.domain false Rows.treeNumbersRow.laid) (((OpenSpec.ofChange Rows.treeNumbersSpec).at F).post enc Tryz.prog Tryz.f5 false true false false) := by
  obtain ⟨places, hx⟩ := reads os enc
  refine returnsInHanded_of_row (C := Tryz.checked) (s := OpenSpec.ofChange Rows.treeNumbersSpec) own started (by kernel_rfl) Tryz.func5
    (witness_row_at (enc := enc) (C := Tryz.checked) false (laidWorld os) #[] rfl (by kernel_rfl) (by kernel_rfl) (by kernel_rfl)
      (OpenSpec.preRow_of_cond 8 hx (by kernel_rfl) (fun k hk => by cases hk) (by kernel_rfl) (laid_met os))) ?_
  intro W base args ds gs before hval hW _ _ _ hL _ _
  exact contract H enc W args ds gs before hL hW

set_option maxRecDepth 100000 in
theorem said : Rows.TreeNumbersSaid :=
  OpenClaim.holds_of_cond 5 Tryz.f5 rfl rfl rfl rfl rfl rfl rfl ⟨rfl, rfl, rfl, rfl, rfl⟩ rfl rfl rfl rfl rfl (by kernel_rfl) Tryz.func5 (by kernel_rfl)
    (of_decide_eq_true (by kernel_rfl)) (by unfold Func.isWrapper; first | (rw [if_pos (by decide +kernel)]; kernel_rfl) | (rw [if_neg (by decide +kernel)]; exact ⟨rfl, rfl⟩))
    (fun os started H enc _ F => by rw [OpenClaim.pre_eq_preRow]; exact lifted os started H enc F)

set_option maxRecDepth 100000 in
theorem plain (f : FuncId) (fn : Func) (hf : Tryz.pinned.checked.prog.funcNamed "augur/augurlaw03.TreeNumbers" = some f) (hfn : Tryz.pinned.checked.prog.funcs[f]? = some fn) :
    true = Tryz.pinned.checked.prog.looks [] ∧ ∀ (j : Nat) t, fn.params[j]? = some t → Tryz.pinned.checked.prog.wantsStandIn t = false := by
  obtain rfl : f = 5 := Option.some.inj ((show Tryz.prog.funcNamed "augur/augurlaw03.TreeNumbers" = some 5 by kernel_rfl).symm.trans hf) |>.symm
  obtain rfl : fn = Tryz.f5 := (Option.some.inj (Tryz.func5.symm.trans hfn)).symm
  refine ⟨by kernel_rfl, fun j t ht => ?_⟩
  rw [Tryz.params5] at ht
  simp at ht

set_option maxRecDepth 100000 in
/-- THE CARD -/
theorem card : Rows.TreeNumbersCardSaid :=
  Claim7.holds_tied_plain_at .later [] _ _ _ _ said (fun _ h => by cases h) (by kernel_rfl) (fun _ h => by cases h) treeNumbers_row_tie rfl ⟨rfl, rfl⟩ (by kernel_rfl) rfl plain (by kernel_rfl)
end Go.Proofs.YtjpepfgbilbcdaaGreatDoor.treeNumbers
#print axioms Go.Proofs.YtjpepfgbilbcdaaGreatDoor.treeNumbers.card
