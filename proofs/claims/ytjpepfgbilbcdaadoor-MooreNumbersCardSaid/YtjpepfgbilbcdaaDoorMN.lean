/- WHAT IS PROVED: the card of 'augurlaw14.MooreNumbers': the law returns true. It has no parameters; the program is run by an interpreter that is proved to be sound, and the run is worked out by Lean's kernel. -/
import Derived.Test.YtjpepfgbilbcdaaDoorCards
import Derived.Test.YtjpepfgbilbcdaaDoorTie
import Derived.WalkKit
import Derived.ProofKit
import Derived.OpenShut
import Derived.Deep.DeepHandedRow
import Derived.Lib.LaidTab
import Derived.Stop.LaidErr
import Derived.Test.YtjpepfgbilbcdaaDoorIrMT
import Derived.Test.YtjpepfgbilbcdaaDoorMNR
namespace Go.Proofs.YtjpepfgbilbcdaaDoor.mooreNumbers
open Go.ChangeShapes Go.WideShapes Go.ChangeAt Go.RowKit

theorem own : ownKnob Tryd.prog.godebug = none := by kernel_rfl
theorem is2 {W : World} (h : laidMetH Tryd.prog Rows.mooreNumbersRow.laid W) : Lib.TabIs Tryd.prog W "math/bits.deBruijn32tab" .u8 tab2 := by
  have L : laidMet Tryd.prog Rows.mooreNumbersRow.laid W := h
  exact Lib.tabIs_of_head (g := 2) (t := 196) (e := 5) (n := 32) (k := .u8) (zs := tab2) (by kernel_rfl) (by kernel_rfl) (by kernel_rfl) (by kernel_rfl) (by kernel_rfl) (by kernel_rfl) L
theorem is3 {W : World} (h : laidMetH Tryd.prog Rows.mooreNumbersRow.laid W) : Lib.TabIs Tryd.prog W "math/bits.deBruijn64tab" .u8 tab3 := by
  have L : laidMet Tryd.prog Rows.mooreNumbersRow.laid W := h
  exact Lib.tabIs_of_head (g := 3) (t := 197) (e := 5) (n := 64) (k := .u8) (zs := tab3) (by kernel_rfl) (by kernel_rfl) (by kernel_rfl) (by kernel_rfl) (by kernel_rfl) (by kernel_rfl) (L.tail)
theorem is1 {W : World} (h : laidMetH Tryd.prog Rows.mooreNumbersRow.laid W) : Lib.TabIs Tryd.prog W "internal/strconv.uint64pow10" .u64 tab1 := by
  have L : laidMet Tryd.prog Rows.mooreNumbersRow.laid W := h
  exact Lib.tabIs_of_head (g := 1) (t := 190) (e := 181) (n := 20) (k := .u64) (zs := tab1) (by kernel_rfl) (by kernel_rfl) (by kernel_rfl) (by kernel_rfl) (by kernel_rfl) (by kernel_rfl) (L.tail.tail)
theorem walk (w : World) (hL : laidMetH Tryd.prog Rows.mooreNumbersRow.laid w) : Calls Tryd.prog 5 #[] w fun e w' => e = .returned (.bool true) ∧ Below w.heap.size w w' := by
  obtain ⟨t2, f2, c2⟩ := Ai.laid_of_is (is2 hL) (g := 2) (by kernel_rfl)
  obtain ⟨t3, f3, c3⟩ := Ai.laid_of_is (is3 hL) (g := 3) (by kernel_rfl)
  obtain ⟨t1, f1, c1⟩ := Ai.laid_of_is (is1 hL) (g := 1) (by kernel_rfl)
  refine Ai.calls_yesT Ai.Tryd.mixed Ai.Tryd.tab_at.ok 99 16 (by decide) (run_yes t2 t3 t1) w ?_
  intro x hx
  simp only [List.mem_cons, List.not_mem_nil, or_false] at hx
  rcases hx with rfl | rfl | rfl
  · exact ⟨(show 2 < 16 by decide), (show 2 < Ai.most by decide), Ai.lt0_ints _ _, f2, c2⟩
  · exact ⟨(show 3 < 16 by decide), (show 3 < Ai.most by decide), Ai.lt0_ints _ _, f3, c3⟩
  · exact ⟨(show 1 < 16 by decide), (show 1 < Ai.most by decide), Ai.lt0_ints _ _, f1, c1⟩

/-- below the heap's old size nothing has turned: no arguments, no variables -/
theorem post_of_below {H : Type} {enc : TypeId × Value → H} {P : Program} {f : Func} {s : ChangeSpec} {apart fresh handsOn again : Bool} {W W' : World} {args : Array Value} {v : Value} {ds gs : List (DataW H)} {before pa pv : List MemPlace}
    (hW : DataW.Whole enc P f.params.toList s.vars apart W args.toList ds gs before)
    (hres : ∀ (b : Nat) (sp : Nat → Bool) (hd : Bool), DataW.TrodAll enc P W' b sp hd f.resultTypes.toList (v.resultList f.resultTypes.size) (s.fn H (ds ++ gs)).results [])
    (hargs : ∀ sp : Nat → Bool, (∀ p ∈ before, sp p.block = true) → DataW.TrodAll enc P W' 0 sp true f.params.toList args.toList (s.fn H (ds ++ gs)).args pa)
    (hvars : ∀ sp : Nat → Bool, (∀ p ∈ before, sp p.block = true) → DataW.TrodVars enc P W' sp s.vars (s.fn H (ds ++ gs)).vars pv)
    (hps : before = pa ++ pv) (hb : Below W.heap.size W W')
    (hok : ∀ (j : Nat) (t : TypeId) (r : Value), f.resultTypes[j]? = some t → (v.resultList f.resultTypes.size)[j]? = some r → Value.okWide P W' .any 0 t r) :
    s.post enc P f apart fresh handsOn again W args v W' := by
  have hlt := hW.lt
  have hold : ∀ p ∈ before, (fun b => decide (b < W.heap.size)) p.block = true := fun p hp => by simpa using hW.lt p hp
  refine ⟨ds, gs, before, [], pa, pv, hW, hres _ _ _, hargs _ hold, hvars _ hold, World.keptBut_mono (fun p hp => ⟨hp, ?_⟩) (hb.frame (· ∈ before)), fun _ => ?_⟩
  · rw [hps, List.mem_append] at hp
    exact Or.inr hp
  · obtain ⟨_, _, _, _, _, hz, hn⟩ := hW
    refine ⟨hok, _, _, ([] ++ pa) ++ pv, ⟨[] ++ pa, pv, trodAll_append (hargs _ (fun _ _ => rfl)) (hres _ _ _), hvars _ (fun _ _ => rfl), rfl, ?_, ?_⟩, ?_⟩
    · intro b off hp
      have hp' : MemPlace.cell b off ∈ before := by rw [hps]; simpa using hp
      rw [hb.frozen (hlt _ hp')]
      exact hz b off hp'
    · intro ha
      have := hn ha
      rw [hps] at this
      simpa using this
    · intro p hp _
      rw [hps]
      simpa using hp

set_option maxRecDepth 100000 in
theorem contract (H : Type) (enc : TypeId × Value → H) (W : World) (args : Array Value) (ds gs : List (DataW H)) (before : List MemPlace) (hL : laidMetH Tryd.prog Rows.mooreNumbersRow.laid W)
    (hW : DataW.Whole enc Tryd.prog Tryd.f5.params.toList Rows.mooreNumbersSpec.vars false W args.toList ds gs before) :
    Calls Tryd.prog 5 args W fun e W' => ∃ v, e = .returned v ∧ Rows.mooreNumbersSpec.post enc Tryd.prog Tryd.f5 false true false false W args v W' := by
  have hW' := hW
  obtain ⟨p, q, hA0, hV, rfl, hfz, hnd⟩ := hW
  have hA : DataW.TrodAll enc Tryd.prog W 0 (fun _ => true) true Tryd.f5.params.toList args.toList ds p := hA0
  rw [Tryd.params5] at hA
  obtain ⟨hargs, rfl, rfl⟩ := trodAll_nil hA
  obtain rfl : args = #[] := by cases args; simp_all
  obtain ⟨rfl, rfl⟩ := trodVars_none hV
  clear hA0
  simp only [List.append_nil] at hW'
  refine (walk W hL).mono fun e W' ⟨he, hb⟩ => ?_
  subst he
  exact ⟨_, rfl, post_of_below (pa := []) (pv := []) hW' (fun _ _ _ => trodAll_cons_mk (shut_bool Tryd.underlying4 _) trodAll_mk0) (fun _ _ => trodAll_mk0) (fun _ _ => rfl) rfl
    hb (ok_one (by kernel_rfl) rfl (okWide_bool_mk Tryd.underlying4 _))⟩

set_option maxRecDepth 100000 in
/-- A WORLD FOR THE WITNESS: the tables hold what their initialisers lay. -/
def lay (i : Nat) (o : Obj) : Obj :=
  match i with
    | 2 => if let .cells _ t frozen := o then .cells (tab2.map (Value.int .u8)).toArray t frozen else o
    | 3 => if let .cells _ t frozen := o then .cells (tab3.map (Value.int .u8)).toArray t frozen else o
    | 1 => if let .cells _ t frozen := o then .cells (tab1.map (Value.int .u64)).toArray t frozen else o
    | _ => o
noncomputable def laidWorld (os : Os) : World :=
  { World.holding Tryd.prog os ⟨#[], #[], []⟩ with heap := (World.holding Tryd.prog os ⟨#[], #[], []⟩).heap.mapIdx lay }
theorem laid_met (os : Os) : laidMet Tryd.prog Rows.mooreNumbersRow.laid ((laidWorld os).forCall (fun _ _ => 0) ⟨#[], #[], []⟩).memory :=
  laidMet_of_run' 8 (by kernel_rfl) (by kernel_rfl)
theorem reads (os : Os) {H : Type} (enc : TypeId × Value → H) : ∃ places, DataW.whole enc Tryd.prog ((laidWorld os).forCall (fun _ _ => 0) ⟨#[], #[], []⟩).memory Tryd.f5.params.toList Rows.mooreNumbersSpec.vars false (#[] : Array Value).toList 8 = some ([], [], places) :=
  ⟨[], by kernel_rfl⟩

set_option maxRecDepth 100000 in
theorem lifted (os : Os) (started : os.Started) (H : Type) (enc : TypeId × Value → H) (F : Stop.Interp) :
    ReturnsInHanded {} Tryd.checked os 5 .any ((OpenSpec.ofChange Rows.mooreNumbersSpec).preRow enc Tryd.prog Tryd.f5 Rows.mooreNumbersRow.domain false Rows.mooreNumbersRow.laid) (((OpenSpec.ofChange Rows.mooreNumbersSpec).at F).post enc Tryd.prog Tryd.f5 false true false false) := by
  obtain ⟨places, hx⟩ := reads os enc
  refine returnsInHanded_of_row (C := Tryd.checked) (s := OpenSpec.ofChange Rows.mooreNumbersSpec) own started (by kernel_rfl) Tryd.func5
    (witness_row_at (enc := enc) (C := Tryd.checked) false (laidWorld os) #[] rfl (by kernel_rfl) (by kernel_rfl) (by kernel_rfl)
      (OpenSpec.preRow_of_cond 8 hx (by kernel_rfl) (fun k hk => by cases hk) (by kernel_rfl) (laid_met os))) ?_
  intro W base args ds gs before hval hW _ _ _ hL _ _
  exact contract H enc W args ds gs before hL hW

set_option maxRecDepth 100000 in
theorem said : Rows.MooreNumbersSaid :=
  OpenClaim.holds_of_cond 5 Tryd.f5 rfl rfl rfl rfl rfl rfl rfl ⟨rfl, rfl, rfl, rfl, rfl⟩ rfl rfl rfl rfl rfl (by kernel_rfl) Tryd.func5 (by kernel_rfl)
    (of_decide_eq_true (by kernel_rfl)) (by unfold Func.isWrapper; first | (rw [if_pos (by decide +kernel)]; kernel_rfl) | (rw [if_neg (by decide +kernel)]; exact ⟨rfl, rfl⟩))
    (fun os started H enc _ F => by rw [OpenClaim.pre_eq_preRow]; exact lifted os started H enc F)

set_option maxRecDepth 100000 in
theorem plain (f : FuncId) (fn : Func) (hf : Tryd.pinned.checked.prog.funcNamed "augur/augurlaw14.MooreNumbers" = some f) (hfn : Tryd.pinned.checked.prog.funcs[f]? = some fn) :
    false = Tryd.pinned.checked.prog.looks [] ∧ ∀ (j : Nat) t, fn.params[j]? = some t → Tryd.pinned.checked.prog.wantsStandIn t = false := by
  obtain rfl : f = 5 := Option.some.inj ((show Tryd.prog.funcNamed "augur/augurlaw14.MooreNumbers" = some 5 by kernel_rfl).symm.trans hf) |>.symm
  obtain rfl : fn = Tryd.f5 := (Option.some.inj (Tryd.func5.symm.trans hfn)).symm
  refine ⟨by kernel_rfl, fun j t ht => ?_⟩
  rw [Tryd.params5] at ht
  simp at ht

set_option maxRecDepth 100000 in
/-- THE CARD -/
theorem card : Rows.MooreNumbersCardSaid :=
  Claim7.holds_tied_plain_at .later [] _ _ _ _ said (fun _ h => by cases h) (by kernel_rfl) (fun _ h => by cases h) mooreNumbers_row_tie rfl ⟨rfl, rfl⟩ (by kernel_rfl) rfl plain (by kernel_rfl)
end Go.Proofs.YtjpepfgbilbcdaaDoor.mooreNumbers
#print axioms Go.Proofs.YtjpepfgbilbcdaaDoor.mooreNumbers.card
