/- WHAT IS PROVED: the card of 'augurlaw05.WordsNormal': whatever the word and the numbers, the law returns true, and the arguments read as they did. -/
import Derived.Test.YtkldgoapompinaaDoorCards
import Derived.Test.YtkldgoapompinaaDoorTie
import Derived.WalkKit
import Derived.ProofKit
import Derived.OpenShut
import Derived.Carry
import Derived.Deep.DeepHandedRow
import Derived.Lib.LaidTab
import Derived.Test.YtkldgoapompinaaDoorIrNT
import Derived.Test.YtkldgoapompinaaDoorNormalR
import Derived.Test.YtkldgoapompinaaDoorWords2
import Derived.Test.YtkldgoapompinaaDoorPv2
namespace Go.Proofs.YtkldgoapompinaaDoor.wordsNormal
open Go.ChangeShapes Go.WideShapes Go.ChangeAt Go.RowKit
set_option linter.unusedVariables false
set_option linter.unusedSimpArgs false

theorem own : ownKnob Tryd.prog.godebug = none := by kernel_rfl
theorem laidOut : laidOutB Tryd.prog = true := by kernel_rfl
theorem cells54 : Tryd.prog.cellsOf 54 = 1 := by kernel_rfl
theorem cells25 : Tryd.prog.cellsOf 25 = 2 := by kernel_rfl
theorem cells23 : Tryd.prog.cellsOf 23 = 1 := by kernel_rfl
theorem bytes54 : Tryd.prog.bytesOf 54 = 2 := by kernel_rfl
theorem types25 : Tryd.prog.cellTypes Tryd.prog.depth 25 = some [23, 23] := by kernel_rfl
noncomputable def C (W : World) : Ai.Ctx := ⟨Tryd.prog, 3, [], W.heap.size, fun _ => none⟩
theorem works (W : World) : Ai.PFun (C W) 12 [] (.lit (.bool true)) := Ai.PFun.of_yes (C := C W) (Ai.Tryd.mixed) (Ai.Tryd.tab_at.ok) (by show 3 ≤ 16; omega) run_yes

/-- below the heap's old size nothing has turned: no variables -/
theorem post_of_below {H : Type} {enc : TypeId × Value → H} {P : Program} {f : Func} {s : ChangeSpec} {apart fresh handsOn again : Bool} {W W' : World} {args : Array Value} {v : Value} {ds gs : List (DataW H)} {before pa pv : List MemPlace}
    (hW : DataW.Whole enc P f.params.toList s.vars apart W args.toList ds gs before)
    (hres : ∀ (b : Nat) (sp : Nat → Bool) (hd : Bool), DataW.TrodAll enc P W' b sp hd f.resultTypes.toList (v.resultList f.resultTypes.size) (s.fn H (ds ++ gs)).results [])
    (hargs : ∀ sp : Nat → Bool, (∀ p ∈ before, sp p.block = true) → DataW.TrodAll enc P W' 0 sp true f.params.toList args.toList (s.fn H (ds ++ gs)).args pa)
    (hvars : ∀ sp : Nat → Bool, (∀ p ∈ before, sp p.block = true) → DataW.TrodVars enc P W' sp s.vars (s.fn H (ds ++ gs)).vars pv)
    (hps : before = pa ++ pv) (hb : Below W.heap.size W W')
    (hok : ∀ (j : Nat) (t : TypeId) (r : Value), f.resultTypes[j]? = some t → (v.resultList f.resultTypes.size)[j]? = some r → Value.okWide P W' .any 0 t r) :
    s.post enc P f apart fresh handsOn again W args v W' := by
  have hlt := hW.lt
  have hold : ∀ p ∈ before, (fun b => decide (b < W.heap.size)) p.block = true := fun p hp => by simpa using hW.lt p hp
  refine ⟨ds, gs, before, [], pa, pv, hW, hres _ _ _, hargs _ hold, hvars _ hold, World.keptBut_mono (fun p hp => ⟨hp, ?_⟩) (hb.frame (· ∈ before)), fun _ => ?_⟩
  · rw [hps, List.mem_append] at hp
    exact Or.inr hp
  · obtain ⟨_, _, _, _, _, hz, hn⟩ := hW
    refine ⟨hok, _, _, ([] ++ pa) ++ pv, ⟨[] ++ pa, pv, trodAll_append (hargs _ (fun _ _ => rfl)) (hres _ _ _), hvars _ (fun _ _ => rfl), rfl, ?_, ?_⟩, ?_⟩
    · intro b off hp
      have hp' : MemPlace.cell b off ∈ before := by rw [hps]; simpa using hp
      rw [hb.frozen (hlt _ hp')]
      exact hz b off hp'
    · intro ha
      have := hn ha
      rw [hps] at this
      simpa using this
    · intro p hp _
      rw [hps]
      simpa using hp

set_option maxRecDepth 100000 in
theorem contract (H : Type) (enc : TypeId × Value → H) (W : World) (base : Nat) (args : Array Value) (ds gs : List (DataW H)) (before : List MemPlace)
    (hval : ∀ (j : Nat) t v, Tryd.f6.params[j]? = some t → args[j]? = some v → Value.okWide Tryd.prog W .any base t v)
    (hW : DataW.Whole enc Tryd.prog Tryd.f6.params.toList Rows.wordsNormalSpec.vars false W args.toList ds gs before)
    (hsz : (DataW.weightsEach Tryd.prog (Tryd.f6.params.toList ++ (OpenSpec.ofChange Rows.wordsNormalSpec).bare.plain.varTypes Tryd.prog) (ds ++ gs)).all (· ≤ reachBytes) = true) :
    Calls Tryd.prog 6 args W fun e W' => ∃ v, e = .returned v ∧ Rows.wordsNormalSpec.post enc Tryd.prog Tryd.f6 false true false false W args v W' := by
  have hW' := hW
  obtain ⟨p, q, hA0, hV, rfl, hfz, hnd⟩ := hW
  have hA : DataW.TrodAll enc Tryd.prog W 0 (fun _ => true) true Tryd.f6.params.toList args.toList ds p := hA0
  have hpar : Tryd.f6.params.toList = [25, 3, 3] := by rw [Tryd.params6]
  rw [hpar] at hA hsz
  rw [Tryd.params6] at hval
  obtain ⟨v0, v1, v2, d0, d1, d2, p0, p1, p2, rfl, rfl, rfl, h0, h1, h2⟩ := trodAll_three hA
  obtain ⟨rfl, rfl⟩ := trodVars_none hV
  simp only [List.append_nil] at hW' hsz
  have hlt : ∀ x ∈ p0 ++ p1 ++ p2, x.block < W.heap.size := fun x hx => by simpa using hW'.lt x hx
  obtain ⟨n, rfl, rfl, rfl, w2⟩ := open_int Tryd.underlying3 (hval 2 3 v2 rfl rfl) h2
  obtain ⟨n1, rfl, rfl, rfl, w1⟩ := open_int Tryd.underlying3 (hval 1 3 v1 rfl rfl) h1
  -- the sizes
  have hsz2 : (DataW.weightsEach Tryd.prog [25, 3, 3] [d0, .lit (.int .i64 n1), .lit (.int .i64 n)]).all (· ≤ reachBytes) = true := hsz
  have hbits := fun (x : Nat) hx => of_decide_eq_true (List.all_eq_true.1 hsz2 x hx)
  -- the word
  obtain ⟨fw, hw⟩ := h0
  have hv0 := hval 0 25 v0 rfl rfl
  obtain ⟨cs, hcs, hsize, ts, hts, _, hrow⟩ : ∃ cs, v0 = .agg cs ∧ cs.size = Tryd.prog.cellsOf 25 ∧ Row.okWide Tryd.prog W .any base 25 cs := by
    unfold Value.okWide at hv0
    rw [Tryd.underlying25] at hv0
    exact hv0
  rw [types25] at hts
  obtain rfl := Option.some.inj hts
  rw [cells25] at hsize
  subst hcs
  obtain ⟨a, b, rfl⟩ : ∃ a b, cs = #[a, b] := by
    obtain ⟨l⟩ := cs
    match l, hsize with
    | [a, b], _ => exact ⟨a, b, rfl⟩
  have hw' : DataW.trod enc Tryd.prog W 0 (fun _ => true) true fw 25 [a, b] = some (d0, p0) := hw
  obtain ⟨xs, nn, rfl, hx, _, hxl, hf⟩ := DataW.trod_struct Tryd.underlying25 hw'
  have hoka : Cell.okWide Tryd.prog W .any base 23 a := by
    obtain ⟨t, ht, hk⟩ := hrow 0 a rfl
    simp at ht; subst ht; exact hk
  have hokb : Cell.okWide Tryd.prog W .any base 23 b := by
    obtain ⟨t, ht, hk⟩ := hrow 1 b rfl
    simp at ht; subst ht; exact hk
  obtain ⟨x0, x1, rfl⟩ : ∃ x0 x1, xs = [x0, x1] := by
    match xs, hxl with
    | [x0, x1], _ => exact ⟨x0, x1, rfl⟩
  have ha : DataW.trod enc Tryd.prog W 0 (fun _ => true) true nn 23 (([a, b].drop 0).take (Tryd.prog.cellsOf 23)) = some x0 := hf 0 _ rfl
  have hb : DataW.trod enc Tryd.prog W 0 (fun _ => true) true nn 23 (([a, b].drop 1).take (Tryd.prog.cellsOf 23)) = some x1 := hf 1 _ rfl
  rw [cells23] at ha hb
  have ha' : DataW.trod enc Tryd.prog W 0 (fun _ => true) true nn 23 [a] = some x0 := ha
  have hb' : DataW.trod enc Tryd.prog W 0 (fun _ => true) true nn 23 [b] = some x1 := hb
  obtain ⟨stem, sa, wa, la⟩ := Ai.slAt_open Tryd.underlying23 Tryd.underlying54 cells54 ha' hoka
  obtain ⟨loop, sb, wb, lb⟩ := Ai.slAt_open Tryd.underlying23 Tryd.underlying54 cells54 hb' hokb
  simp only [Prod.mk.injEq] at hx
  have hd0 : d0 = .agg [x0.1, x1.1] := hx.1
  have lena : stem.length ≤ reachBytes := la _ (by rw [bytes54]; omega) fun x hx => hbits x (by simp only [hd0, DataW.weightsEach, DataW.weights, Tryd.underlying25]; simp [DataW.weightsEach, hx])
  have lenb : loop.length ≤ reachBytes := lb _ (by rw [bytes54]; omega) fun x hx => hbits x (by simp only [hd0, DataW.weightsEach, DataW.weights, Tryd.underlying25]; simp [DataW.weightsEach, hx])
  have hrb : reachBytes < 2 ^ 61 := by decide
  have rng : ∀ z : Int, (Lit.int .i64 z).wf = true → -9223372036854775808 ≤ z ∧ z < 9223372036854775808 := by
    intro z hz
    simp [Lit.wf, IntKind.min, IntKind.max, IntKind.signed, IntKind.bits] at hz
    omega
  have top := Ai.wnormal_top (C := C W) Ai.Tryd.mixed Ai.Tryd.tab_at.ok (works W) ⟨stem, loop⟩ n1 n (rng n1 w1).1 (rng n1 w1).2 (rng n w2).1 (rng n w2).2 (by simp only; omega) (by simp only; omega)
  have vw := ((((Ai.VwS.nil (m := 3) (W := W)).slice sa).slice sb).agg2.lit (u := .int .i64 n1) rfl).lit (u := .int .i64 n) rfl
  have hcall := vw.calls (C := C W) Ai.Tryd.mixed Ai.Tryd.tab_at.ok rfl (Nat.le_refl 3) (fun I g cs h => by cases h) top
  refine hcall.mono fun e W' ⟨he, hbel⟩ => ?_
  subst he
  have k0 : DataW.Trod enc Tryd.prog W 0 (fun _ => true) true 25 (.agg #[a, b]) d0 p0 := ⟨_, hw⟩
  exact ⟨_, rfl, post_of_below (pa := p0 ++ ([] ++ [])) (pv := []) hW' (fun _ _ _ => trodAll_cons_mk (shut_bool Tryd.underlying4 _) trodAll_mk0) (fun sp hsp => by
      rw [hpar]
      exact trodAll_mk3 (WideElems.Trod_stays laidOut (by kernel_rfl) (of_decide_eq_true (by kernel_rfl)) k0 (fun x hx => hbel.same (hlt x (by simp [hx]))) (fun x hx => hsp x (by simp [hx])))
        (shut_int Tryd.underlying3 w1) (shut_int Tryd.underlying3 w2)) (fun _ _ => rfl) (by simp)
    hbel (ok_one (by kernel_rfl) rfl (okWide_bool_mk Tryd.underlying4 _))⟩

set_option maxRecDepth 100000 in
/-- A WORLD FOR THE WITNESS: the tables hold what their initialisers lay. -/
def lay (i : Nat) (o : Obj) : Obj :=
  match i with
    | 1 => if let .cells _ t frozen := o then .cells #[.int .u8 0, .int .u8 1, .int .u8 28, .int .u8 2, .int .u8 29, .int .u8 14, .int .u8 24, .int .u8 3, .int .u8 30, .int .u8 22, .int .u8 20, .int .u8 15, .int .u8 25, .int .u8 17, .int .u8 4, .int .u8 8, .int .u8 31, .int .u8 27, .int .u8 13, .int .u8 23, .int .u8 21, .int .u8 19, .int .u8 16, .int .u8 7, .int .u8 26, .int .u8 12, .int .u8 18, .int .u8 6, .int .u8 11, .int .u8 5, .int .u8 10, .int .u8 9] t frozen else o
    | 2 => if let .cells _ t frozen := o then .cells #[.int .u8 0, .int .u8 1, .int .u8 56, .int .u8 2, .int .u8 57, .int .u8 49, .int .u8 28, .int .u8 3, .int .u8 61, .int .u8 58, .int .u8 42, .int .u8 50, .int .u8 38, .int .u8 29, .int .u8 17, .int .u8 4, .int .u8 62, .int .u8 47, .int .u8 59, .int .u8 36, .int .u8 45, .int .u8 43, .int .u8 51, .int .u8 22, .int .u8 53, .int .u8 39, .int .u8 33, .int .u8 30, .int .u8 24, .int .u8 18, .int .u8 12, .int .u8 5, .int .u8 63, .int .u8 55, .int .u8 48, .int .u8 27, .int .u8 60, .int .u8 41, .int .u8 37, .int .u8 16, .int .u8 46, .int .u8 35, .int .u8 44, .int .u8 21, .int .u8 52, .int .u8 32, .int .u8 23, .int .u8 11, .int .u8 54, .int .u8 26, .int .u8 40, .int .u8 15, .int .u8 34, .int .u8 20, .int .u8 31, .int .u8 10, .int .u8 25, .int .u8 14, .int .u8 19, .int .u8 9, .int .u8 13, .int .u8 8, .int .u8 7, .int .u8 6] t frozen else o
    | 0 => if let .cells _ t frozen := o then .cells #[.int .u64 1, .int .u64 10, .int .u64 100, .int .u64 1000, .int .u64 10000, .int .u64 100000, .int .u64 1000000, .int .u64 10000000, .int .u64 100000000, .int .u64 1000000000, .int .u64 10000000000, .int .u64 100000000000, .int .u64 1000000000000, .int .u64 10000000000000, .int .u64 100000000000000, .int .u64 1000000000000000, .int .u64 10000000000000000, .int .u64 100000000000000000, .int .u64 1000000000000000000, .int .u64 10000000000000000000] t frozen else o
    | _ => o
noncomputable def laidWorld (os : Os) : World :=
  { World.holding Tryd.prog os ⟨#[], #[], []⟩ with heap := (World.holding Tryd.prog os ⟨#[], #[], []⟩).heap.mapIdx lay }
theorem laid_met (os : Os) : laidMet Tryd.prog Rows.wordsNormalRow.laid ((laidWorld os).forCall (fun _ _ => 0) ⟨#[], #[.agg #[.slice none 0 0, .slice none 0 0], .int .i64 0, .int .i64 0], []⟩).memory :=
  laidMet_of_run' 8 (by kernel_rfl) (by kernel_rfl)
theorem reads (os : Os) {H : Type} (enc : TypeId × Value → H) : ∃ places, DataW.whole enc Tryd.prog ((laidWorld os).forCall (fun _ _ => 0) ⟨#[], #[.agg #[.slice none 0 0, .slice none 0 0], .int .i64 0, .int .i64 0], []⟩).memory Tryd.f6.params.toList Rows.wordsNormalSpec.vars false (#[.agg #[.slice none 0 0, .slice none 0 0], .int .i64 0, .int .i64 0] : Array Value).toList 8 = some ([.agg [.nil, .nil], .lit (.int .i64 0), .lit (.int .i64 0)], [], places) :=
  ⟨[], by kernel_rfl⟩

set_option maxRecDepth 100000 in
theorem lifted (os : Os) (started : os.Started) (H : Type) (enc : TypeId × Value → H) (F : Stop.Interp) :
    ReturnsInHanded {} Tryd.checked os 6 .any ((OpenSpec.ofChange Rows.wordsNormalSpec).preRow enc Tryd.prog Tryd.f6 Rows.wordsNormalRow.domain false Rows.wordsNormalRow.laid) (((OpenSpec.ofChange Rows.wordsNormalSpec).at F).post enc Tryd.prog Tryd.f6 false true false false) := by
  obtain ⟨places, hx⟩ := reads os enc
  refine returnsInHanded_of_row (C := Tryd.checked) (s := OpenSpec.ofChange Rows.wordsNormalSpec) own started (by kernel_rfl) Tryd.func6
    (witness_row_at (enc := enc) (C := Tryd.checked) false (laidWorld os) #[.agg #[.slice none 0 0, .slice none 0 0], .int .i64 0, .int .i64 0] rfl (by kernel_rfl) (by kernel_rfl) (by kernel_rfl)
      (OpenSpec.preRow_of_cond 8 hx (by kernel_rfl) (fun k hk => by cases hk) (by kernel_rfl) (laid_met os))) ?_
  intro W base args ds gs before hval hW _ _ hsz _ _ _
  exact contract H enc W base args ds gs before hval hW hsz

set_option maxRecDepth 100000 in
theorem said : Rows.WordsNormalSaid :=
  OpenClaim.holds_of_cond 6 Tryd.f6 rfl rfl rfl rfl rfl rfl rfl ⟨rfl, rfl, rfl, rfl, rfl⟩ rfl rfl rfl rfl rfl (by kernel_rfl) Tryd.func6 (by kernel_rfl)
    (of_decide_eq_true (by kernel_rfl)) (by unfold Func.isWrapper; first | (rw [if_pos (by decide +kernel)]; kernel_rfl) | (rw [if_neg (by decide +kernel)]; exact ⟨rfl, rfl⟩))
    (fun os started H enc _ F => by rw [OpenClaim.pre_eq_preRow]; exact lifted os started H enc F)

set_option maxRecDepth 100000 in
theorem plain (f : FuncId) (fn : Func) (hf : Tryd.pinned.checked.prog.funcNamed "augur/augurlaw05.WordsNormal" = some f) (hfn : Tryd.pinned.checked.prog.funcs[f]? = some fn) :
    false = Tryd.pinned.checked.prog.looks [] ∧ ∀ (j : Nat) t, fn.params[j]? = some t → Tryd.pinned.checked.prog.wantsStandIn t = false := by
  obtain rfl : f = 6 := Option.some.inj ((show Tryd.prog.funcNamed "augur/augurlaw05.WordsNormal" = some 6 by kernel_rfl).symm.trans hf) |>.symm
  obtain rfl : fn = Tryd.f6 := (Option.some.inj (Tryd.func6.symm.trans hfn)).symm
  refine ⟨by kernel_rfl, fun j t ht => ?_⟩
  rw [Tryd.params6] at ht
  match j, ht with
  | 0, ht =>
    simp at ht
    rw [← ht]
    exact (show Tryd.prog.wantsStandIn 25 = false by kernel_rfl)
  | 1, ht =>
    simp at ht
    rw [← ht]
    exact (show Tryd.prog.wantsStandIn 3 = false by kernel_rfl)
  | 2, ht =>
    simp at ht
    rw [← ht]
    exact (show Tryd.prog.wantsStandIn 3 = false by kernel_rfl)
  | j + 3, ht => simp at ht

set_option maxRecDepth 100000 in
/-- THE CARD -/
theorem card : Rows.WordsNormalCardSaid :=
  Claim7.holds_tied_plain_at .later [] _ _ _ _ said (fun _ h => by cases h) (by kernel_rfl) (fun _ h => by cases h) wordsNormal_row_tie rfl ⟨rfl, rfl⟩ (by kernel_rfl) rfl plain (by kernel_rfl)
end Go.Proofs.YtkldgoapompinaaDoor.wordsNormal
#print axioms Go.Proofs.YtkldgoapompinaaDoor.wordsNormal.card
