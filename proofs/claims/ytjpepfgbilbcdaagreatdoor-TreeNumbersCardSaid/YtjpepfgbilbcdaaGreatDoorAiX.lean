/- A PART OF THE PROOF THAT AN INTERPRETER OF THE PROGRAM'S FUNCTIONS IS SOUND: a step of it. -/
import Derived.Test.YtjpepfgbilbcdaaGreatDoorAiW
namespace Go.Proofs.YtjpepfgbilbcdaaGreatDoor.Ai
open Go
set_option linter.unusedSimpArgs false

section
variable {P : Program} {ng : Nat} {ts : List TypeId} {N0 : Nat} {K : Ks} {μ : Nat → Loc} {σ σ' : AW} {w w' : World}

/-- a region that draws its order -/
def DrawOK (P : Program) (ng : Nat) (ts : List TypeId) (N0 : Nat) (K : Ks) : Prop :=
  ∀ {id : Nat} {ops : Array Oper} {l : List IOper} {st : List DStage} {fin : DStage} {rnd : Option Nat} {e : Fr} {σ σ' : AW} {t' : List Value}, cOps P ng ts ops ops.toList = some l →
    vDraw ops l (Region.before ops).toList st fin = true →
    runDraw K l fin st e.tmps σ = some (t', σ') → CodeOK P ng ts N0 rnd (.region id ops true) e σ .normal { e with tmps := t' } σ'

/-! ### loops over functions -/
theorem run_getLoop {l : Nat} {r : Loop} (h : w.heap[l]? = some (.loop r)) : (Instr.getLoop l).run P w = .ok r w := by
  simp [Instr.getLoop, getObj, Sem.run, h]
/-- the loop's record, written over -/
theorem Rep.setLoop (h : Rep P ng ts N0 μ σ w) {l : Nat} {r : ALoop} (hl : σ.heap.get l = some (.loop r)) (st : LoopState) (pd : Option IExit) :
    ∃ R : Loop, w.heap[(μ l).blk]? = some (.loop R) ∧ R.state = r.state ∧ R.pending = r.pending.bind cExit ∧
      Rep P ng ts N0 μ (setLoop σ l { r with state := st, pending := pd }) { w with heap := w.heap.setIfInBounds (μ l).blk (.loop { R with state := st, pending := pd.bind cExit }) } ∧
      Goes μ σ w μ (setLoop σ l { r with state := st, pending := pd }) { w with heap := w.heap.setIfInBounds (μ l).blk (.loop { R with state := st, pending := pd.bind cExit }) } := by
  have hb := (h.blk l _ hl).2.2
  obtain ⟨h1, h2, fn, as, bo, h3, h4, h5⟩ := hb
  refine ⟨_, h3, rfl, rfl, ?_⟩
  exact h.updObj (w' := { w with heap := w.heap.setIfInBounds (μ l).blk (.loop { state := st, pending := pd.bind cExit, fn := fn, tmps := ⟨concL μ r.tmps⟩, params := ⟨r.params⟩, assign := as, body := bo, defers := (μ r.defers).blk }) })
    hl (by simp) (bn := .loop { r with state := st, pending := pd }) (by simp) rfl rfl rfl (by simp) (fun j hj => setIf_get hj) ⟨h1, h2, fn, as, bo, setIf_same h3, h4, h5⟩

theorem st_rangeFunc_enter {b : Frame} {e : Fr} {f : Operand} {params : Array Tmp} {as bo : Code} {k : List Item} {cs : List Frame} {l : Nat} {mk : List Deferred} {w1 w2 : World}
    (h1 : (Instr.enterLoop b.fn ⟨concL μ e.tmps⟩ params as bo b.roundOf).run P w = .ok (l, mk) w1) (fr1 : Frame) (hfr : fr1 = { fr b μ e (.inRangeFunc l :: k) with defers := mk ++ e.dfs.map (mark μ) }) :
    (∀ g args, (do let d ← Deferred.ofValue (evc μ e.tmps f) #[.func (.yield l) #[] #[]]; invoke d.target d.args).run P w1 = .ok (.enter g args) w2 →
      step P (lone (fr b μ e (.code (.rangeFunc f params as bo) :: k)) cs w) = .next (lone (Frame.enter P g args .normal) (fr1 :: cs) w2)) ∧
    (∀ l2 g tm as2 bo2, (do let d ← Deferred.ofValue (evc μ e.tmps f) #[.func (.yield l) #[] #[]]; invoke d.target d.args).run P w1 = .ok (.round l2 g tm as2 bo2) w2 →
      step P (lone (fr b μ e (.code (.rangeFunc f params as bo) :: k)) cs w) = .next (lone (Frame.round l2 g tm as2 bo2 .normal) (fr1 :: cs) w2)) := by
  have hev : (fr1).eval f = evc μ e.tmps f := by
    rw [hfr]
    cases f with
    | tmp t => exact getD_conc μ e.tmps t
    | _ => rfl
  have hev2 : ∀ x, fr1.eval (.const x) = x := fun _ => rfl
  have hs : stepG P true { frame := fr b μ e (.code (.rangeFunc f params as bo) :: k), callers := cs, status := .running, dying := none } w =
      GStep.after (seen P b.fn (Sem.events P (Instr.enterLoop b.fn ⟨concL μ e.tmps⟩ params as bo b.roundOf) w #[])) (stepG.apply P true fr1 cs none (do let d ← resolve fr1.eval { callee := .value f, args := #[.const (.func (.yield l) #[] #[])], argTypes := #[] } 0; invoke d.target d.args) w1) := by
    simp only [stepG, stepG.exec, fr, Sem.runT_eq, h1]
    rw [hfr]
    rfl
  have hres : ∀ g, resolve fr1.eval { callee := .value f, args := #[.const (.func (.yield l) #[] #[])], argTypes := #[] } g = Deferred.ofValue (evc μ e.tmps f) #[.func (.yield l) #[] #[]] := by
    intro g; simp [resolve, hev, hev2]
  have htodo : fr1.todo = .inRangeFunc l :: k := by rw [hfr]; rfl
  constructor
  · intro g args hr
    refine step_lone_go ?_
    rw [hs, hres]
    simp [stepG.apply, hr, htodo]
  · intro l2 g tm as2 bo2 hr
    refine step_lone_go ?_
    rw [hs, hres]
    simp [stepG.apply, hr]
theorem st_endRangeFunc {f : Frame} {l : Nat} {k : List Item} {cs : List Frame} {jump : Option Code} (hm : f.mode = .run) (ht : f.todo = .endRangeFunc l :: k) (hr : (Instr.endLoop l).run P w = .ok jump w') :
    step P (lone f cs w) = .next (lone { f with todo := (jump.map Item.code).toList ++ k } cs w') :=
  step_lone_go (by
    obtain ⟨fn, tmps, todo, defers, mode, kind, ro⟩ := f
    simp only at hm ht
    subst hm ht
    simp [stepG, stepG.exec, hr])

theorem loop_sound {body : Code} {ib : ICode} {fuel : Nat} {rnd : Option Nat} (hb : ∀ {e σ x e' σ'}, evC K fuel rnd ib e σ = some (x, e', σ') → CodeOK P ng ts N0 rnd body e σ x e' σ') :
    ∀ (n : Nat) {e : Fr} {σ : AW} {x : IExit} {e' : Fr} {σ' : AW}, loopN (evC K fuel rnd ib) n e σ = some (x, e', σ') → ∀ {μ : Nat → Loc} {w : World}, Rep P ng ts N0 μ σ w → FrOK σ.next e → ∀ (b : Frame), RndOK b σ.next μ rnd → ∀ (k : List Item) (cs : List Frame),
      ∃ μ' w', Rep P ng ts N0 μ' σ' w' ∧ Goes μ σ w μ' σ' w' ∧ FrOK σ'.next e' ∧ CodeTo P b k cs (lone (fr b μ e (.code body :: .inLoop body :: k)) cs w) x e' μ' w' := by
  intro n
  induction n with
  | zero => intro e σ x e' σ' h; simp [loopN] at h
  | succ n ih =>
    intro e σ x e' σ' hv μ w h hE b hr k cs
    simp only [loopN] at hv
    split at hv
    · rename_i e1 σ1 h1
      obtain ⟨μ1, w1, r1, g1, f1, c1⟩ := hb h1 h hE b hr (.inLoop body :: k) cs
      obtain ⟨μ2, w2, r2, g2, f2, c2⟩ := ih hv r1 f1 b (hr.mono g1.next g1.agr) k cs
      refine ⟨μ2, w2, r2, g1.trans g2, f2, c2.head ?_⟩
      exact Steps.trans c1 (.one st_inLoop)
    · rename_i hne
      rw [hv] at hne
      obtain ⟨μ1, w1, r1, g1, f1, c1⟩ := hb hv h hE b hr (.inLoop body :: k) cs
      refine ⟨μ1, w1, r1, g1, f1, ?_⟩
      cases x with
      | normal => exact absurd rfl (hne _ _)
      | exit id =>
        obtain ⟨k', h1, h2⟩ := c1
        exact ⟨k', by rw [h1]; rfl, h2⟩
      | ret => obtain ⟨k', h2⟩ := c1; exact ⟨k', h2⟩
      | panic c => exact c1

theorem enterLoop_none {fn : FuncId} {tm : Array Value} {ps : Array Tmp} {as bo : Code} : (Instr.enterLoop fn tm ps as bo none).run P w =
    .ok (w.heap.size + 1, [{ target := .collected w.heap.size, args := #[] }]) { w with heap := (w.heap.push (.deferred (some []))).push (.loop { state := .ready, pending := none, fn, tmps := tm, params := ps, assign := as, body := bo, defers := w.heap.size }) } := by
  simp [Instr.enterLoop, newObj, Sem.run]
  rfl
theorem enterLoop_some {fn : FuncId} {tm : Array Value} {ps : Array Tmp} {as bo : Code} {l : Nat} {R : Loop} (h : w.heap[l]? = some (.loop R)) : (Instr.enterLoop fn tm ps as bo (some l)).run P w =
    .ok (w.heap.size, []) { w with heap := w.heap.push (.loop { state := .ready, pending := none, fn, tmps := tm, params := ps, assign := as, body := bo, defers := R.defers }) } := by
  simp [Instr.enterLoop, newObj, Sem.run, run_getLoop h]

/-- what a loop over a function starts with -/
theorem start_sound (h : Rep P ng ts N0 μ σ w) {e : Fr} (hE : FrOK σ.next e) {b : Frame} {rnd : Option Nat} (hr : RndOK b σ.next μ rnd) {params : Array Tmp} {as bo : Code} {ia ib : ICode} (ha : cCode P ng ts as = some ia) (hb : cCode P ng ts bo = some ib) {d l : Nat} {m : List Nat} {σ1 σ2 : AW}
    (h1 : startOf rnd σ = some (d, m, σ1))
    (h2 : σ1.push (.loop { state := .ready, pending := none, tmps := e.tmps, params := params.toList, assign := ia, body := ib, defers := d }) = some (l, σ2)) :
    ∃ μ2 w2, Rep P ng ts N0 μ2 σ2 w2 ∧ Goes μ σ w μ2 σ2 w2 ∧ l < σ2.next ∧ FrOK σ2.next { e with dfs := m ++ e.dfs } ∧
      (Instr.enterLoop b.fn ⟨concL μ e.tmps⟩ params as bo b.roundOf).run P w = .ok ((μ2 l).blk, m.map (mark μ2)) w2 := by
  cases rnd with
  | none =>
    simp only [startOf, Option.map_eq_some_iff, Prod.mk.injEq, Prod.exists] at h1
    obtain ⟨i, σ1', hp, rfl, rfl, rfl⟩ := h1
    have hro : b.roundOf = none := hr
    obtain ⟨rfl, hn1, r1, g1⟩ := h.push hp (w' := { w with heap := w.heap.push (.deferred (some [])) }) (ob := .deferred (some [])) (ex := 0) rfl (by simp) rfl rfl rfl rfl (by simp [BRep, upd_same])
    generalize hμ1 : upd μ σ.next ⟨w.heap.size, 0, 0⟩ = μ1 at r1 g1
    have hd1 : (μ1 σ.next).blk = w.heap.size := by rw [← hμ1, upd_same]
    have hct : concL μ1 e.tmps = concL μ e.tmps := concL_congr (fun i hi => g1.agr i hi) _ hE.tm
    have hlt1 : σ.next < σ1'.next := by rw [hn1]; omega
    obtain ⟨rfl, hn2, r2, g2⟩ := r1.push h2 (w' := { w with heap := (w.heap.push (.deferred (some []))).push (.loop { state := .ready, pending := none, fn := b.fn, tmps := ⟨concL μ e.tmps⟩, params, assign := as, body := bo, defers := w.heap.size }) })
      (ob := .loop { state := .ready, pending := none, fn := b.fn, tmps := ⟨concL μ e.tmps⟩, params, assign := as, body := bo, defers := w.heap.size }) (ex := 0) rfl (by simp) rfl rfl rfl rfl (by
        refine ⟨ltL_mono (show σ.next ≤ σ1'.next + 1 by omega) _ hE.tm, show σ.next < σ1'.next + 1 by omega, b.fn, as, bo, ?_, ha, hb⟩
        have hne : σ.next ≠ σ1'.next := by omega
        simp only [upd_same, upd_ne _ _ hne, hd1]
        have : concL (upd μ1 σ1'.next ⟨(w.heap.push (.deferred (some []))).size, 0, 0⟩) e.tmps = concL μ e.tmps := by
          rw [← hct]
          exact concL_congr (fun i hi => upd_ne _ _ (by omega)) _ hE.tm
        simp only [this, Array.getElem?_push_size]
        rfl)
    refine ⟨_, _, r2, g1.trans g2, by omega, ⟨ltL_mono (by omega) _ hE.tm, ?_⟩, ?_⟩
    · intro d hd
      simp at hd
      rcases hd with rfl | hd
      · omega
      · have := hE.dfs d hd; omega
    · rw [hro, enterLoop_none]
      simp [upd_same, mark, upd_ne _ _ (show σ.next ≠ σ1'.next by omega), hd1]
  | some l0 =>
    simp only [startOf] at h1
    split at h1
    · rename_i r hl0
      simp only [Option.some.injEq, Prod.mk.injEq] at h1
      obtain ⟨rfl, rfl, rfl⟩ := h1
      obtain ⟨_, hro⟩ := hr
      obtain ⟨q1, q2, fn, as0, bo0, q3, _⟩ := (h.blk _ _ hl0).2.2
      obtain ⟨rfl, hn2, r2, g2⟩ := h.push h2 (w' := { w with heap := w.heap.push (.loop { state := .ready, pending := none, fn := b.fn, tmps := ⟨concL μ e.tmps⟩, params, assign := as, body := bo, defers := (μ r.defers).blk }) })
        (ob := .loop { state := .ready, pending := none, fn := b.fn, tmps := ⟨concL μ e.tmps⟩, params, assign := as, body := bo, defers := (μ r.defers).blk }) (ex := 0) rfl (by simp) rfl rfl rfl rfl (by
          refine ⟨ltL_mono (show σ.next ≤ σ.next + 1 by omega) _ hE.tm, show r.defers < σ.next + 1 by omega, b.fn, as, bo, ?_, ha, hb⟩
          have hne : r.defers ≠ σ.next := by omega
          simp only [upd_same, upd_ne _ _ hne]
          have : concL (upd μ σ.next ⟨w.heap.size, 0, 0⟩) e.tmps = concL μ e.tmps := concL_congr (fun i hi => upd_ne _ _ (by omega)) _ hE.tm
          simp only [this]
          simp)
      refine ⟨_, _, r2, g2, by omega, ⟨ltL_mono (by omega) _ hE.tm, fun d hd => by have := hE.dfs d (by simpa using hd); omega⟩, ?_⟩
      rw [hro, enterLoop_some q3]
      simp [upd_same]
    · simp at h1

/-- **Code.** -/
theorem evC_sound (hK : KSound P ng ts N0 K) (hD : DrawOK P ng ts N0 K) (fuel : Nat) (rnd : Option Nat) : ∀ (c : Code) (ic : ICode), cCode P ng ts c = some ic → ∀ {e : Fr} {σ : AW} {x : IExit} {e' : Fr} {σ' : AW}, evC K fuel rnd ic e σ = some (x, e', σ') → CodeOK P ng ts N0 rnd c e σ x e' σ' := by
  intro c
  induction c with
  | skip =>
    intro ic hc e σ x e' σ' hv μ w h hE b hr k cs
    simp [cCode] at hc; subst hc
    simp [evC] at hv
    obtain ⟨rfl, rfl, rfl⟩ := hv
    exact ⟨μ, w, h, Goes.refl _ _ _, hE, .one st_skip⟩
  | label l =>
    intro ic hc e σ x e' σ' hv μ w h hE b hr k cs
    simp [cCode] at hc; subst hc
    simp [evC] at hv
    obtain ⟨rfl, rfl, rfl⟩ := hv
    exact ⟨μ, w, h, Goes.refl _ _ _, hE, .one st_label⟩
  | region id ops d =>
    intro ic hc e σ x e' σ' hv μ w h hE b hr k cs
    cases d with
    | false =>
      simp only [cCode, Option.map_eq_some_iff] at hc
      obtain ⟨l, hl, rfl⟩ := hc
      simp only [evC, Option.map_eq_some_iff, Prod.mk.injEq, Prod.exists] at hv
      obtain ⟨x', t', σ1, hv, rfl, rfl, rfl⟩ := hv
      obtain ⟨rfl, μ1, w1, r1, g1, f1, s1⟩ := runOps_sound hK (ops := ops) ops.toList l 0 (fun m o hm => by simpa using hm) hl hv h hE b k cs
      refine ⟨μ1, w1, r1, g1, f1, ?_⟩
      have hrg : List.range' 0 ops.toList.length = List.range ops.size := by rw [List.range_eq_range']; simp
      rw [hrg] at s1
      exact Steps.head st_region (s1.trans (.one st_region_end))
    | true =>
      simp only [cCode] at hc
      split at hc
      · rename_i l hl
        split at hc
        · rename_i hvd
          simp at hc; subst hc
          simp only [evC] at hv
          simp only [Option.map_eq_some_iff, Prod.mk.injEq, Prod.exists] at hv
          obtain ⟨t', σ1, hv, rfl, rfl, rfl⟩ := hv
          exact hD hl hvd hv h hE b hr k cs
        · simp at hc; subst hc
          simp [evC] at hv
      · simp at hc
  | seq a b iha ihb =>
    intro ic hc e σ x e' σ' hv μ w h hE fb hr k cs
    simp only [cCode] at hc
    split at hc
    · rename_i ia ib ha hb
      simp at hc; subst hc
      simp only [evC] at hv
      split at hv
      · rename_i e1 σ1 h1
        obtain ⟨μ1, w1, r1, g1, f1, c1⟩ := iha ia ha h1 h hE fb hr (.code b :: k) cs
        obtain ⟨μ2, w2, r2, g2, f2, c2⟩ := ihb ib hb hv r1 f1 fb (hr.mono g1.next g1.agr) k cs
        exact ⟨μ2, w2, r2, g1.trans g2, f2, c2.head (Steps.head st_seq c1)⟩
      · rename_i hne
        rw [hv] at hne
        obtain ⟨μ1, w1, r1, g1, f1, c1⟩ := iha ia ha hv h hE fb hr (.code b :: k) cs
        refine ⟨μ1, w1, r1, g1, f1, ?_⟩
        cases x with
        | normal => exact absurd rfl (hne _ _)
        | exit id =>
          obtain ⟨k', h1, h2⟩ := c1
          exact ⟨k', by rw [h1]; rfl, Steps.head st_seq h2⟩
        | ret => obtain ⟨k', h2⟩ := c1; exact ⟨k', Steps.head st_seq h2⟩
        | panic c => exact c1
    · simp at hc
  | cond c a b iha ihb =>
    intro ic hc e σ x e' σ' hv μ w h hE fb hr k cs
    simp only [cCode] at hc
    split at hc
    · rename_i hok
      split at hc
      · rename_i ia ib ha hb
        simp at hc; subst hc
        simp only [evC] at hv
        have hcv := opd_conc h.glob e.tmps hok
        split at hv
        · rename_i ht
          obtain ⟨μ1, w1, r1, g1, f1, c1⟩ := iha ia ha hv h hE fb hr k cs
          refine ⟨μ1, w1, r1, g1, f1, c1.head (.one ?_)⟩
          rw [st_cond (t := true) (by rw [hcv, ht]; simp)]; simp
        · rename_i ht
          obtain ⟨μ1, w1, r1, g1, f1, c1⟩ := ihb ib hb hv h hE fb hr k cs
          refine ⟨μ1, w1, r1, g1, f1, c1.head (.one ?_)⟩
          rw [st_cond (t := false) (by rw [hcv, ht]; simp)]; simp
        · simp at hv
      · simp at hc
    · simp at hc
  | block id b ih =>
    intro ic hc e σ x e' σ' hv μ w h hE fb hr k cs
    simp only [cCode, Option.map_eq_some_iff] at hc
    obtain ⟨ib, hb, rfl⟩ := hc
    simp only [evC] at hv
    split at hv
    · rename_i i e1 σ1 h1
      simp only [Option.some.injEq, Prod.mk.injEq] at hv
      obtain ⟨rfl, rfl, rfl⟩ := hv
      obtain ⟨μ1, w1, r1, g1, f1, k', hk1, hk2⟩ := ih ib hb h1 h hE fb hr (.inBlock id :: k) cs
      refine ⟨μ1, w1, r1, g1, f1, ?_⟩
      split
      · rename_i hid
        subst hid
        have : exitTo i k' = some k := by rw [hk1]; simp [exitTo]
        exact Steps.head st_block (hk2.trans (.one (st_exit this)))
      · rename_i hid
        refine ⟨k', ?_, Steps.head st_block hk2⟩
        rw [hk1]
        have : (id == i) = false := by simp; exact fun h => hid h.symm
        simp [exitTo, this]
    · rename_i hne
      rw [hv] at hne
      obtain ⟨μ1, w1, r1, g1, f1, c1⟩ := ih ib hb hv h hE fb hr (.inBlock id :: k) cs
      refine ⟨μ1, w1, r1, g1, f1, ?_⟩
      cases x with
      | normal => exact Steps.head st_block (Steps.trans c1 (.one st_inBlock))
      | exit i => exact absurd rfl (hne _ _ _)
      | ret => obtain ⟨k', h2⟩ := c1; exact ⟨k', Steps.head st_block h2⟩
      | panic c => exact c1
  | loop b ih =>
    intro ic hc e σ x e' σ' hv μ w h hE fb hr k cs
    simp only [cCode, Option.map_eq_some_iff] at hc
    obtain ⟨ib, hb, rfl⟩ := hc
    simp only [evC] at hv
    obtain ⟨μ1, w1, r1, g1, f1, c1⟩ := loop_sound (fun {e σ x e' σ'} hh => ih ib hb hh) fuel hv h hE fb hr k cs
    exact ⟨μ1, w1, r1, g1, f1, c1.head (.one st_loop)⟩
  | exit id =>
    intro ic hc e σ x e' σ' hv μ w h hE b hr k cs
    simp [cCode] at hc; subst hc
    simp [evC] at hv
    obtain ⟨rfl, rfl, rfl⟩ := hv
    exact ⟨μ, w, h, Goes.refl _ _ _, hE, k, rfl, .refl _ _⟩
  | ret =>
    intro ic hc e σ x e' σ' hv μ w h hE b hr k cs
    simp [cCode] at hc; subst hc
    simp [evC] at hv
    obtain ⟨rfl, rfl, rfl⟩ := hv
    exact ⟨μ, w, h, Goes.refl _ _ _, hE, k, .refl _ _⟩
  | refuse s =>
    intro ic hc e σ x e' σ' hv
    simp [cCode] at hc; subst hc
    simp [evC] at hv
  | scope b ih => intro ic hc; simp [cCode] at hc
  | goto l => intro ic hc; simp [cCode] at hc
  | rangeFunc f params as bo iha ihb =>
    intro ic hc e σ x e' σ' hv μ w h hE fb hr k cs
    simp only [cCode] at hc
    split at hc
    · rename_i hok
      split at hc
      · rename_i ia ib ha hb
        simp at hc; subst hc
        simp only [evC, Option.bind_eq_some_iff, Prod.exists] at hv
        obtain ⟨d, m, σ1, h1, l, σ2, h2, hv⟩ := hv
        obtain ⟨μ2, w2, r2, g2, hl2, f2, hrun⟩ := start_sound h hE hr ha hb h1 h2
        split at hv
        · rename_i v σ3 hcall
          have hF := opd_lt h.ngn hE.tm hok
          have hFc : conc μ2 ((cOpd f).ev e.tmps) = evc μ e.tmps f := by
            rw [opd_conc h.glob e.tmps hok]; exact conc_congr (fun i hi => g2.agr i hi) _ hF
          have hgo := callV_sound hK r2 (lt_mono g2.next _ hF) (args := [.func (.yield l) #[] #[]]) (by simp [ltL, lt, ltFn, hl2]) hcall
          rw [hFc] at hgo
          have harg : (⟨concL μ2 [.func (.yield l) #[] #[]]⟩ : Array Value) = #[.func (.yield (μ2 l).blk) #[] #[]] := by simp [concL, conc, cFn]
          rw [harg] at hgo
          -- the frame that waits
          have hfr1 : { fr fb μ e (.inRangeFunc (μ2 l).blk :: k) with defers := m.map (mark μ2) ++ e.dfs.map (mark μ) } = fr fb μ2 { e with dfs := m ++ e.dfs } (.inRangeFunc (μ2 l).blk :: k) := by
            have q1 : concL μ2 e.tmps = concL μ e.tmps := concL_congr (fun i hi => g2.agr i hi) _ hE.tm
            have q2 : e.dfs.map (mark μ2) = e.dfs.map (mark μ) := List.map_congr_left fun d hd => by simp [mark, g2.agr d (hE.dfs d hd)]
            simp [fr, q1, q2]
          obtain ⟨se, sr⟩ := st_rangeFunc_enter (P := P) (f := f) (k := k) (cs := cs) (w2 := w2) hrun _ hfr1.symm
          -- the call
          obtain ⟨μ3, w3, r3, g3, l3, s3⟩ : ∃ μ3 w3, Rep P ng ts N0 μ3 σ3 w3 ∧ Goes μ2 σ2 w2 μ3 σ3 w3 ∧ lt σ3.next v = true ∧
              Steps P (lone (fr fb μ e (.code (.rangeFunc f params as bo) :: k)) cs w) (lone ((fr fb μ2 { e with dfs := m ++ e.dfs } (.inRangeFunc (μ2 l).blk :: k)).finish (conc μ3 v)) cs w3) := by
            cases hgo with
            | enter g args hr1 hok1 =>
              obtain ⟨μ3, w3, q1, q2, q3, q4⟩ := hok1 (fr fb μ2 { e with dfs := m ++ e.dfs } (.inRangeFunc (μ2 l).blk :: k)) cs
              exact ⟨μ3, w3, q1, q2, q3, .head (se g args hr1) q4⟩
            | round l2 g tm as2 bo2 hr1 hok1 =>
              obtain ⟨μ3, w3, q1, q2, q3, q4⟩ := hok1 (fr fb μ2 { e with dfs := m ++ e.dfs } (.inRangeFunc (μ2 l).blk :: k)) cs
              exact ⟨μ3, w3, q1, q2, q3, .head (sr l2 g tm as2 bo2 hr1) q4⟩
          split at hv
          · rename_i r hlr
            split at hv
            · simp at hv
            · rename_i hbusy
              simp only [Option.some.injEq, Prod.mk.injEq] at hv
              obtain ⟨hx, rfl, rfl⟩ := hv
              obtain ⟨R, hR1, hR2, hR3, r4, g4⟩ := r3.setLoop hlr .exhausted r.pending
              have hml : (μ3 l).blk = (μ2 l).blk := by rw [g3.agr l hl2]
              have hend : (Instr.endLoop (μ2 l).blk).run P w3 = .ok R.pending { w3 with heap := w3.heap.setIfInBounds (μ3 l).blk (.loop { R with state := .exhausted, pending := r.pending.bind cExit }) } := by
                rw [← hml]
                have hst : ¬ R.state = .busy := by rw [hR2]; simpa using hbusy
                simp [Instr.endLoop, run_getLoop hR1, run_setObj hR1 (by simp), hR3]
                intro hb; exact absurd hb hst
              have hfr3 : ((fr fb μ2 { e with dfs := m ++ e.dfs } (.inRangeFunc (μ2 l).blk :: k)).finish (conc μ3 v)) = fr fb μ3 { e with dfs := m ++ e.dfs } (.endRangeFunc (μ2 l).blk :: k) := by
                rw [← fr_congr f2 g3.agr]
                simp [Frame.finish, fr]
              rw [hfr3] at s3
              have s4 := s3.trans (.one (st_endRangeFunc (P := P) (f := fr fb μ3 { e with dfs := m ++ e.dfs } (.endRangeFunc (μ2 l).blk :: k)) rfl rfl hend))
              refine ⟨μ3, _, r4, (g2.trans g3).trans g4, f2.mono (Nat.le_trans g3.next g4.next), ?_⟩
              rw [hR3] at s4
              cases hp : r.pending with
              | none =>
                rw [hp] at hx s4
                simp at hx; subst hx
                exact s4
              | some y =>
                rw [hp] at hx s4
                cases y with
                | normal => simp at hx; subst hx; exact s4
                | exit i => simp at hx; subst hx; exact ⟨k, rfl, s4⟩
                | ret => simp at hx; subst hx; exact ⟨k, s4⟩
                | panic c => simp at hx; subst hx; exact s4
          · simp at hv
        · simp at hv
      · simp at hc
    · simp at hc
end
end Go.Proofs.YtjpepfgbilbcdaaGreatDoor.Ai
