/- A PART OF THE PROOF THAT AN INTERPRETER OF THE PROGRAM'S FUNCTIONS IS SOUND: a step of it. -/
import Derived.Test.YtjpepfgbilbcdaaGreatDoorAiU
namespace Go.Proofs.YtjpepfgbilbcdaaGreatDoor.Ai
open Go
set_option linter.unusedSimpArgs false

structure FrOK (n : Nat) (e : Fr) : Prop where
  tm : ltL n e.tmps = true
  dfs : ∀ d ∈ e.dfs, d < n
theorem FrOK.mono {n m : Nat} {e : Fr} (h : FrOK n e) (hn : n ≤ m) : FrOK m e := ⟨ltL_mono hn _ h.tm, fun d hd => Nat.lt_of_lt_of_le (h.dfs d hd) hn⟩
theorem fr_congr {b : Frame} {μ μ' : Nat → Loc} {n : Nat} {e : Fr} (h : FrOK n e) (ha : ∀ i, i < n → μ' i = μ i) (k : List Item) : fr b μ' e k = fr b μ e k := by
  have h1 : concL μ' e.tmps = concL μ e.tmps := concL_congr ha _ h.tm
  have h2 : e.dfs.map (mark μ') = e.dfs.map (mark μ) := List.map_congr_left fun d hd => by simp [mark, ha d (h.dfs d hd)]
  simp [fr, h1, h2]

section
variable {P : Program} {ng : Nat} {ts : List TypeId} {N0 : Nat}

/-- what a call that comes to v does by the machine -/
def CallOK (P : Program) (ng : Nat) (ts : List TypeId) (N0 : Nat) (start : (Nat → Loc) → Frame) (σ : AW) (v : Value) (σ' : AW) (μ : Nat → Loc) (w : World) : Prop :=
  ∀ c cs, ∃ μ' w', Rep P ng ts N0 μ' σ' w' ∧ Goes μ σ w μ' σ' w' ∧ lt σ'.next v = true ∧ Steps P (lone (start μ) (c :: cs) w) (lone (c.finish (conc μ' v)) cs w')
structure KSound (P : Program) (ng : Nat) (ts : List TypeId) (N0 : Nat) (K : Ks) : Prop where
  call : ∀ {f args σ v σ'}, K.call f args σ = some (.ret v, σ') → (∃ fn, P.funcs[f]? = some fn ∧ fn.body.isNone = false ∧ (fn.name == "runtime.NumGoroutine") = false) ∧
    ∀ {μ w}, Rep P ng ts N0 μ σ w → ltL σ.next args = true → CallOK P ng ts N0 (fun μ => Frame.enter P f ⟨concL μ args⟩ .normal) σ v σ' μ w
  yield : ∀ {l args σ v σ'}, K.yield l args σ = some (.ret v, σ') → ∀ {μ w}, Rep P ng ts N0 μ σ w → ltL σ.next args = true → ∃ fn tm as bo, (Instr.yield (μ l).blk ⟨concL μ args⟩).run P w = .ok (.round (μ l).blk fn tm as bo) w ∧
    CallOK P ng ts N0 (fun μ => Frame.round (μ l).blk fn tm as bo .normal) σ v σ' μ w

variable {K : Ks} {μ : Nat → Loc} {σ σ' : AW} {w : World}

/-- how a value that is called goes on -/
inductive Goes1 (P : Program) (ng : Nat) (ts : List TypeId) (N0 : Nat) (σ : AW) (v : Value) (σ' : AW) (μ : Nat → Loc) (w : World) (s : Sem Next) : Prop
  | enter (f : FuncId) (args : Array Value) (hr : s.run P w = .ok (.enter f args) w) (h : CallOK P ng ts N0 (fun _ => Frame.enter P f args .normal) σ v σ' μ w)
  | round (l f : Nat) (tm : Array Value) (as bo : Code) (hr : s.run P w = .ok (.round l f tm as bo) w) (h : CallOK P ng ts N0 (fun _ => Frame.round l f tm as bo .normal) σ v σ' μ w)

theorem callFunc_run {f : FuncId} {fn : Func} (hf : P.funcs[f]? = some fn) (hb : fn.body.isNone = false) (hn : (fn.name == "runtime.NumGoroutine") = false) (args : Array Value) (w : World) : (callFunc f args).run P w = .ok (.enter f args) w := by
  simp [callFunc, hf]
  rw [if_neg (by simpa using hn), if_neg (by intro h; rw [h] at hb; simp at hb)]

theorem callV_sound (hK : KSound P ng ts N0 K) (h : Rep P ng ts N0 μ σ w) {F : Value} {args : List Value} (hF : lt σ.next F = true) (ha : ltL σ.next args = true) {v : Value} (hv : callV K F args σ = some (.ret v, σ')) :
    Goes1 P ng ts N0 σ v σ' μ w (do let d ← Deferred.ofValue (conc μ F) ⟨concL μ args⟩; invoke d.target d.args) := by
  unfold callV at hv
  split at hv
  · rename_i f first captured
    simp only [lt_func, Bool.and_eq_true] at hF
    obtain ⟨⟨fn, h1, h2, h3⟩, h4⟩ := hK.call hv
    have hargs : ltL σ.next (first ++ (args ++ captured)) = true := ltL_append.2 ⟨hF.1.2, ltL_append.2 ⟨ha, hF.2⟩⟩
    refine .enter f ⟨concL μ (first ++ (args ++ captured))⟩ ?_ (h4 h hargs)
    have e : (⟨concL μ first⟩ : Array Value) ++ ⟨concL μ args⟩ ++ ⟨concL μ captured⟩ = ⟨concL μ (first ++ (args ++ captured))⟩ := by
      apply Array.ext'; simp [concL_append]
    simp only [conc_func, cFn, Deferred.ofValue, Sem.run_bind, Sem.run_pure, Result.andThen_ok, invoke]
    rw [callFunc_run h1 h2 h3, e]
  · rename_i l first captured
    obtain ⟨captured⟩ := captured
    simp only [lt_func, Bool.and_eq_true] at hF
    obtain ⟨fn, tm, as, bo, h1, h2⟩ := hK.yield hv h (ltL_append.2 ⟨hF.1.2, ha⟩)
    refine .round _ fn tm as bo ?_ h2
    have e : (⟨concL μ first⟩ : Array Value) ++ ⟨concL μ args⟩ = ⟨concL μ (first ++ args)⟩ := by
      apply Array.ext'; simp [concL_append]
    simp only [conc_func, cFn, Deferred.ofValue, Sem.run_bind, Sem.run_pure, Result.andThen_ok, invoke, e]
    exact h1
  · simp at hv

theorem method_run {name : String} {t : TypeId} {f : FuncId} (h : (cMethods P name ts).lookup t = some f) (V : Value) (k : Nat) (w : World) : (method (k + 1) t V name).run P w = .ok (f, V) w := by
  obtain ⟨i, m, hi, hm, hp, hr⟩ := cMethods_some h
  simp only [method, Sem.run_bind, run_info hi, Result.andThen_ok, hm, hp, follow, Sem.run_pure]
  rcases hr with ⟨hf, el, hu⟩ | ⟨hf, d, hu, hd⟩
  · simp [hf, receiverAt, run_und hu, Place.get]
  · simp only [hf, receiverAt, Sem.run_bind, run_und hu, Result.andThen_ok]
    cases d <;> first | exact absurd rfl (hd _) | simp [Place.get]
theorem invoke_sound (hK : KSound P ng ts N0 K) (h : Rep P ng ts N0 μ σ w) {t : TypeId} {V : Value} {args : List Value} (hF : lt σ.next (.iface t V) = true) (ha : ltL σ.next args = true) {name : String} {f : FuncId} (hm : (cMethods P name ts).lookup t = some f)
    {v : Value} (hv : K.call f (V :: args) σ = some (.ret v, σ')) : Goes1 P ng ts N0 σ v σ' μ w (invoke (.fn (.method name) #[]) (#[conc μ (.iface t V)] ++ ⟨concL μ args⟩)) := by
  obtain ⟨⟨fn, h1, h2, h3⟩, h4⟩ := hK.call hv
  have hl : ltL σ.next (V :: args) = true := by simp only [ltL, Bool.and_eq_true]; exact ⟨by simpa using hF, ha⟩
  refine .enter f ⟨concL μ (V :: args)⟩ ?_ (h4 h hl)
  have e1 : (#[conc μ (.iface t V)] ++ (⟨concL μ args⟩ : Array Value)) = ⟨conc μ (.iface t V) :: concL μ args⟩ := by apply Array.ext'; simp
  have e2 : (⟨conc μ (.iface t V) :: concL μ args⟩ : Array Value).extract 1 (⟨conc μ (.iface t V) :: concL μ args⟩ : Array Value).size = ⟨concL μ args⟩ := by apply Array.ext'; simp
  have e3 : (#[conc μ V] ++ (⟨concL μ args⟩ : Array Value)) = ⟨concL μ (V :: args)⟩ := by apply Array.ext'; simp [concL]
  rw [e1]
  simp only [invoke, List.getElem?_toArray, List.getElem?_cons_zero, e2]
  simp only [callMethod, conc_iface, Sem.run_bind, run_program, Result.andThen_ok]
  rw [show P.types.size + Made.depth = (P.types.size + Made.depth - 1) + 1 by unfold Made.depth; omega, method_run hm]
  simp only [Result.andThen_ok, e3]
  rw [callFunc_run h1 h2 h3]

theorem opers_map (hg : Glob ng μ) {e : List Value} {args : Array Operand} (h : ∀ x ∈ args.toList, okOpd ng x = true) : args.map (evc μ e) = ⟨concL μ (evs e (args.toList.map cOpd))⟩ := by
  apply Array.ext'; simp [← evs_conc hg e _ h]
theorem wanted_eq {ng : Nat} {ts : List TypeId} {ops : Array Oper} {o : Oper} {io : IOper} (hc : cOper P ng ts ops o = some io) (e : List Value) : Region.wanted o (yielded ops ⟨concL μ e⟩) = io.wanted e := by
  unfold cOper at hc
  split at hc
  · rename_i g hg
    simp at hc; subst hc
    unfold Region.wanted IOper.wanted
    cases hgu : o.guard with
    | none => rw [hgu] at hg; simp [cGuard] at hg; subst hg; rfl
    | some p =>
      obtain ⟨j, want⟩ := p
      rw [hgu] at hg
      simp only [cGuard] at hg
      split at hg
      · rename_i d hd
        simp at hg; subst hg
        simp only [yielded, hd, Option.bind_some]
        have : (⟨concL μ e⟩ : Array Value)[d]? = (e[d]?).map (conc μ) := by simp [concL_getElem?]
        rw [this, getV_eq, List.getD_eq_getElem?_getD]
        cases e[d]? with
        | none => simp [undef]
        | some v =>
          simp only [Option.map_some, Option.getD_some]
          cases v with
          | bool b => simp
          | pointer a => cases a <;> simp
          | slice a _ _ => cases a <;> simp
          | map a => cases a <;> simp
          | func f a b => cases a; cases b; simp
          | agg a => cases a; simp
          | tuple a => cases a; simp
          | _ => simp [conc]
      · simp at hg
  · simp at hc
theorem cOper_dst {ops : Array Oper} {o : Oper} {io : IOper} (hc : cOper P ng ts ops o = some io) : io.dst = o.dst := by
  unfold cOper at hc
  split at hc
  · simp at hc; subst hc; rfl
  · simp at hc
theorem cOp_nodefer {op : Op} {io : IOp} (h : cOp P ts op = some io) : ∀ c, op ≠ .defer c := by
  intro c hc; subst hc; simp [cOp] at h

/-- **One operation.** -/
theorem runOp_sound (hK : KSound P ng ts N0 K) (h : Rep P ng ts N0 μ σ w) {E : Fr} (hE : FrOK σ.next E) {ops : Array Oper} {i : Nat} {o : Oper} {io : IOper} (ho : ops[i]? = some o) (hc : cOper P ng ts ops o = some io) (hw : io.wanted E.tmps = true)
    {v : Value} (hv : runOp K σ.next E.tmps σ io.op = some (.ret v, σ')) (b : Frame) (rest : List Nat) (k : List Item) (cs : List Frame) :
    ∃ μ' w', Rep P ng ts N0 μ' σ' w' ∧ Goes μ σ w μ' σ' w' ∧ lt σ'.next v = true ∧
      Steps P (lone (fr b μ E (.inRegion ops (i :: rest) :: k)) cs w) (lone (fr b μ' { E with tmps := put E.tmps o.dst v } (.inRegion ops rest :: k)) cs w') := by
  have hw' : Region.wanted o (yielded ops ⟨concL μ E.tmps⟩) = true := by rw [wanted_eq hc]; exact hw
  -- the end: what is put
  have fin : ∀ {μ' : Nat → Loc} {σ1 : AW} {w' : World} (v : Value), Goes μ σ w μ' σ1 w' → ((fr b μ E (.inRegion ops (i :: rest) :: k)).finish (conc μ' v)) = fr b μ' { E with tmps := put E.tmps o.dst v } (.inRegion ops rest :: k) := by
    intro μ' σ1 w' v hg
    rw [← fr_congr hE hg.agr, fr_finish, ho]
    rfl
  have hio : ∃ q, io.op = q ∧ (q = .bad ∨ (okOp ng o.op = true ∧ cOp P ts o.op = some q)) := by
    unfold cOper at hc
    split at hc
    · simp at hc; subst hc
      simp only
      split
      · rename_i hok
        cases hq : cOp P ts o.op with
        | none => exact ⟨_, rfl, .inl rfl⟩
        | some q => exact ⟨_, rfl, .inr ⟨hok, rfl⟩⟩
      · exact ⟨_, rfl, .inl rfl⟩
    · simp at hc
  obtain ⟨q, hq, hq'⟩ := hio
  rw [hq] at hv
  rcases hq' with rfl | ⟨hok, hcop⟩
  · simp [runOp] at hv
  have hnd := cOp_nodefer hcop
  cases q with
  | bad => simp [runOp] at hv
  | p q =>
    simp only [runOp, Option.map_eq_some_iff, Prod.mk.injEq, IRet.ret.injEq] at hv
    obtain ⟨v', hv, rfl, rfl⟩ := hv
    have hs := evP_sound h.glob h.ngn hE.tm hcop hok hv w
    exact ⟨μ, w, h, Goes.refl _ _ _, hs.2, .one (by rw [st_value ho hw' hnd hs.1, fin v' (Goes.refl μ σ w)])⟩
  | r q =>
    simp only [runOp, Option.map_eq_some_iff, Prod.mk.injEq, IRet.ret.injEq] at hv
    obtain ⟨v', hv, rfl, rfl⟩ := hv
    have hs := evR_sound h hE.tm hcop hok hv
    exact ⟨μ, w, h, Goes.refl _ _ _, hs.2, .one (by rw [st_value ho hw' hnd hs.1, fin v' (Goes.refl μ σ w)])⟩
  | n q =>
    simp only [runOp, Option.bind_eq_some_iff, Prod.exists] at hv
    obtain ⟨bk, f, hbf, hv⟩ := hv
    split at hv
    · rename_i hm
      simp only [Option.some.injEq, Prod.mk.injEq, IRet.ret.injEq] at hv
      obtain ⟨rfl, rfl⟩ := hv
      obtain ⟨ob, hrun, hro, hal, hb, hlt⟩ := evN_sound h.glob h.ngn hE.tm hcop hok hbf w
      have hp : σ.push bk = some (σ.next, { next := Nat.max σ.next (σ.next + 1), heap := σ.heap.set σ.next bk }) := by
        unfold AW.push
        rw [if_pos hm]
        have : Nat.max σ.next (σ.next + 1) = σ.next + 1 := Nat.max_eq_right (Nat.le_succ _)
        rw [this]
      obtain ⟨_, hnx, hr2, hg2⟩ := h.push hp (w' := { w with heap := w.heap.push ob }) (ob := ob) (ex := 0) hro (fun c hc j hj => by rw [hal c hc] at hj; simp at hj) rfl rfl rfl rfl hb
      refine ⟨_, _, hr2, hg2, by rw [hnx]; exact hlt, .one ?_⟩
      rw [st_value ho hw' hnd hrun, fin _ hg2]
    · simp at hv
  | e q =>
    simp only [runOp] at hv
    cases hcall : isCallE q with
    | false =>
      obtain ⟨μ', w', nx, hr, hg, hl, hrun, hnx⟩ := evE_sound h hE.tm hcop hcall hok hv
      refine ⟨μ', w', hr, hg, hl, .one ?_⟩
      rcases hnx with rfl | ⟨rfl, rfl⟩
      · rw [st_value ho hw' hnd hrun, fin v hg]
      · rw [st_unit ho hw' hnd hrun, ← fin undef hg, conc_undef]
    | true =>
      -- a call
      have main : ∀ {s : Sem Next}, execOp (evc μ E.tmps) o = s → Goes1 P ng ts N0 σ v σ' μ w s → ∃ μ' w', Rep P ng ts N0 μ' σ' w' ∧ Goes μ σ w μ' σ' w' ∧ lt σ'.next v = true ∧
          Steps P (lone (fr b μ E (.inRegion ops (i :: rest) :: k)) cs w) (lone (fr b μ' { E with tmps := put E.tmps o.dst v } (.inRegion ops rest :: k)) cs w') := by
        intro s hs hg1
        cases hg1 with
        | enter f args hr hok =>
          obtain ⟨μ', w', h1, h2, h3, h4⟩ := hok (fr b μ E (.inRegion ops (i :: rest) :: k)) cs
          refine ⟨μ', w', h1, h2, h3, .head (st_enter ho hw' hnd (by rw [hs]; exact hr)) ?_⟩
          rw [← fin v h2]; exact h4
        | round l f tm as bo hr hok =>
          obtain ⟨μ', w', h1, h2, h3, h4⟩ := hok (fr b μ E (.inRegion ops (i :: rest) :: k)) cs
          refine ⟨μ', w', h1, h2, h3, .head (st_round ho hw' hnd (by rw [hs]; exact hr)) ?_⟩
          rw [← fin v h2]; exact h4
      -- which call it is
      have hshape : ∃ c, o.op = .call c ∧ ((∃ f, c.callee = .value (.func f) ∧ q = .call f (c.args.toList.map cOpd)) ∨ (∃ x, c.callee = .value x ∧ (∀ f, x ≠ .func f) ∧ q = .callv (cOpd x) (c.args.toList.map cOpd)) ∨ (∃ x name, c.callee = .invoke x name ∧ q = .invoke (cMethods P name ts) (cOpd x) (c.args.toList.map cOpd))) := by
        have hne : q ≠ .panic (.t 0) := by intro hq; subst hq; simp [runE] at hv
        have hnp : ∀ x, q ≠ .panic x := by intro x hq; subst hq; simp [runE] at hv
        generalize hop : o.op = op at hcop hok
        cases op with
        | call c =>
          refine ⟨c, rfl, ?_⟩
          obtain ⟨callee, args, ats⟩ := c
          simp only [cOp] at hcop
          cases callee with
          | builtin b =>
            exfalso
            simp only at hcop
            unfold cBuiltin at hcop
            (repeat' split at hcop) <;> simp at hcop <;> subst hcop <;> simp [isCallE] at hcall
            exact hnp _ rfl
          | value f =>
            cases f with
            | func f =>
              left
              simp only at hcop
              (repeat' split at hcop) <;> simp at hcop
              exact ⟨f, rfl, hcop.symm⟩
            | _ => right; left; simp at hcop; exact ⟨_, rfl, by simp, hcop.symm⟩
          | invoke x name => right; right; simp at hcop; exact ⟨x, name, rfl, hcop.symm⟩
        | panic x => simp [cOp] at hcop; exact absurd hcop.symm (hnp _)
        | store t a x => exfalso; simp only [cOp] at hcop; split at hcop <;> simp at hcop; subst hcop; simp [isCallE] at hcall
        | build t parts =>
          exfalso
          simp only [cOp] at hcop
          split at hcop
          · simp only [Option.bind_eq_bind, Option.bind_eq_some_iff] at hcop
            obtain ⟨_, _, _, _, hcop⟩ := hcop
            split at hcop <;> simp at hcop
          · simp only [Option.bind_eq_bind, Option.bind_eq_some_iff] at hcop
            obtain ⟨_, _, _, _, hcop⟩ := hcop
            split at hcop <;> simp at hcop
          · simp at hcop
        | buildSlice t len parts =>
          exfalso
          simp only [cOp] at hcop
          split at hcop
          · simp only [Option.bind_eq_bind, Option.bind_eq_some_iff] at hcop
            obtain ⟨z, _, hcop⟩ := hcop
            split at hcop
            · simp at hcop
            · simp only [Option.bind_eq_some_iff] at hcop
              obtain ⟨_, _, hcop⟩ := hcop
              simp at hcop
          · simp at hcop
        | binOp op t x y u =>
          exfalso
          simp only [cOp] at hcop
          split at hcop
          · simp at hcop
          · simp at hcop
          · split at hcop
            · unfold cEqOp at hcop; (repeat' split at hcop) <;> simp at hcop
            · unfold cEqOp at hcop; (repeat' split at hcop) <;> simp at hcop
            · simp at hcop
          · simp at hcop
        | field t x f =>
          exfalso
          simp only [cOp] at hcop
          split at hcop
          · split at hcop
            · simp only [Option.map_eq_some_iff] at hcop
              obtain ⟨_, _, hcop⟩ := hcop
              simp at hcop
            · simp at hcop
          · simp at hcop
        | typeAssert x xt t ok =>
          exfalso
          simp only [cOp] at hcop
          split at hcop
          · simp at hcop
          · split at hcop <;> simp at hcop
          · simp at hcop
        | makeMap t r => exfalso; cases r <;> simp [cOp] at hcop
        | convert src dst x =>
          exfalso
          simp only [cOp] at hcop
          (repeat' split at hcop) <;> simp at hcop
          subst hcop
          simp [isCallE] at hcall
        | mapUpdate t m k x =>
          exfalso
          simp only [cOp] at hcop
          split at hcop
          · simp only [Option.map_eq_some_iff, IOp.e.injEq] at hcop
            obtain ⟨_, _, rfl⟩ := hcop
            simp [isCallE] at hcall
          · simp at hcop
        | insert t m k x =>
          exfalso
          simp only [cOp] at hcop
          split at hcop
          · simp only [Option.map_eq_some_iff, IOp.e.injEq] at hcop
            obtain ⟨_, _, rfl⟩ := hcop
            simp [isCallE] at hcall
          · simp at hcop
        | mapEntry t m k =>
          exfalso
          simp only [cOp] at hcop
          split at hcop
          · split at hcop
            · simp at hcop; subst hcop; simp [isCallE] at hcall
            · simp at hcop
          · simp at hcop
        | entryStore t m s x => exfalso; simp [cOp] at hcop; subst hcop; simp [isCallE] at hcall
        | _ => exfalso; simp only [cOp] at hcop; (repeat' split at hcop) <;> simp at hcop
      obtain ⟨c, hop, hcs⟩ := hshape
      have h' := ok_arr hok rfl
      rw [hop] at h'
      have h'' : ∀ x ∈ c.args.toList, okOpd ng x = true := fun x hx => h' x (by simp [Op.operands, Call.operands]; exact .inr (by simpa using hx))
      have hmap := opers_map (e := E.tmps) h.glob h''
      have hlta := evs_lt h.ngn hE.tm c.args.toList h''
      rcases hcs with ⟨f, hcal, rfl⟩ | ⟨x, hcal, hxf, rfl⟩ | ⟨x, name, hcal, rfl⟩
      · simp only [runE] at hv
        refine main (s := do let d ← Deferred.ofValue (conc μ (.func (.func f) #[] #[])) ⟨concL μ (evs E.tmps (c.args.toList.map cOpd))⟩; invoke d.target d.args) ?_ (callV_sound hK h (by simp [lt, ltFn, ltL]) hlta (by simpa [callV] using hv))
        simp only [execOp, hop, resolve, hcal, hmap, evc, bind_assoc]
        simp [conc, cFn, concL]
      · simp only [runE] at hv
        have hxok : okOpd ng x = true := h' x (by simp [Op.operands, Call.operands, hcal])
        have hx := opV (e := E.tmps) h.glob h.ngn hE.tm hxok
        refine main (s := do let d ← Deferred.ofValue (conc μ ((cOpd x).ev E.tmps)) ⟨concL μ (evs E.tmps (c.args.toList.map cOpd))⟩; invoke d.target d.args) ?_ (callV_sound hK h hx.l hlta hv)
        simp only [execOp, hop, resolve, hcal, hmap, hx.c]
      · simp only [runE] at hv
        have hxok : okOpd ng x = true := h' x (by simp [Op.operands, Call.operands, hcal])
        have hx := opV (e := E.tmps) h.glob h.ngn hE.tm hxok
        obtain ⟨_, hcx, hlx⟩ := hx
        generalize (cOpd x).ev E.tmps = X at hv hcx hlx
        split at hv
        · rename_i t V
          split at hv
          · rename_i f hm
            refine main (s := invoke (.fn (.method name) #[]) (#[conc μ (.iface t V)] ++ ⟨concL μ (evs E.tmps (c.args.toList.map cOpd))⟩)) ?_ (invoke_sound hK h hlx hlta hm hv)
            simp only [execOp, hop, resolve, hcal, hmap, hcx]
            rfl
          · simp at hv
        · simp at hv
end
end Go.Proofs.YtjpepfgbilbcdaaGreatDoor.Ai
