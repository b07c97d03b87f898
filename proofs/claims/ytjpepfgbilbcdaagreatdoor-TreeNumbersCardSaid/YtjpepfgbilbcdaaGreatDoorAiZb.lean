/- A PART OF THE PROOF THAT AN INTERPRETER OF THE PROGRAM'S FUNCTIONS IS SOUND: a step of it. -/
import Derived.Test.YtjpepfgbilbcdaaGreatDoorAiZa
namespace Go.Proofs.YtjpepfgbilbcdaaGreatDoor.Ai
open Go
set_option linter.unusedSimpArgs false

section
variable {P : Program} {ng : Nat} {ts : List TypeId} {N0 : Nat} {K : Ks} {μ : Nat → Loc} {σ σ' : AW} {w w' : World} {cs : List Frame}

/-! ### any frame that runs -/
theorem stX_oper {F : Frame} {ops : Array Oper} {i : Nat} {rest : List Nat} {k : List Item} {o : Oper} (hm : F.mode = .run) (ht : F.todo = .inRegion ops (i :: rest) :: k) (ho : ops[i]? = some o)
    (hw : Region.wanted o (yielded ops F.tmps) = true) (hnd : ∀ c, o.op ≠ .defer c) :
    stepG P true { frame := F, callers := cs, status := .running, dying := none } w = stepG.apply P true F cs none (execOp F.eval o) w := by
  obtain ⟨fn, tmps, todo, defers, mode, kind, ro⟩ := F
  simp only at hm ht hw
  subst hm ht
  have h1 : stepG P true { frame := { fn, tmps, todo := .inRegion ops (i :: rest) :: k, defers, mode := .run, kind, roundOf := ro }, callers := cs, status := .running, dying := none } w =
      stepG.oper P true { fn, tmps, todo := .inRegion ops (i :: rest) :: k, defers, mode := .run, kind, roundOf := ro } cs none w := by
    simp [stepG, stepG.exec, ho, hw]
  rw [h1]
  unfold stepG.oper
  have h2 : ({ fn, tmps, todo := .inRegion ops (i :: rest) :: k, defers, mode := .run, kind, roundOf := ro } : Frame).oper? = some o := by simp [Frame.oper?, ho]
  rw [h2]
  simp only
  split
  · rename_i hop; exact absurd hop (hnd _)
  · rfl
section
variable {F : Frame} {ops : Array Oper} {i : Nat} {rest : List Nat} {k : List Item} {o : Oper} (hm : F.mode = .run) (ht : F.todo = .inRegion ops (i :: rest) :: k) (ho : ops[i]? = some o)
    (hw : Region.wanted o (yielded ops F.tmps) = true) (hnd : ∀ c, o.op ≠ .defer c)
include hm ht ho hw hnd
theorem stX_value {v : Value} (hr : (execOp F.eval o).run P w = .ok (.value v) w') : step P (lone F cs w) = .next (lone (F.finish v) cs w') :=
  step_lone_go (by rw [stX_oper hm ht ho hw hnd]; simp [stepG.apply, hr])
theorem stX_unit (hr : (execOp F.eval o).run P w = .ok .skip w') : step P (lone F cs w) = .next (lone (F.finish undef) cs w') :=
  step_lone_go (by rw [stX_oper hm ht ho hw hnd]; simp [stepG.apply, hr])
theorem stX_enter {f : FuncId} {args : Array Value} (hr : (execOp F.eval o).run P w = .ok (.enter f args) w') : step P (lone F cs w) = .next (lone (Frame.enter P f args .normal) (F :: cs) w') :=
  step_lone_go (by rw [stX_oper hm ht ho hw hnd]; simp [stepG.apply, hr, ht])
theorem stX_round {l f : Nat} {tm : Array Value} {as bo : Code} (hr : (execOp F.eval o).run P w = .ok (.round l f tm as bo) w') : step P (lone F cs w) = .next (lone (Frame.round l f tm as bo .normal) (F :: cs) w') :=
  step_lone_go (by rw [stX_oper hm ht ho hw hnd]; simp [stepG.apply, hr])
end
theorem stX_unwanted {F : Frame} {ops : Array Oper} {i : Nat} {rest : List Nat} {k : List Item} {o : Oper} (hm : F.mode = .run) (ht : F.todo = .inRegion ops (i :: rest) :: k) (ho : ops[i]? = some o)
    (hw : Region.wanted o (yielded ops F.tmps) = false) : step P (lone F cs w) = .next (lone (F.finish undef) cs w) :=
  step_lone_go (by
    obtain ⟨fn, tmps, todo, defers, mode, kind, ro⟩ := F
    simp only at hm ht hw
    subst hm ht
    simp [stepG, stepG.exec, ho, hw])

theorem cOper_op {ops : Array Oper} {o : Oper} {io : IOper} (hc : cOper P ng ts ops o = some io) : io.op = .bad ∨ (okOp ng o.op = true ∧ cOp P ts o.op = some io.op) := by
  unfold cOper at hc
  split at hc
  · simp at hc; subst hc
    simp only
    split
    · rename_i hok
      cases hq : cOp P ts o.op with
      | none => exact .inl rfl
      | some q => exact .inr ⟨hok, rfl⟩
    · exact .inl rfl
  · simp at hc

/-- a change, in any frame that looks the same from there -/
theorem execE_sound (hK : KSound P ng ts N0 K) (h : Rep P ng ts N0 μ σ w) {e : List Value} (he : ltL σ.next e = true) {ops : Array Oper} {i : Nat} {rest : List Nat} {k : List Item} {o : Oper} {q : EOp} (ho : ops[i]? = some o)
    (hcop : cOp P ts o.op = some (.e q)) (hok : okOp ng o.op = true) {v : Value} (hv : runE K e σ q = some (.ret v, σ')) {F : Frame} (hm : F.mode = .run) (ht : F.todo = .inRegion ops (i :: rest) :: k)
    (hw : Region.wanted o (yielded ops F.tmps) = true) (hρ : execOp F.eval o = execOp (evc μ e) o) :
    ∃ μ' w', Rep P ng ts N0 μ' σ' w' ∧ Goes μ σ w μ' σ' w' ∧ lt σ'.next v = true ∧ Steps P (lone F cs w) (lone (F.finish (conc μ' v)) cs w') := by
  have hnd := cOp_nodefer hcop
  cases hcall : isCallE q with
  | false =>
    obtain ⟨μ', w', nx, hr, hg, hl, hrun, hnx⟩ := evE_sound h he hcop hcall hok hv
    rw [← hρ] at hrun
    refine ⟨μ', w', hr, hg, hl, .one ?_⟩
    rcases hnx with rfl | ⟨rfl, rfl⟩
    · exact stX_value hm ht ho hw hnd hrun
    · rw [conc_undef]; exact stX_unit hm ht ho hw hnd hrun
  | true =>
    have main : ∀ {s : Sem Next}, execOp (evc μ e) o = s → Goes1 P ng ts N0 σ v σ' μ w s → ∃ μ' w', Rep P ng ts N0 μ' σ' w' ∧ Goes μ σ w μ' σ' w' ∧ lt σ'.next v = true ∧
        Steps P (lone F cs w) (lone (F.finish (conc μ' v)) cs w') := by
      intro s hs hg1
      cases hg1 with
      | enter f args hr hok =>
        obtain ⟨μ', w', h1, h2, h3, h4⟩ := hok F cs
        exact ⟨μ', w', h1, h2, h3, .head (stX_enter hm ht ho hw hnd (by rw [hρ, hs]; exact hr)) h4⟩
      | round l f tm as bo hr hok =>
        obtain ⟨μ', w', h1, h2, h3, h4⟩ := hok F cs
        exact ⟨μ', w', h1, h2, h3, .head (stX_round hm ht ho hw hnd (by rw [hρ, hs]; exact hr)) h4⟩
    -- which call it is
    have hshape : ∃ c, o.op = .call c ∧ ((∃ f, c.callee = .value (.func f) ∧ q = .call f (c.args.toList.map cOpd)) ∨ (∃ x, c.callee = .value x ∧ (∀ f, x ≠ .func f) ∧ q = .callv (cOpd x) (c.args.toList.map cOpd)) ∨ (∃ x name, c.callee = .invoke x name ∧ q = .invoke (cMethods P name ts) (cOpd x) (c.args.toList.map cOpd))) := by
      have hne : q ≠ .panic (.t 0) := by intro hq; subst hq; simp [runE] at hv
      have hnp : ∀ x, q ≠ .panic x := by intro x hq; subst hq; simp [runE] at hv
      generalize hop : o.op = op at hcop hok
      cases op with
      | call c =>
        refine ⟨c, rfl, ?_⟩
        obtain ⟨callee, args, ats⟩ := c
        simp only [cOp] at hcop
        cases callee with
        | builtin b =>
          exfalso
          simp only at hcop
          unfold cBuiltin at hcop
          (repeat' split at hcop) <;> simp at hcop <;> subst hcop <;> simp [isCallE] at hcall
          exact hnp _ rfl
        | value f =>
          cases f with
          | func f =>
            left
            simp only at hcop
            (repeat' split at hcop) <;> simp at hcop
            exact ⟨f, rfl, hcop.symm⟩
          | _ => right; left; simp at hcop; exact ⟨_, rfl, by simp, hcop.symm⟩
        | invoke x name => right; right; simp at hcop; exact ⟨x, name, rfl, hcop.symm⟩
      | panic x => simp [cOp] at hcop; exact absurd hcop.symm (hnp _)
      | store t a x => exfalso; simp only [cOp] at hcop; split at hcop <;> simp at hcop; subst hcop; simp [isCallE] at hcall
      | build t parts =>
        exfalso
        simp only [cOp] at hcop
        split at hcop
        · simp only [Option.bind_eq_bind, Option.bind_eq_some_iff] at hcop
          obtain ⟨_, _, _, _, hcop⟩ := hcop
          split at hcop <;> simp at hcop
        · simp only [Option.bind_eq_bind, Option.bind_eq_some_iff] at hcop
          obtain ⟨_, _, _, _, hcop⟩ := hcop
          split at hcop <;> simp at hcop
        · simp at hcop
      | buildSlice t len parts =>
        exfalso
        simp only [cOp] at hcop
        split at hcop
        · simp only [Option.bind_eq_bind, Option.bind_eq_some_iff] at hcop
          obtain ⟨z, _, hcop⟩ := hcop
          split at hcop
          · simp at hcop
          · simp only [Option.bind_eq_some_iff] at hcop
            obtain ⟨_, _, hcop⟩ := hcop
            simp at hcop
        · simp at hcop
      | binOp op t x y u =>
        exfalso
        simp only [cOp] at hcop
        split at hcop
        · simp at hcop
        · simp at hcop
        · split at hcop
          · unfold cEqOp at hcop; (repeat' split at hcop) <;> simp at hcop
          · unfold cEqOp at hcop; (repeat' split at hcop) <;> simp at hcop
          · simp at hcop
        · simp at hcop
      | field t x f =>
        exfalso
        simp only [cOp] at hcop
        split at hcop
        · split at hcop
          · simp only [Option.map_eq_some_iff] at hcop
            obtain ⟨_, _, hcop⟩ := hcop
            simp at hcop
          · simp at hcop
        · simp at hcop
      | typeAssert x xt t ok =>
        exfalso
        simp only [cOp] at hcop
        split at hcop
        · simp at hcop
        · split at hcop <;> simp at hcop
        · simp at hcop
      | makeMap t r => exfalso; cases r <;> simp [cOp] at hcop
      | convert src dst x =>
        exfalso
        simp only [cOp] at hcop
        (repeat' split at hcop) <;> simp at hcop
        subst hcop
        simp [isCallE] at hcall
      | mapUpdate t m k x =>
        exfalso
        simp only [cOp] at hcop
        split at hcop
        · simp only [Option.map_eq_some_iff, IOp.e.injEq] at hcop
          obtain ⟨_, _, rfl⟩ := hcop
          simp [isCallE] at hcall
        · simp at hcop
      | insert t m k x =>
        exfalso
        simp only [cOp] at hcop
        split at hcop
        · simp only [Option.map_eq_some_iff, IOp.e.injEq] at hcop
          obtain ⟨_, _, rfl⟩ := hcop
          simp [isCallE] at hcall
        · simp at hcop
      | mapEntry t m k =>
        exfalso
        simp only [cOp] at hcop
        split at hcop
        · split at hcop
          · simp at hcop; subst hcop; simp [isCallE] at hcall
          · simp at hcop
        · simp at hcop
      | entryStore t m s x => exfalso; simp [cOp] at hcop; subst hcop; simp [isCallE] at hcall
      | _ => exfalso; simp only [cOp] at hcop; (repeat' split at hcop) <;> simp at hcop
    obtain ⟨c, hop, hcs⟩ := hshape
    have h' := ok_arr hok rfl
    rw [hop] at h'
    have h'' : ∀ x ∈ c.args.toList, okOpd ng x = true := fun x hx => h' x (by simp [Op.operands, Call.operands]; exact .inr (by simpa using hx))
    have hmap := opers_map (e := e) h.glob h''
    have hlta := evs_lt h.ngn he c.args.toList h''
    rcases hcs with ⟨f, hcal, rfl⟩ | ⟨x, hcal, hxf, rfl⟩ | ⟨x, name, hcal, rfl⟩
    · simp only [runE] at hv
      refine main (s := do let d ← Deferred.ofValue (conc μ (.func (.func f) #[] #[])) ⟨concL μ (evs e (c.args.toList.map cOpd))⟩; invoke d.target d.args) ?_ (callV_sound hK h (by simp [lt, ltFn, ltL]) hlta (by simpa [callV] using hv))
      simp only [execOp, hop, resolve, hcal, hmap, evc, bind_assoc]
      simp [conc, cFn, concL]
    · simp only [runE] at hv
      have hxok : okOpd ng x = true := h' x (by simp [Op.operands, Call.operands, hcal])
      have hx := opV (e := e) h.glob h.ngn he hxok
      refine main (s := do let d ← Deferred.ofValue (conc μ ((cOpd x).ev e)) ⟨concL μ (evs e (c.args.toList.map cOpd))⟩; invoke d.target d.args) ?_ (callV_sound hK h hx.l hlta hv)
      simp only [execOp, hop, resolve, hcal, hmap, hx.c]
    · simp only [runE] at hv
      have hxok : okOpd ng x = true := h' x (by simp [Op.operands, Call.operands, hcal])
      have hx := opV (e := e) h.glob h.ngn he hxok
      obtain ⟨_, hcx, hlx⟩ := hx
      generalize (cOpd x).ev e = X at hv hcx hlx
      split at hv
      · rename_i t V
        split at hv
        · rename_i f hm
          refine main (s := invoke (.fn (.method name) #[]) (#[conc μ (.iface t V)] ++ ⟨concL μ (evs e (c.args.toList.map cOpd))⟩)) ?_ (invoke_sound hK h hlx hlta hm hv)
          simp only [execOp, hop, resolve, hcal, hmap, hcx]
          rfl
        · simp at hv
      · simp at hv
end
end Go.Proofs.YtjpepfgbilbcdaaGreatDoor.Ai
