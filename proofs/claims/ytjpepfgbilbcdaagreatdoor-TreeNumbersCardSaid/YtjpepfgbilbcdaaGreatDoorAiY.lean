/- A PART OF THE PROOF THAT AN INTERPRETER OF THE PROGRAM'S FUNCTIONS IS SOUND: a step of it. -/
import Derived.Test.YtjpepfgbilbcdaaGreatDoorAiX
namespace Go.Proofs.YtjpepfgbilbcdaaGreatDoor.Ai
open Go
set_option linter.unusedSimpArgs false

/-- the table of compiled functions fits the program -/
def TabOK (P : Program) (ng : Nat) (ts : List TypeId) (C : Tr IFunc) : Prop := ∀ f ifn, C.get f = some ifn → ∃ fn, P.funcs[f]? = some fn ∧ cFunc P ng ts fn = some ifn

section
variable {P : Program} {ng : Nat} {ts : List TypeId} {N0 : Nat} {K : Ks} {μ : Nat → Loc} {σ σ' : AW} {w w' : World}

theorem setParams_sound : ∀ {ps : List Nat} {vs e e' : List Value}, setParams e ps vs = some e' → ps.length = vs.length ∧
    ((ps.zip (concL μ vs)).foldl (fun (t : Array Value) (p : Nat × Value) => t.setIfInBounds p.1 p.2) ⟨concL μ e⟩) = ⟨concL μ e'⟩ ∧ ∀ n, ltL n e = true → ltL n vs = true → ltL n e' = true := by
  intro ps
  induction ps with
  | nil =>
    intro vs e e' h
    cases vs with
    | nil => simp [setParams] at h; subst h; exact ⟨rfl, rfl, fun n h _ => h⟩
    | cons v vs => simp [setParams] at h
  | cons p ps ih =>
    intro vs e e' h
    cases vs with
    | nil => simp [setParams] at h
    | cons v vs =>
      simp only [setParams] at h
      obtain ⟨h1, h2, h3⟩ := ih h
      refine ⟨by simp [h1], ?_, fun n he hv => ?_⟩
      · simp only [concL, List.zip_cons_cons, List.foldl_cons]
        rw [← h2]
        congr 1
        rw [setV_eq, concL_eq, concL_eq]
        apply Array.ext'
        simp [List.map_set]
      · simp [ltL] at hv
        exact h3 n (ltL_setV he p hv.1) hv.2

theorem endRound_run {l : Nat} {R : Loop} (h : w.heap[l]? = some (.loop R)) (jump : Option Code) :
    (Instr.endRound l jump).run P w = .ok (.bool jump.isNone) { w with heap := w.heap.setIfInBounds l (.loop { R with state := if jump.isNone then .ready else .done, pending := jump }) } := by
  simp [Instr.endRound, run_getLoop h, run_setObj h (by simp)]

/-- **A round.** -/
theorem yieldF_sound (hK : KSound P ng ts N0 K) (hD : DrawOK P ng ts N0 K) (fuel : Nat) {l : Nat} {args : List Value} {v : Value} (hv : yieldF K fuel l args σ = some (.ret v, σ')) (h : Rep P ng ts N0 μ σ w) (ha : ltL σ.next args = true) :
    ∃ fn tm as bo, (Instr.yield (μ l).blk ⟨concL μ args⟩).run P w = .ok (.round (μ l).blk fn tm as bo) w ∧ CallOK P ng ts N0 (fun μ => Frame.round (μ l).blk fn tm as bo .normal) σ v σ' μ w := by
  unfold yieldF at hv
  split at hv
  · rename_i r hl
    have hll := (h.blk l _ hl).1
    obtain ⟨q1, q2, fn, as, bo, q3, q4, q5⟩ := (h.blk l _ hl).2.2
    simp only [Option.bind_eq_some_iff] at hv
    obtain ⟨e, he, hv⟩ := hv
    obtain ⟨hlen, hfold, hlt⟩ := setParams_sound (μ := μ) he
    refine ⟨fn, ⟨concL μ e⟩, as, bo, ?_, ?_⟩
    · have hsz : ¬ ((⟨concL μ args⟩ : Array Value).size ≠ (⟨r.params⟩ : Array Nat).size) := by simp [concL_length, hlen]
      simp only [Instr.yield, Sem.run_bind, run_getLoop q3, Result.andThen_ok]
      rw [if_neg hsz]
      simp only [Sem.run_pure]
      congr 2
      have : ((⟨r.params⟩ : Array Nat).zip (⟨concL μ args⟩ : Array Value)).foldl (fun (tmps : Array Value) (x : Nat × Value) => tmps.setIfInBounds x.1 x.2) (⟨concL μ r.tmps⟩ : Array Value) = ⟨concL μ e⟩ := by
        rw [← hfold, ← Array.foldl_toList]; simp
      exact this
    · intro c cs
      have hE : FrOK σ.next { tmps := e, dfs := [] } := ⟨hlt _ q1 ha, by simp⟩
      let b : Frame := { fn := fn, tmps := #[], todo := [], defers := [], mode := .run, kind := .normal, roundOf := some (μ l).blk }
      have hstart : Frame.round (μ l).blk fn ⟨concL μ e⟩ as bo .normal = fr b μ { tmps := e, dfs := [] } (.code as :: .beginRound :: [.code bo]) := rfl
      split at hv
      · rename_i e1 σ1 h1
        obtain ⟨μ1, w1, r1, g1, f1, c1⟩ := evC_sound hK hD fuel (some l) as _ q4 h1 h hE b ⟨hll, rfl⟩ (.beginRound :: [.code bo]) (c :: cs)
        have hb1 : (μ1 l).blk = (μ l).blk := by rw [g1.agr l hll]
        split at hv
        · rename_i r1' hl1
          split at hv
          · rename_i hready
            obtain ⟨R1, hR1, hR2, hR3, r2, g2⟩ := r1.setLoop hl1 .busy r1'.pending
            have hbeg : (Instr.beginRound (μ l).blk).run P w1 = .ok () { w1 with heap := w1.heap.setIfInBounds (μ1 l).blk (.loop { R1 with state := .busy, pending := r1'.pending.bind cExit }) } := by
              rw [← hb1]
              have hst : R1.state = .ready := by rw [hR2]; simpa using hready
              simp only [Instr.beginRound, Sem.run_bind, run_getLoop hR1, Result.andThen_ok, run_setObj hR1 (by simp), hst, Sem.run_pure, hR3]
            split at hv
            · rename_i x e2 σ2 h2
              obtain ⟨μ2, w2, r3, g3, f2, c2⟩ := evC_sound hK hD fuel (some l) bo _ q5 h2 r2 f1 b ⟨Nat.lt_of_lt_of_le hll (Nat.le_trans g1.next g2.next), by rw [hb1]⟩ [] (c :: cs)
              have hl2 : l < (setLoop σ1 l { r1' with state := .busy, pending := r1'.pending }).next := Nat.lt_of_lt_of_le hll (Nat.le_trans g1.next g2.next)
              have hb2 : (μ2 l).blk = (μ l).blk := by rw [g3.agr l hl2, hb1]
              have hsteps : Steps P (lone (Frame.round (μ l).blk fn ⟨concL μ e⟩ as bo .normal) (c :: cs) w) (lone (fr b μ1 e1 [.code bo]) (c :: cs) { w1 with heap := w1.heap.setIfInBounds (μ1 l).blk (.loop { R1 with state := .busy, pending := r1'.pending.bind cExit }) }) := by
                rw [hstart]
                exact Steps.trans c1 (.one (st_beginRound rfl hbeg))
              split at hv
              · rename_i r2' hl2'
                -- the end of the round
                have fin : ∀ (st : LoopState) (pd : Option IExit) (jump : Option Code), pd.bind cExit = jump → st = (if jump.isNone then .ready else .done) → v = .bool jump.isNone → σ' = setLoop σ2 l { r2' with state := st, pending := pd } →
                    (∃ F : Frame, F.mode = .run ∧ F.roundOf = some (μ l).blk ∧ F.kind = .normal ∧ ((F.todo = [] ∧ jump = none) ∨ (∃ k, F.todo = .code .ret :: k ∧ jump = some .ret) ∨ ∃ id k, F.todo = .code (.exit id) :: k ∧ exitTo id k = none ∧ jump = some (.exit id)) ∧
                      Steps P (lone (fr b μ1 e1 [.code bo]) (c :: cs) { w1 with heap := w1.heap.setIfInBounds (μ1 l).blk (.loop { R1 with state := .busy, pending := r1'.pending.bind cExit }) }) (lone F (c :: cs) w2)) →
                    ∃ μ' w', Rep P ng ts N0 μ' σ' w' ∧ Goes μ σ w μ' σ' w' ∧ lt σ'.next v = true ∧ Steps P (lone (Frame.round (μ l).blk fn ⟨concL μ e⟩ as bo .normal) (c :: cs) w) (lone (c.finish (conc μ' v)) cs w') := by
                  intro st pd jump hpd hst hvv hσ ⟨F, hF1, hF2, hF3, hF4, hF5⟩
                  obtain ⟨R2, hR21, hR22, hR23, r4, g4⟩ := r3.setLoop hl2' st pd
                  rw [hb2] at hR21 r4 g4
                  refine ⟨μ2, _, by rw [hσ]; exact r4, by rw [hσ]; exact ((g1.trans g2).trans g3).trans g4, by rw [hvv]; simp, ?_⟩
                  refine hsteps.trans (hF5.trans (.one ?_))
                  have hend := endRound_run (P := P) hR21 jump
                  rw [hvv, conc_bool]
                  refine st_endRound hF1 hF2 hF3 hF4 ?_
                  rw [hend, hpd, hst]
                cases x with
                | normal =>
                  simp only [Option.some.injEq, Prod.mk.injEq, IRet.ret.injEq] at hv
                  exact fin .ready none none rfl rfl hv.1.symm hv.2.symm ⟨_, rfl, rfl, rfl, .inl ⟨rfl, rfl⟩, c2⟩
                | exit i =>
                  simp only [Option.some.injEq, Prod.mk.injEq, IRet.ret.injEq] at hv
                  obtain ⟨k', hk1, hk2⟩ := c2
                  exact fin .done (some (.exit i)) (some (.exit i)) rfl rfl hv.1.symm hv.2.symm ⟨_, rfl, rfl, rfl, .inr (.inr ⟨i, k', rfl, by rw [hk1]; rfl, rfl⟩), hk2⟩
                | ret =>
                  simp only [Option.some.injEq, Prod.mk.injEq, IRet.ret.injEq] at hv
                  obtain ⟨k', hk2⟩ := c2
                  exact fin .done (some .ret) (some .ret) rfl rfl hv.1.symm hv.2.symm ⟨_, rfl, rfl, rfl, .inr (.inl ⟨k', rfl, rfl⟩), hk2⟩
                | panic p => simp at hv
              · simp at hv
            · simp at hv
          · simp at hv
        · simp at hv
      · simp at hv
  · simp at hv

/-! ### functions -/
/-- how a result variable is read -/
def resSem (μ : Nat → Loc) (e : List Value) : ResultVar → Sem Value
  | .tmp t => pure ((⟨concL μ e⟩ : Array Value).getD t undef)
  | .cell a t => do loadVar t (← asAddr ((⟨concL μ e⟩ : Array Value).getD a undef))
theorem resV_sound (h : Rep P ng ts N0 μ σ w) {e : List Value} (he : ltL σ.next e = true) {r : ResultVar} {ir : IRes} (hc : cRes P r = some ir) {v : Value} (hv : resV e σ ir = some v) :
    (resSem μ e r).run P w = .ok (conc μ v) w ∧ lt σ.next v = true := by
  cases r with
  | tmp t =>
    simp [cRes] at hc; subst hc
    simp [resV] at hv; subst hv
    exact ⟨by simp only [resSem, getD_conc, Sem.run_pure], ltL_getV he t⟩
  | cell a t =>
    simp only [cRes, Option.map_eq_some_iff] at hc
    obtain ⟨m, hm, rfl⟩ := hc
    simp only [resV] at hv
    have hl := ltL_getV he a
    simp only [resSem, getD_conc]
    split at hv
    · rename_i ad hg
      rw [hg] at hl ⊢
      rw [lt_psome] at hl
      rcases partOf_some hm with ⟨rfl, hag, _⟩ | ⟨k, rfl, hag, hs⟩
      · have hr := rd_sound h hl.2 hv
        exact ⟨by simp [asAddr, run_load1 hag hr.1], hr.2⟩
      · simp only [Option.map_eq_some_iff] at hv
        obtain ⟨l, hl', rfl⟩ := hv
        have hr := rdN_sound h hl.2 hl'
        exact ⟨by simp [asAddr, run_loadN hag hs hr.1], by simpa using hr.2.1⟩
    · simp at hv
theorem resVs_sound (h : Rep P ng ts N0 μ σ w) {e : List Value} (he : ltL σ.next e = true) : ∀ {rs : List ResultVar} {irs : List IRes}, rs.mapM (cRes P) = some irs → ∀ {vs : List Value}, resVs e σ irs = some vs →
    (rs.mapM (resSem μ e)).run P w = .ok (concL μ vs) w ∧ ltL σ.next vs = true := by
  intro rs
  induction rs with
  | nil =>
    intro irs hc vs hv
    simp at hc; subst hc
    simp [resVs] at hv; subst hv
    exact ⟨by simp [concL], by simp [ltL]⟩
  | cons r rs ih =>
    intro irs hc vs hv
    simp only [List.mapM_cons, Option.bind_eq_bind, Option.bind_eq_some_iff] at hc
    obtain ⟨ir, h1, irs', h2, hc⟩ := hc
    simp at hc; subst hc
    simp only [resVs] at hv
    split at hv
    · rename_i v vs' hv1 hv2
      simp at hv; subst hv
      obtain ⟨a1, a2⟩ := resV_sound h he h1 hv1
      obtain ⟨b1, b2⟩ := ih h2 hv2
      exact ⟨by simp only [List.mapM_cons, Sem.run_bind, a1, Result.andThen_ok, b1, Sem.run_pure, concL], by simp [ltL, a2, b2]⟩
    · simp at hv
theorem results_sound (h : Rep P ng ts N0 μ σ w) {e : List Value} (he : ltL σ.next e = true) {fn : Func} {irs : List IRes} (hc : fn.results.toList.mapM (cRes P) = some irs) {vs : List Value} (hv : resVs e σ irs = some vs) :
    (results fn ⟨concL μ e⟩).run P w = .ok (conc μ (tupleOf vs)) w ∧ lt σ.next (tupleOf vs) = true := by
  obtain ⟨h1, h2⟩ := resVs_sound h he hc hv
  constructor
  · have hres : results fn ⟨concL μ e⟩ = (do let vs ← fn.results.mapM (resSem μ e); pure (if h : vs.size = 1 then vs[0] else .tuple vs)) := by
      unfold results
      congr 2
    rw [hres, Array.mapM_eq_mapM_toList]
    simp only [Sem.run_bind, Sem.run_map, h1, Result.andThen_ok, Sem.run_pure]
    congr 1
    cases vs with
    | nil => simp [tupleOf, concL]
    | cons v vs =>
      cases vs with
      | nil => simp [tupleOf, concL]
      | cons v2 vs => simp [tupleOf, concL]
  · cases vs with
    | nil => simp [tupleOf, ltL]
    | cons v vs =>
      cases vs with
      | nil => simpa [tupleOf, ltL] using h2
      | cons v2 vs => simpa [tupleOf] using h2

/-- the marks among the deferred calls -/
theorem runDfs_sound : ∀ {ds : List Nat} {σ σ' : AW} {μ : Nat → Loc} {w : World}, runDfs ds σ = some σ' → Rep P ng ts N0 μ σ w → (∀ d ∈ ds, d < σ.next) → ∀ (F : Frame) (cs : List Frame), F.mode = .returning → F.defers = ds.map (mark μ) →
    ∃ w', Rep P ng ts N0 μ σ' w' ∧ Goes μ σ w μ σ' w' ∧ Steps P (lone F cs w) (lone { F with defers := [] } cs w') := by
  intro ds
  induction ds with
  | nil =>
    intro σ σ' μ w hv h _ F cs hm hd
    simp [runDfs] at hv; subst hv
    refine ⟨w, h, Goes.refl _ _ _, ?_⟩
    have : { F with defers := [] } = F := by cases F; simp at hd ⊢; exact hd
    rw [this]; exact .refl _ _
  | cons d ds ih =>
    intro σ σ' μ w hv h hlt F cs hm hd
    simp only [runDfs] at hv
    split at hv
    · rename_i hg
      have hb : w.heap[(μ d).blk]? = some (.deferred (some [])) := (h.blk d _ hg).2.2
      obtain ⟨r1, g1⟩ := h.updObj (w' := { w with heap := w.heap.setIfInBounds (μ d).blk (.deferred none) }) hg (by simp) (bn := .deferred true) (by simp) rfl rfl rfl (by simp) (fun j hj => setIf_get hj) (by
        show _ = _; rw [setIf_same hb]; rfl)
      obtain ⟨w2, r2, g2, s2⟩ := ih hv r1 (fun x hx => hlt x (by simp [hx])) { F with defers := ds.map (mark μ) } cs hm rfl
      exact ⟨w2, r2, g1.trans g2, .head (st_mark hm (by rw [hd]; rfl) hb) s2⟩
    · simp at hv

theorem concL_replicate (μ : Nat → Loc) (n : Nat) : concL μ (List.replicate n undef) = List.replicate n undef := by
  simp [concL_eq, conc_undef]
/-- **A function.** -/
theorem callF_sound (hK : KSound P ng ts N0 K) (hD : DrawOK P ng ts N0 K) {C : Tr IFunc} (hC : TabOK P ng ts C) (fuel : Nat) {f : FuncId} {args : List Value} {v : Value} (hv : callF K C fuel f args σ = some (.ret v, σ')) :
    (∃ fn, P.funcs[f]? = some fn ∧ fn.body.isNone = false ∧ (fn.name == "runtime.NumGoroutine") = false) ∧
    ∀ {μ w}, Rep P ng ts N0 μ σ w → ltL σ.next args = true → CallOK P ng ts N0 (fun μ => Frame.enter P f ⟨concL μ args⟩ .normal) σ v σ' μ w := by
  unfold callF at hv
  split at hv
  · simp at hv
  · rename_i ifn hf
    obtain ⟨fn, hfn, hcf⟩ := hC f ifn hf
    unfold cFunc at hcf
    split at hcf
    · rename_i c rs hbody hrs
      split at hcf
      · simp at hcf
      · rename_i hname
        simp only [Option.map_eq_some_iff] at hcf
        obtain ⟨ib, hib, rfl⟩ := hcf
        refine ⟨⟨fn, hfn, by rw [hbody]; rfl, by simpa using hname⟩, ?_⟩
        intro μ w h ha c' cs
        let b : Frame := { fn := f, tmps := #[], todo := [], defers := [], mode := .run, kind := .normal, roundOf := none }
        have hE : FrOK σ.next { tmps := args ++ List.replicate (fn.ntmps - args.length) undef, dfs := [] } := by
          refine ⟨ltL_append.2 ⟨ha, (ltL_iff _ _).2 fun v hv => ?_⟩, by simp⟩
          rw [(List.mem_replicate.1 hv).2]; exact lt_undef _
        have hstart : Frame.enter P f ⟨concL μ args⟩ .normal = fr b μ { tmps := args ++ List.replicate (fn.ntmps - args.length) undef, dfs := [] } [.code c] := by
          simp only [Frame.enter, fr, hfn, hbody]
          simp [concL_append, concL_replicate, concL_length, b, hbody]
        -- out of the body
        have fin : ∀ (x : IExit) (e : Fr) (σ1 : AW), (x = .normal ∨ x = .ret) → evC K fuel none ib { tmps := args ++ List.replicate (fn.ntmps - args.length) undef, dfs := [] } σ = some (x, e, σ1) →
            ((runDfs e.dfs σ1).bind fun σ => (resVs e.tmps σ rs).map fun vs => (IRet.ret (tupleOf vs), σ)) = some (.ret v, σ') →
            ∃ μ' w', Rep P ng ts N0 μ' σ' w' ∧ Goes μ σ w μ' σ' w' ∧ lt σ'.next v = true ∧ Steps P (lone (Frame.enter P f ⟨concL μ args⟩ .normal) (c' :: cs) w) (lone (c'.finish (conc μ' v)) cs w') := by
          intro x e σ1 hx hev hr
          simp only [Option.bind_eq_some_iff, Option.map_eq_some_iff, Prod.mk.injEq, IRet.ret.injEq] at hr
          obtain ⟨σ2, hdf, vs, hvs, rfl, rfl⟩ := hr
          obtain ⟨μ1, w1, r1, g1, f1, c1⟩ := evC_sound hK hD fuel none c ib hib hev h hE b rfl [] (c' :: cs)
          obtain ⟨F, hF1, hF2, hF3, hF4, hF5, hF6⟩ : ∃ F : Frame, F.mode = .returning ∧ F.defers = e.dfs.map (mark μ1) ∧ F.kind = .normal ∧ F.fn = f ∧ F.tmps = ⟨concL μ1 e.tmps⟩ ∧
              Steps P (lone (fr b μ { tmps := args ++ List.replicate (fn.ntmps - args.length) undef, dfs := [] } [.code c]) (c' :: cs) w) (lone F (c' :: cs) w1) := by
            rcases hx with rfl | rfl
            · exact ⟨_, rfl, rfl, rfl, rfl, rfl, Steps.trans c1 (.one (st_end rfl))⟩
            · obtain ⟨k', hk⟩ := c1
              exact ⟨_, rfl, rfl, rfl, rfl, rfl, Steps.trans hk (.one (st_ret rfl))⟩
          obtain ⟨w2, r2, g2, s2⟩ := runDfs_sound hdf r1 f1.dfs F (c' :: cs) hF1 hF2
          obtain ⟨hres, hlv⟩ := results_sound (fn := fn) r2 (ltL_mono g2.next _ f1.tm) hrs hvs
          refine ⟨μ1, w2, r2, g1.trans g2, hlv, ?_⟩
          rw [hstart]
          refine hF6.trans (s2.trans (.one ?_))
          exact st_leave (fn := fn) hF1 rfl hF3 (by simp only; rw [hF4]; exact hfn) (by simp only; rw [hF5]; exact hres)
        simp only at hv
        split at hv
        · rename_i e σ1 hev
          exact fin .normal e σ1 (.inl rfl) hev hv
        · rename_i e σ1 hev
          exact fin .ret e σ1 (.inr rfl) hev hv
        · simp at hv
    · simp at hcf

/-- **All calls, whatever the fuel.** -/
theorem ksN_sound {C : Tr IFunc} (hC : TabOK P ng ts C) (hD : ∀ K, KSound P ng ts N0 K → DrawOK P ng ts N0 K) : ∀ n, KSound P ng ts N0 (ksN C n)
  | 0 => ⟨fun h => by simp [ksN] at h, fun h => by simp [ksN] at h⟩
  | n + 1 => by
    have ih := ksN_sound hC hD n
    exact ⟨fun h => callF_sound ih (hD _ ih) hC n h, fun {l args σ v σ'} h {μ w} hr ha => yieldF_sound ih (hD _ ih) n h hr ha⟩
end
end Go.Proofs.YtjpepfgbilbcdaaGreatDoor.Ai
