/- A PART OF THE PROOF THAT AN INTERPRETER OF THE PROGRAM'S FUNCTIONS IS SOUND: a step of it. -/
import Derived.Test.YtjpepfgbilbcdaaGreatDoorAiS
namespace Go.Proofs.YtjpepfgbilbcdaaGreatDoor.Ai
open Go
set_option linter.unusedSimpArgs false

/-! ### maps, changed -/
section
variable {P : Program} {ng : Nat} {ts : List TypeId} {N0 : Nat} {μ μ' : Nat → Loc} {σ σ' : AW} {w w' : World} {e : List Value} {K : Ks}

/-- the other objects, written over -/
theorem Rep.updObj (h : Rep P ng ts N0 μ σ w) {i : Nat} {bo bn : Blk} (hi : σ.heap.get i = some bo) (hbo : ∀ c, bo ≠ .cells c) (hbn : ∀ c, bn ≠ .cells c)
    (hos : w'.os = w.os) (htp : w'.tape = w.tape) (hout : w'.output = w.output) (hsz : w'.heap.size = w.heap.size) (hoth : ∀ j, j ≠ (μ i).blk → w'.heap[j]? = w.heap[j]?)
    (hb : BRep P ng ts μ σ.next i w' bn) : Rep P ng ts N0 μ { σ with heap := σ.heap.set i bn } w' ∧ Goes μ σ w μ { σ with heap := σ.heap.set i bn } w' := by
  have him := (h.blk i _ hi).2.1
  have hin := (h.blk i _ hi).1
  have hro : isRo bo = false := by cases bo <;> first | exact absurd rfl (hbo _) | rfl
  have hrn : isRo bn = false := by cases bn <;> first | exact absurd rfl (hbn _) | rfl
  have hget : ∀ k, (σ.heap.set i bn).get k = if k = i then some bn else σ.heap.get k := fun k => Tr.get_set _ _ _ _ (by unfold most at him; omega)
  have hsep : ∀ k c, σ.heap.get k = some c → k ≠ i → (μ k).blk ≠ (μ i).blk := by
    intro k c hk hne he
    cases hr : isRo c with
    | true =>
      have := h.ro k c hk hr
      have := (h.own i _ hi hro).1
      omega
    | false =>
      rcases Nat.lt_or_gt_of_ne hne with hlt | hgt
      · obtain ⟨ci, cj, e1, e2, _⟩ := h.dis k i c _ hk hi hr hro hlt he
        exact hbo _ e2
      · obtain ⟨ci, cj, e1, e2, _⟩ := h.dis i k _ c hi hk hro hr hgt he.symm
        exact hbo _ e1
  refine ⟨⟨h.glob, h.ngn, ?_, ?_, ?_, ?_, ?_, by rw [hsz]; exact h.big⟩, ⟨Nat.le_refl _, fun _ _ => rfl, hos, htp, hout, by omega, ?_, ?_⟩⟩
  · intro k c hk
    rw [hget] at hk
    split at hk
    · rename_i hks; subst hks; simp at hk; subst hk; exact ⟨hin, him, hb⟩
    · rename_i hks
      obtain ⟨h1, h2, h3⟩ := h.blk k c hk
      exact ⟨h1, h2, h3.mono (fun _ _ => rfl) h1 (Nat.le_refl _) (hoth _ (hsep k c hk hks))⟩
  · intro k c hk hr
    rw [hget] at hk
    rw [hsz]
    split at hk
    · rename_i hks; subst hks; exact h.own k _ hi hro
    · exact h.own k c hk hr
  · intro k c hk hr
    rw [hget] at hk
    split at hk
    · simp at hk; subst hk; rw [hrn] at hr; simp at hr
    · exact h.ro k c hk hr
  · intro k j bk bj hk hj hrk hrj hkj he
    rw [hget] at hk hj
    split at hk
    · rename_i hks
      split at hj
      · omega
      · exact absurd (hks ▸ he).symm (hsep j bj hj (by omega))
    · split at hj
      · rename_i hjs; exact absurd (hjs ▸ he) (hsep k bk hk (by omega))
      · exact h.dis k j bk bj hk hj hrk hrj hkj he
  · intro j cj hj k hk
    rw [hget] at hj
    split at hj
    · simp at hj; exact absurd hj (hbn _)
    · obtain ⟨g1, g2⟩ := h.al j cj hj k hk
      refine ⟨g1, fun bk hbk => ?_⟩
      rw [hget] at hbk
      split at hbk
      · rename_i hks; subst hks
        obtain ⟨ck, e1, _⟩ := g2 _ hi
        exact absurd e1 (hbo _)
      · exact g2 bk hbk
  · intro B hB hn
    exact hoth B fun he => hn i _ hi hro he.symm
  · intro k c hk hr
    right
    rw [hget] at hk
    split at hk
    · rename_i hks; subst hks; exact ⟨k, _, hi, hro, rfl⟩
    · exact ⟨k, c, hk, hr, rfl⟩
theorem run_setObj {l : Nat} {o o' : Obj} (h : w.heap[l]? = some o) (ho : ∀ c t f, o ≠ .cells c t f) : (setObj l o').run P w = .ok () { w with heap := w.heap.setIfInBounds l o' } := by
  cases o <;> first | exact absurd rfl (ho _ _ _) | simp [setObj, Sem.run, h]
theorem setIf_get {A : Array Obj} {l j : Nat} {o : Obj} (hne : j ≠ l) : (A.setIfInBounds l o)[j]? = A[j]? := by
  rw [Array.getElem?_setIfInBounds]; rw [if_neg (by omega)]
theorem setIf_same {A : Array Obj} {l : Nat} {o o' : Obj} (h : A[l]? = some o') : (A.setIfInBounds l o)[l]? = some o := by
  have := (Array.getElem?_eq_some_iff.1 h).1
  rw [Array.getElem?_setIfInBounds]; simp [this]


theorem setAt_len : ∀ (es : List (Value × Value × Nat)) (i : Nat) (k v : Value), (setAt es i k v).length = es.length
  | [], _, _, _ => by simp [setAt]
  | (_, _, c) :: l, 0, k, v => by simp [setAt]
  | x :: l, i + 1, k, v => by simp [setAt, setAt_len l i k v]
theorem setAt_get : ∀ (es : List (Value × Value × Nat)) (i : Nat) (k v : Value) (j : Nat), (setAt es i k v)[j]? = if j = i then (es[j]?).map fun x => (k, v, x.2.2) else es[j]?
  | [], i, k, v, j => by simp [setAt]
  | (a, b, c) :: l, 0, k, v, j => by
    cases j <;> simp [setAt]
  | x :: l, i + 1, k, v, j => by
    cases j with
    | zero => simp [setAt]
    | succ j => simp [setAt, setAt_get l i k v j]
theorem delAt_eq : ∀ (es : List (Value × Value × Nat)) (i : Nat), delAt es i = es.eraseIdx i
  | [], _ => by simp [delAt]
  | x :: l, 0 => by simp [delAt]
  | x :: l, i + 1 => by simp [delAt, delAt_eq l i]
theorem delAt_map : ∀ (es : List (Value × Value × Nat)) (i : Nat), (es.map (cEnt μ)).eraseIdx i = (delAt es i).map (cEnt μ)
  | [], i => by simp [delAt]
  | x :: l, 0 => by simp [delAt]
  | x :: l, i + 1 => by simp [delAt, delAt_map l i]
theorem sameK_bits {a b : Value} (h : sameK a b = true) : Instr.sameBits 10000 (conc μ a) (conc μ b) = true := by
  unfold sameK at h
  split at h <;> (try simp at h)
  · simp [Instr.sameBits, h]
  · simp [Instr.sameBits, h]
  · simp [Instr.sameBits, h]
  · rename_i x y
    have key : ∀ (x y : List Value), sameK.sameKs x y = true → x.length = y.length ∧ ((concL μ x).zip (concL μ y)).all (fun (p : Value × Value) => Instr.sameBits 9999 p.1 p.2) = true := by
      intro x
      induction x with
      | nil => intro y h; cases y <;> simp [sameK.sameKs] at h ⊢; simp [concL]
      | cons u x ih =>
        intro y h
        cases y with
        | nil => cases u <;> simp [sameK.sameKs] at h
        | cons v y =>
          cases u <;> cases v <;> simp only [sameK.sameKs, Bool.and_eq_true, Bool.false_eq_true] at h
          all_goals
            obtain ⟨h1, h2⟩ := ih y h.2
            refine ⟨by simp [h1], ?_⟩
            simp only [concL, List.zip_cons_cons, List.all_cons, Bool.and_eq_true]
            refine ⟨?_, h2⟩
            simp_all [Instr.sameBits]
    obtain ⟨h1, h2⟩ := key x y h
    simp only [conc_agg, Instr.sameBits, Bool.and_eq_true]
    refine ⟨by simp [concL_length, h1], ?_⟩
    simpa using h2
theorem sameAt_bits : ∀ {es : List (Value × Value × Nat)} {i : Nat} {k : Value}, sameAt es i k = true → ∃ x, es[i]? = some x ∧ sameK x.1 k = true
  | [], _, _, h => by simp [sameAt] at h
  | (k', v, c) :: l, 0, k, h => ⟨(k', v, c), by simp, by simpa [sameAt] using h⟩
  | x :: l, i + 1, k, h => by
    obtain ⟨y, h1, h2⟩ := sameAt_bits (es := l) (i := i) (k := k) (by simpa [sameAt] using h)
    exact ⟨y, by simpa using h1, h2⟩
theorem bornAt_eq : ∀ (es : List (Value × Value × Nat)) (i : Nat), bornAt es i = ((es[i]?).map (·.2.2)).getD 0
  | [], _ => by simp [bornAt]
  | (_, _, c) :: l, 0 => by simp [bornAt]
  | x :: l, i + 1 => by simp [bornAt, bornAt_eq l i]
theorem findB_some {b : Int} : ∀ {es : List (Value × Value × Nat)} {i j : Nat} {k : Value}, findB b es i = some (j, k) →
    i ≤ j ∧ ∃ x, es[j - i]? = some x ∧ x.1 = k ∧ (es.map (cEnt μ)).findIdx? (fun e => (e.born : Int) == b) = some (j - i)
  | [], _, _, _, h => by simp [findB] at h
  | (k', v, c) :: l, i, j, k, h => by
    simp only [findB] at h
    split at h
    · rename_i hc
      simp at h
      obtain ⟨rfl, rfl⟩ := h
      exact ⟨Nat.le_refl _, (k', v, c), by simp, rfl, by simp [List.findIdx?_cons, cEnt, hc]⟩
    · rename_i hc
      obtain ⟨h1, x, h2, h3, h4⟩ := findB_some h
      refine ⟨by omega, x, ?_, h3, ?_⟩
      · rw [show j - i = (j - (i + 1)) + 1 by omega]; simpa using h2
      · rw [show j - i = (j - (i + 1)) + 1 by omega]
        have hc' : ((cEnt μ (k', v, c)).born : Int) == b ↔ False := by simpa [cEnt] using hc
        rw [List.map_cons, List.findIdx?_cons, h4]
        simp only [hc', if_false, Option.map_some]

theorem cEnt_map (es : List (Value × Value × Nat)) : (es.map fun x => ({ key := conc μ x.1, val := conc μ x.2.1, born := x.2.2 } : MapEntry)).toArray = (es.map (cEnt μ)).toArray := rfl
/-- the map's record, written over -/
theorem Rep.setMap (h : Rep P ng ts N0 μ σ w) {r : Nat} {es es' : List (Value × Value × Nat)} {cl cl' : Nat} (hr : σ.heap.get r = some (.map es cl)) (hl : ∀ x ∈ es', lt σ.next x.1 = true ∧ lt σ.next x.2.1 = true) {A : Array MapEntry} (hA : A = (es'.map (cEnt μ)).toArray) :
    (setObj (μ r).blk (.map A cl')).run P w = .ok () { w with heap := w.heap.setIfInBounds (μ r).blk (.map A cl') } ∧
    Rep P ng ts N0 μ { σ with heap := σ.heap.set r (.map es' cl') } { w with heap := w.heap.setIfInBounds (μ r).blk (.map A cl') } ∧ Goes μ σ w μ { σ with heap := σ.heap.set r (.map es' cl') } { w with heap := w.heap.setIfInBounds (μ r).blk (.map A cl') } := by
  have hb := (h.blk r _ hr).2.2
  have ho := hb.o
  refine ⟨run_setObj ho (by simp), ?_⟩
  exact h.updObj (w' := { w with heap := w.heap.setIfInBounds (μ r).blk (.map A cl') }) hr (by simp) (bn := .map es' cl') (by simp) rfl rfl rfl (by simp) (fun j hj => setIf_get hj) ⟨hl, by subst hA; exact setIf_same ho⟩
theorem setAt_lt {es : List (Value × Value × Nat)} {i n : Nat} {k v : Value} (h : ∀ x ∈ es, lt n x.1 = true ∧ lt n x.2.1 = true) (hk : lt n k = true) (hv : lt n v = true) : ∀ x ∈ setAt es i k v, lt n x.1 = true ∧ lt n x.2.1 = true := by
  intro x hx
  obtain ⟨j, hj⟩ := List.getElem?_of_mem hx
  rw [setAt_get] at hj
  split at hj
  · simp only [Option.map_eq_some_iff] at hj
    obtain ⟨y, _, rfl⟩ := hj
    exact ⟨hk, hv⟩
  · exact h x (List.mem_of_getElem? hj)
theorem modify_eq {es : List (Value × Value × Nat)} {i : Nat} {k v : Value} {f : MapEntry → MapEntry} (hf : ∀ x, es[i]? = some x → f (cEnt μ x) = cEnt μ (k, v, x.2.2)) :
    ((es.map (cEnt μ)).toArray.modify i f) = ((setAt es i k v).map (cEnt μ)).toArray := by
  apply Array.ext'
  apply List.ext_getElem?
  intro j
  simp only [Array.toList_modify, List.getElem?_modify, List.getElem?_map, setAt_get]
  by_cases hj : j = i
  · subst hj
    simp only [if_true]
    cases hx : es[j]? with
    | none => simp
    | some x => simp [hf x hx]
  · have hj' : ¬ i = j := fun h => hj h.symm
    rw [if_neg hj]
    simp [hj']

theorem sE_mapUpd (h : Rep P ng ts N0 μ σ w) (he : ltL σ.next e = true) {o : Oper} {t kt el : TypeId} {q : EqT} {m k x : Operand} (hop : o.op = .mapUpdate t m k x ∨ o.op = .insert t m k x)
    (ht : P.underlying t = some (.map kt el)) (hq : cKey P kt = some q) (hm : okOpd ng m = true) (hk : okOpd ng k = true) (hx : okOpd ng x = true)
    {v : Value} (hv : runE K e σ (.mapUpd q (cOpd m) (cOpd k) (cOpd x)) = some (.ret v, σ')) : ESound P ng ts N0 μ σ e o v σ' w := by
  obtain ⟨_, hcm, hlm⟩ := opV (e := e) h.glob h.ngn he hm
  obtain ⟨_, hck, hlk⟩ := opV (e := e) h.glob h.ngn he hk
  obtain ⟨_, hcx, hlx⟩ := opV (e := e) h.glob h.ngn he hx
  simp only [runE] at hv
  generalize (cOpd m).ev e = M at hv hcm hlm
  generalize (cOpd k).ev e = Kk at hv hck hlk
  generalize (cOpd x).ev e = X at hv hcx hlx
  split at hv
  · rename_i r
    split at hv
    · rename_i es cl hr
      obtain ⟨hget, hents⟩ := map_ents h hr
      split at hv
      · rename_i hK
        have hchk := fun em => checkKey_run (μ := μ) hq hK em 9998 w
        split at hv
        · rename_i i vv hf
          have hfr := findKey_run (μ := μ) hq hK w hf
          split at hv
          · rename_i hsame
            simp only [Option.some.injEq, Prod.mk.injEq, IRet.ret.injEq] at hv
            obtain ⟨rfl, rfl⟩ := hv
            obtain ⟨y, hy, hsk⟩ := sameAt_bits hsame
            have hbits := sameK_bits (μ := μ) hsk
            have hmod : ((es.map (cEnt μ)).toArray.modify i fun e => { e with key := conc μ Kk, val := conc μ X }) = ((setAt es i Kk X).map (cEnt μ)).toArray := modify_eq (fun x _ => rfl)
            obtain ⟨g1, g2, g3⟩ := h.setMap (cl' := cl) hr (setAt_lt (i := i) hents hlk hlx) hmod
            refine ⟨μ, _, .skip, g2, g3, lt_undef _, ?_, .inr ⟨rfl, rfl⟩⟩
            have hkey : ((((es.map (cEnt μ)).toArray[i]?).map (·.key)).getD (conc μ Kk)) = conc μ y.1 := by simp [hy, cEnt]
            rcases hop with hop | hop
            all_goals
              simp only [execOp, hop, hcm, hck, hcx, Instr.mapUpdate, Sem.run_bind, run_und ht, Result.andThen_ok, conc_msome, hget, hchk, hfr, Option.map_some]
              rw [hkey]
              simp only [Instr.keyThatStays, hbits, if_true, Sem.run_pure, Result.andThen_ok, g1]
          · simp at hv
        · rename_i hf
          have hfr := findKey_run (μ := μ) hq hK w hf
          simp only [Option.some.injEq, Prod.mk.injEq, IRet.ret.injEq] at hv
          obtain ⟨rfl, rfl⟩ := hv
          have hpush : ((es.map (cEnt μ)).toArray.push { key := conc μ Kk, val := conc μ X, born := cl }) = ((es ++ [(Kk, X, cl)]).map (cEnt μ)).toArray := by simp [cEnt]
          obtain ⟨g1, g2, g3⟩ := h.setMap (cl' := cl + 1) hr (es' := es ++ [(Kk, X, cl)]) (by
            intro x hx
            rcases List.mem_append.1 hx with h1 | h1
            · exact hents x h1
            · simp at h1; subst h1; exact ⟨hlk, hlx⟩) hpush
          refine ⟨μ, _, .skip, g2, g3, lt_undef _, ?_, .inr ⟨rfl, rfl⟩⟩
          rcases hop with hop | hop <;> simp only [execOp, hop, hcm, hck, hcx, Instr.mapUpdate, Sem.run_bind, run_und ht, Result.andThen_ok, conc_msome, hget, hchk, hfr, Option.map_none, g1, Sem.run_pure]
        · simp at hv
      · simp at hv
    · simp at hv
  · simp at hv
theorem sE_mapEnt (h : Rep P ng ts N0 μ σ w) (he : ltL σ.next e = true) {o : Oper} {t kt el : TypeId} {q : EqT} {z : Value} {m k : Operand} (hop : o.op = .mapEntry t m k)
    (ht : P.underlying t = some (.map kt el)) (hq : cKey P kt = some q) (hz : zeroOf P el = some z) (hm : okOpd ng m = true) (hk : okOpd ng k = true)
    {v : Value} (hv : runE K e σ (.mapEnt q z (cOpd m) (cOpd k)) = some (.ret v, σ')) : ESound P ng ts N0 μ σ e o v σ' w := by
  obtain ⟨_, hcm, hlm⟩ := opV (e := e) h.glob h.ngn he hm
  obtain ⟨_, hck, hlk⟩ := opV (e := e) h.glob h.ngn he hk
  obtain ⟨hz0, hzr⟩ := zeroOf_some hz
  simp only [runE] at hv
  generalize (cOpd m).ev e = M at hv hcm hlm
  generalize (cOpd k).ev e = Kk at hv hck hlk
  split at hv
  · rename_i r
    split at hv
    · rename_i es cl hr
      obtain ⟨hget, hents⟩ := map_ents h hr
      split at hv
      · rename_i hK
        have hchk := fun em => checkKey_run (μ := μ) hq hK em 9998 w
        split at hv
        · rename_i i vv hf
          have hfr := findKey_run (μ := μ) hq hK w hf
          obtain ⟨_, en, hen, hen2⟩ := findK_lt hf
          simp only [Nat.sub_zero] at hen
          have hlv : lt σ.next vv = true := by
            have := (hents en (List.mem_of_getElem? hen)).2
            rwa [hen2] at this
          split at hv
          · rename_i hsame
            simp only [Option.some.injEq, Prod.mk.injEq, IRet.ret.injEq] at hv
            obtain ⟨rfl, rfl⟩ := hv
            obtain ⟨y, hy, hsk⟩ := sameAt_bits hsame
            have hbits := sameK_bits (μ := μ) hsk
            have hmod : ((es.map (cEnt μ)).toArray.modify i fun e => { e with key := conc μ Kk }) = ((setAt es i Kk vv).map (cEnt μ)).toArray := modify_eq (fun x hx => by
              rw [hen] at hx; simp at hx; subst hx; simp [cEnt, hen2])
            obtain ⟨g1, g2, g3⟩ := h.setMap (cl' := cl) hr (setAt_lt (i := i) hents hlk hlv) hmod
            refine ⟨μ, _, _, g2, g3, by simp [ltL, hlv], ?_, .inl rfl⟩
            simp only [execOp, hop, hcm, hck, Instr.mapEntry, Sem.run_bind, run_und ht, Result.andThen_ok, conc_msome, hget, hchk, hfr, Option.map_some]
            have hkey : ((((es.map (cEnt μ)).toArray[i]?).map (·.key)).getD (conc μ Kk)) = conc μ y.1 := by simp [hy, cEnt]
            have hborn : ((((es.map (cEnt μ)).toArray[i]?).map (fun x => (x.born : Int))).getD 0) = (bornAt es i : Int) := by simp [bornAt_eq, hy, cEnt]
            rw [hkey, hborn]
            simp only [Instr.keyThatStays, hbits, if_true, Sem.run_pure, Result.andThen_ok, g1, Sem.run_bind]
            simp [concL, goInt]
          · simp at hv
        · rename_i hf
          have hfr := findKey_run (μ := μ) hq hK w hf
          simp only [Option.some.injEq, Prod.mk.injEq, IRet.ret.injEq] at hv
          obtain ⟨rfl, rfl⟩ := hv
          have hz1 : lt σ.next z = true := lt_mono (Nat.zero_le _) _ hz0
          have hpush : ((es.map (cEnt μ)).toArray.push { key := conc μ Kk, val := z, born := cl }) = ((es ++ [(Kk, z, cl)]).map (cEnt μ)).toArray := by simp [cEnt, conc_zero μ _ hz0]
          obtain ⟨g1, g2, g3⟩ := h.setMap (cl' := cl + 1) hr (es' := es ++ [(Kk, z, cl)]) (by
            intro x hx
            rcases List.mem_append.1 hx with h1 | h1
            · exact hents x h1
            · simp at h1; subst h1; exact ⟨hlk, hz1⟩) hpush
          refine ⟨μ, _, _, g2, g3, by simp [ltL, hz1], ?_, .inl rfl⟩
          simp only [execOp, hop, hcm, hck, Instr.mapEntry, Sem.run_bind, run_und ht, Result.andThen_ok, conc_msome, hget, hchk, hfr, Option.map_none, hzr, g1, Sem.run_pure]
          simp [concL, goInt, conc_zero μ _ hz0]
        · simp at hv
      · simp at hv
    · simp at hv
  · simp at hv
theorem sE_entSt (h : Rep P ng ts N0 μ σ w) (he : ltL σ.next e = true) {o : Oper} {t : TypeId} {m s x : Operand} (hop : o.op = .entryStore t m s x)
    (hm : okOpd ng m = true) (hs : okOpd ng s = true) (hx : okOpd ng x = true)
    {v : Value} (hv : runE K e σ (.entSt (cOpd m) (cOpd s) (cOpd x)) = some (.ret v, σ')) : ESound P ng ts N0 μ σ e o v σ' w := by
  obtain ⟨_, hcm, hlm⟩ := opV (e := e) h.glob h.ngn he hm
  obtain ⟨_, hcs, hls⟩ := opV (e := e) h.glob h.ngn he hs
  obtain ⟨_, hcx, hlx⟩ := opV (e := e) h.glob h.ngn he hx
  simp only [runE] at hv
  generalize (cOpd m).ev e = M at hv hcm hlm
  generalize (cOpd s).ev e = S at hv hcs hls
  generalize (cOpd x).ev e = X at hv hcx hlx
  split at hv
  · rename_i r k b
    split at hv
    · rename_i es cl hr
      obtain ⟨hget, hents⟩ := map_ents h hr
      split at hv
      · rename_i i kk hf
        simp only [Option.some.injEq, Prod.mk.injEq, IRet.ret.injEq] at hv
        obtain ⟨rfl, rfl⟩ := hv
        obtain ⟨_, y, hy, hyk, hidx⟩ := findB_some (μ := μ) hf
        simp only [Nat.sub_zero] at hy hidx
        have hmod : ((es.map (cEnt μ)).toArray.modify i fun e => { e with val := conc μ X }) = ((setAt es i kk X).map (cEnt μ)).toArray := modify_eq (fun x hx => by
          rw [hy] at hx; simp at hx; subst hx; simp [cEnt, hyk])
        have hlkk : lt σ.next kk = true := by
          have := (hents y (List.mem_of_getElem? hy)).1
          rwa [hyk] at this
        obtain ⟨g1, g2, g3⟩ := h.setMap (cl' := cl) hr (setAt_lt (i := i) hents hlkk hlx) hmod
        refine ⟨μ, _, .skip, g2, g3, lt_undef _, ?_, .inr ⟨rfl, rfl⟩⟩
        have hidx' : ((es.map (cEnt μ)).toArray.findIdx? fun e => (e.born : Int) == b) = some i := by simpa using hidx
        simp only [execOp, hop, hcm, hcs, hcx, Instr.entryStore, Sem.run_bind, Result.andThen_ok, conc_msome, conc_int, hget, asInt, asIntOf, Sem.run_pure, hidx', g1]
      · simp at hv
    · simp at hv
  · simp at hv

theorem sE_clear (h : Rep P ng ts N0 μ σ w) (he : ltL σ.next e = true) {o : Oper} {t el : TypeId} {z : List Value} {x : Operand} (hop : o.op = .call { callee := .builtin .clear, args := #[x], argTypes := #[t] })
    (ht : P.underlying t = some (.slice el)) (hz : zeroCells P el = some z) (hz0 : z.length ≠ 0) (hx : okOpd ng x = true) {v : Value} (hv : runE K e σ (.clear z (cOpd x)) = some (.ret v, σ')) : ESound P ng ts N0 μ σ e o v σ' w := by
  obtain ⟨_, hcx, hlx⟩ := opV (e := e) h.glob h.ngn he hx
  simp only [runE] at hv
  generalize (cOpd x).ev e = X at hv hcx hlx
  have hrun : execOp (evc μ e) o = (do let v ← Builtin.clear_ #[t] o.type #[evc μ e x]; pure (.value v)) := by
    simp [execOp, hop, resolve, invoke, builtin]
  split at hv
  · rename_i n c
    simp only [Option.some.injEq, Prod.mk.injEq, IRet.ret.injEq] at hv
    obtain ⟨rfl, rfl⟩ := hv
    refine ⟨μ, w, _, h, Goes.refl _ _ _, by simp [ltL], ?_, .inl rfl⟩
    rw [hrun, hcx]
    simp [Builtin.clear_, run_und ht, concL]
  · rename_i a n c
    rw [lt_ssome] at hlx
    split at hv
    · rename_i hn
      subst hn
      simp only [Option.some.injEq, Prod.mk.injEq, IRet.ret.injEq] at hv
      obtain ⟨rfl, rfl⟩ := hv
      refine ⟨μ, w, _, h, Goes.refl _ _ _, by simp [ltL], ?_, .inl rfl⟩
      rw [hrun, hcx]
      simp [Builtin.clear_, run_und ht, concL]
    · rename_i hn
      simp only [Option.map_eq_some_iff, Prod.mk.injEq, IRet.ret.injEq] at hv
      obtain ⟨σ1, hw, rfl, rfl⟩ := hv
      obtain ⟨_, _, _, _, hzl, _⟩ := zeroCells_some hz
      obtain ⟨w', hst, hrep, hgo⟩ := wrN_sound h hw (flatten_lt (ltL_mono (Nat.zero_le _) z hzl))
      obtain ⟨zv, hzr, hzv⟩ := zeroCells_run hz w
      have hzc : Builtin.zeroCells zv.cells n = ((List.replicate n z).flatten).toArray := by
        unfold Builtin.zeroCells
        rw [hzv]
        simpa using zeros_eq z n hz0
      rw [concL_zero μ _ (flatten_lt hzl)] at hst
      refine ⟨μ, w', _, hrep, hgo, by simp [ltL], ?_, .inl rfl⟩
      rw [hrun, hcx]
      obtain ⟨m, rfl⟩ : ∃ m, n = m + 1 := ⟨n - 1, by omega⟩
      simp only [conc_ssome, Builtin.clear_, Sem.run_bind, List.getElem?_toArray, List.getElem?_cons_zero, run_und ht, Result.andThen_ok]
      rw [cAddr_eta μ a hlx.2]
      simp only [hzr, Result.andThen_ok, hzc, hst, Sem.run_bind, Sem.run_pure]
      simp [concL]
  · simp at hv
theorem sE_s2b (h : Rep P ng ts N0 μ σ w) (he : ltL σ.next e = true) {o : Oper} {src dst el : TypeId} {x : Operand} (hop : o.op = .convert src dst x) (h1 : P.underlying src = some .string) (h2 : P.underlying dst = some (.slice el))
    (h3 : P.underlying el = some (.int .u8)) (hx : okOpd ng x = true) {v : Value} (hv : runE K e σ (.s2b el (cOpd x)) = some (.ret v, σ')) : ESound P ng ts N0 μ σ e o v σ' w := by
  obtain ⟨_, hcx, hlx⟩ := opV (e := e) h.glob h.ngn he hx
  simp only [runE] at hv
  generalize (cOpd x).ev e = X at hv hcx hlx
  split at hv
  · rename_i s
    simp only [Option.map_eq_some_iff, Prod.mk.injEq, IRet.ret.injEq, Prod.exists] at hv
    obtain ⟨i, σ1, hp, rfl, rfl⟩ := hv
    obtain ⟨nc, hnc⟩ : ∃ nc, (Question.appendCap s.size 0 el).cut (w.tape w.drawn (Question.appendCap s.size 0 el)) = nc := ⟨_, rfl⟩
    have hle : s.size ≤ nc := by rw [← hnc]; show _ ≤ s.size + _; omega
    have hfor : (Question.appendCap s.size 0 el).forced = false := rfl
    have hcs : (concL μ (strCells s)) = strCells s := concL_zero μ _ (strCells_zero s)
    have hlen : (strCells s).length = s.size := by simp [strCells]
    let C : Array Value := (strCells s ++ List.replicate (nc - s.size) (Value.int .u8 0)).toArray
    have hCs : C.size = nc := by simp [C, hlen]; omega
    have hC : (s.data.map fun b => Value.int .u8 b.toNat) ++ Array.replicate (nc - s.size) (Value.int .u8 0) = C := by
      apply Array.ext'
      simp [C, strCells]
    let w1 : World := w.drew.alloc (.cells C el)
    let w' : World := w1.freeze ⟨w.heap.size, nc, none⟩ 1
    have hw1 : w1.heap = w.heap.push (.cells C el) := rfl
    have hat : w1.heap[w.heap.size]? = some (.cells C el (0, 0)) := by rw [hw1]; simp
    have hh : w'.heap = w.heap.push (.cells C el (nc, nc + 1)) := by
      show (w1.freeze ⟨w.heap.size, nc, none⟩ 1).heap = _
      unfold World.freeze
      simp only [Nat.one_ne_zero, if_false, hw1]
      apply Array.ext
      · simp
      · intro j h1 h2
        simp only [Array.getElem_modify, Array.getElem_push]
        split
        · rename_i hj
          subst hj
          simp
        · simp only [Array.size_modify, Array.size_push] at h1
          rw [dif_pos (by omega), dif_pos (by omega)]
    have hget : w'.heap[w.heap.size]? = some (.cells C el (nc, nc + 1)) := by rw [hh]; simp
    obtain ⟨rfl, hn, hrep, hgo⟩ := h.push hp (w' := w') (ob := .cells C el (nc, nc + 1)) (ex := nc - s.size) (by simp [isRo, newCB]) (by intro c hc j hj; simp at hc; subst hc; simp [newCB] at hj) rfl rfl rfl hh (by
      refine ⟨ltL_mono (Nat.zero_le _) _ (strCells_zero s), by simp [newCB], by simp [newCB], ?_, C, el, (nc, nc + 1), ?_, fun _ => rfl, ?_, ?_⟩
      · intro _ k _ hk
        rw [upd_same] at hk ⊢
        simp only [newCB, hlen] at hk
        simp only [World.frozen?, hget]
        simp; omega
      · rw [upd_same]; exact hget
      · rw [upd_same, hCs]; simp [newCB, hlen]; omega
      · intro k v hk
        rw [upd_same]
        have hk' : (strCells s)[k]? = some v := hk
        have hlt : k < (strCells s).length := (List.getElem?_eq_some_iff.1 hk').1
        rw [conc_zero _ _ (ltL_getElem (strCells_zero s) hk')]
        simp only [Nat.zero_add, C, List.getElem?_toArray]
        rw [List.getElem?_append_left hlt, hk'])
    refine ⟨_, w', _, hrep, hgo, by simp [hn], ?_, .inl rfl⟩
    simp only [execOp, hop, hcx, conc_string]
    simp only [Go.convert, Sem.run_bind, run_und h1, run_und h2, Result.andThen_ok, run_und h3, Conv.stringToBytes]
    have hs : w1.shape? w.heap.size = some (el, nc) := by simp [World.shape?, hat, hCs]
    have hmk : (markStringish ⟨w.heap.size, 0, none⟩).run P w1 = .ok () w' := by
      simp only [markStringish, Sem.run_bind, run_shape, hs, Result.andThen_ok]
      rfl
    simp [hfor, hnc, newRow, hC]
    rw [show w.drew.alloc (.cells C el) = w1 from rfl, hmk]
    simp [cAddr, upd_same]
    omega
  · simp at hv
end
end Go.Proofs.YtjpepfgbilbcdaaGreatDoor.Ai
