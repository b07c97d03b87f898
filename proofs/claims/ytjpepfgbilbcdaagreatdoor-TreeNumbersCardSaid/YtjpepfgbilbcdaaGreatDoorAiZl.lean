/- A PART OF THE PROOF THAT AN INTERPRETER OF THE PROGRAM'S FUNCTIONS IS SOUND: a step of it. -/
import Derived.Test.YtjpepfgbilbcdaaGreatDoorAiZk
import Derived.LaidLaws
import Derived.Lib.LaidTab
namespace Go.Proofs.YtjpepfgbilbcdaaGreatDoor.Ai
open Go
set_option linter.unusedSimpArgs false

/-! ### a laid variable that bears an address, whatever its dynamic type; blocks that are only read stay -/
section
variable {P : Program} {ng : Nat} {ts : List TypeId} {N0 : Nat} {K : Ks} {μ : Nat → Loc} {σ σ' σ1 σ2 : AW} {w w' : World}

theorem pointer_of_trod {H : Type} {enc : TypeId × Value → H} {W : World} {base : Nat} {sp : Nat → Bool} {held : Bool} {fuel : Nat} {t : TypeId} {cs : List Value} {d : DataW H} {p : List MemPlace}
    (h : DataW.trod enc P W base sp held fuel t cs = some (.ptr d, p)) : ∃ e, P.underlying t = some (.pointer e) := by
  cases fuel with
  | zero => simp [DataW.trod] at h
  | succ fuel =>
    simp only [DataW.trod] at h
    split at h
    case h_6 => rename_i e _ hu; exact ⟨e, hu⟩
    all_goals exfalso
    all_goals (repeat' split at h)
    all_goals first
      | (simp at h; done)
      | (simp only [Option.map_eq_some_iff, Option.bind_eq_some_iff, Prod.mk.injEq] at h
         obtain ⟨_, _, h, _⟩ := h
         simp at h; done)
      | (simp only [Option.map_eq_some_iff, Option.bind_eq_some_iff, Prod.mk.injEq] at h
         obtain ⟨_, _, _, _, h, _⟩ := h
         simp at h; done)
      | (simp only [Option.bind_eq_some_iff] at h
         obtain ⟨_, _, h⟩ := h
         split at h <;> simp at h)
theorem lit_of_nil {H : Type} {enc : TypeId × Value → H} {W : World} {base : Nat} {sp : Nat → Bool} {held : Bool} {fuel : Nat} {t : TypeId} {l : Lit} {p : List MemPlace}
    (h : DataW.trod enc P W base sp held fuel t [] = some (.lit l, p)) : False := by
  cases fuel with
  | zero => simp [DataW.trod] at h
  | succ fuel =>
    simp only [DataW.trod] at h
    split at h
    all_goals first
      | (rename_i heq; simp at heq; done)
      | (split at h <;> simp at h; done)
      | (simp at h; done)
theorem agg_of_nil {H : Type} {enc : TypeId × Value → H} {W : World} {base : Nat} {sp : Nat → Bool} {held : Bool} {fuel : Nat} {t : TypeId} {l : Lit} {p : List MemPlace}
    (h : DataW.trod enc P W base sp held fuel t [] = some (.agg [.lit l], p)) : False := by
  have key : ∀ {α : Type} {f : α → Option (DataW H × List MemPlace)} {r : List α} {xs : List (DataW H × List MemPlace)}, r.mapM f = some xs → (∀ a x, f a = some x → x.1 ≠ .lit l) → xs.map (·.1) ≠ [.lit l] := by
    intro α f r xs hm hf he
    have hl := Lib.mapM_length hm
    have h1 : xs.length = 1 := by have := congrArg List.length he; simpa using this
    obtain ⟨x, rfl⟩ : ∃ x, xs = [x] := List.length_eq_one_iff.1 h1
    obtain ⟨a, rfl⟩ : ∃ a, r = [a] := List.length_eq_one_iff.1 (by omega)
    obtain ⟨b, hb, hfb⟩ := Lib.mapM_at hm 0 a rfl
    simp at hb; subst hb
    exact hf a x hfb (by simpa using he)
  cases fuel with
  | zero => simp [DataW.trod] at h
  | succ fuel =>
    simp only [DataW.trod] at h
    split at h
    all_goals first
      | (rename_i heq; simp at heq; done)
      | skip
    all_goals (try (split at h))
    all_goals first
      | (simp at h; done)
      | (simp only [Option.map_eq_some_iff, Prod.mk.injEq, DataW.agg.injEq] at h
         obtain ⟨xs, hm, hx, _⟩ := h
         exact key hm (fun a x hx' he => by
           obtain ⟨x1, x2⟩ := x
           simp only at he; subst he
           simp only [List.drop_nil, List.take_nil] at hx'
           exact lit_of_nil hx') hx)
theorem laid_pointer {n nm : String} {text : List UInt8} {r : List (String × DataW Unit)} {W : World} {g : Nat} {ti : TypeId} {ms : Array (String × TypeId)}
    (h : laidMet P ((n, .iface nm (.ptr (.agg [.lit (.string text)]))) :: r) W) (hg : P.globalNamed n = some g) (ht : (P.globals[g]?).map (·.type) = some ti) (hi : P.underlying ti = some (.interface ms)) :
    ∃ (tp : TypeId) (a : Addr), a.spot = none ∧ W.var? P n = some #[.iface tp (.pointer (some a))] := by
  obtain ⟨ps, ⟨g0, t0, cs0, f0, p0, q0, hg0, ht0, hv0, hd0, _, e0⟩, _, hrows⟩ := h
  obtain rfl := Option.some.inj (hg.symm.trans hg0)
  obtain rfl := Option.some.inj (ht.symm.trans ht0)
  subst e0
  obtain ⟨l0⟩ := cs0
  have ok0 : ∀ u v, l0 = [.iface u v] → Value.okWide P W .any 0 u v := fun u v e => by
    subst e
    exact (hrows g 0 (by simp [MemPlace.row])).2 u v (by simpa using World.var?_cell hg0 hv0 0)
  obtain ⟨f1, u, v, rfl, hn, h1⟩ := iface_of_trod hi hd0
  obtain ⟨e, hp⟩ := pointer_of_trod h1
  obtain ⟨f2, a, cs', q, hv, hcells, h2, _⟩ := ptr_of_trod hp h1
  have ok := ok0 _ _ rfl
  have hv' : v = .pointer (some a) := by
    unfold Value.okWide at ok
    simp only [hp] at ok
    unfold Cell.okWide at ok
    cases v <;> simp [Value.cells, Cell.ok, hp] at ok hv
    subst hv
    rfl
  subst hv'
  refine ⟨u, a, ?_, hv0⟩
  unfold World.cells? at hcells
  split at hcells
  · cases hn0 : P.cellsOf e with
    | zero =>
      rw [hn0] at hcells
      simp at hcells; subst hcells
      exact (agg_of_nil h2).elim
    | succ k =>
      rw [hn0, List.range_succ_eq_map] at hcells
      simp only [List.mapM_cons, Option.bind_eq_bind, Option.bind_eq_some_iff] at hcells
      obtain ⟨c, hc, _⟩ := hcells
      unfold World.cell? at hc
      obtain ⟨b, o, sp⟩ := a
      cases sp with
      | none => rfl
      | some q =>
        exfalso
        simp [Addr.add] at hc
        split at hc <;> simp at hc
  · simp at hcells

/-- a block that is only read, known ahead, is known behind -/
theorem Rep.keepRo {μ' : Nat → Loc} (h : Rep P ng ts N0 μ σ w) (h' : Rep P ng ts N0 μ' σ' w') (hg : Goes μ σ w μ' σ' w') {i : Nat} {b : CB} (hi : σ.heap.get i = some (.cells b)) (hro : b.ro = true) (hal : b.al = []) (hfz : b.frozen = true)
    (hno : ∀ j c, σ'.heap.get j = some (.cells c) → i ∉ c.al) :
    Rep P ng ts N0 μ' { σ' with heap := σ'.heap.set i (.cells b) } w' ∧ Goes μ σ w μ' { σ' with heap := σ'.heap.set i (.cells b) } w' := by
  obtain ⟨g1, g2, g3⟩ := h.blk i _ hi
  have g3 : CellsRep μ σ.next i b w := g3
  have hμ : μ' i = μ i := hg.agr i g1
  have hr0 := h.ro i _ hi hro
  have hkeep : w'.heap[(μ i).blk]? = w.heap[(μ i).blk]? := hg.keep _ (Nat.lt_of_lt_of_le hr0 h.big) fun j c hj hr he => by
    have := (h.own j c hj hr).1
    omega
  have hget : ∀ k, (σ'.heap.set i (.cells b)).get k = if k = i then some (.cells b) else σ'.heap.get k := fun k => Tr.get_set _ _ _ _ (by unfold most at g2; omega)
  have hcr : CellsRep μ' σ'.next i b w' := by
    obtain ⟨c1, c2, c3, c4, C, t, fr, c5, c6, c7, c8⟩ := g3
    refine ⟨ltL_mono hg.next _ c1, by rw [hμ]; exact c2, by rw [hμ]; exact c3, fun hf => by rw [hfz] at hf; simp at hf, C, t, fr, by rw [hμ, hkeep]; exact c5, c6, by rw [hμ]; exact c7, fun k v hk => ?_⟩
    rw [hμ, c8 k v hk, conc_congr (fun j hj => hg.agr j hj) v (ltL_getElem c1 hk)]
  refine ⟨⟨h'.glob, h'.ngn, ?_, ?_, ?_, ?_, ?_, h'.big⟩, ⟨hg.next, hg.agr, hg.os, hg.tape, hg.output, hg.size, hg.keep, ?_⟩⟩
  · intro k c hk
    rw [hget] at hk
    split at hk
    · rename_i hki; subst hki; simp at hk; subst hk
      exact ⟨Nat.lt_of_lt_of_le g1 hg.next, g2, hcr⟩
    · exact h'.blk k c hk
  · intro k c hk hr
    rw [hget] at hk
    split at hk
    · simp at hk; subst hk; simp [isRo, hro] at hr
    · exact h'.own k c hk hr
  · intro k c hk hr
    rw [hget] at hk
    split at hk
    · rename_i hki; subst hki; rw [hμ]; exact hr0
    · exact h'.ro k c hk hr
  · intro k j bk bj hk hj hrk hrj
    rw [hget] at hk hj
    split at hk
    · simp at hk; subst hk; simp [isRo, hro] at hrk
    · split at hj
      · simp at hj; subst hj; simp [isRo, hro] at hrj
      · exact h'.dis k j bk bj hk hj hrk hrj
  · intro j cj hj k hk
    rw [hget] at hj
    split at hj
    · simp at hj; subst hj; rw [hal] at hk; simp at hk
    · obtain ⟨e1, e2⟩ := h'.al j cj hj k hk
      refine ⟨e1, fun bi hbi => ?_⟩
      rw [hget] at hbi
      split at hbi
      · rename_i hki; subst hki
        exact absurd hk (hno j cj hj)
      · exact e2 bi hbi
  · intro k c hk hr
    rw [hget] at hk
    split at hk
    · simp at hk; subst hk; simp [isRo, hro] at hr
    · exact hg.fresh k c hk hr
theorem CRun.keepRo {rnd : Option Nat} {a : ICode} {e e1 : Fr} {x : IExit} (h : CRun P ng ts N0 rnd a e σ x e1 σ1) {i : Nat} {b : CB} (hi : σ.heap.get i = some (.cells b)) (hro : b.ro = true) (hal : b.al = []) (hfz : b.frozen = true)
    (hno : ∀ j c, σ1.heap.get j = some (.cells c) → i ∉ c.al) : CRun P ng ts N0 rnd a e σ x e1 { σ1 with heap := σ1.heap.set i (.cells b) } := by
  intro c hc μ w hr hE fb hb k cs
  obtain ⟨μ1, w1, r1, g1, f1, c1⟩ := h c hc hr hE fb hb k cs
  obtain ⟨r2, g2⟩ := hr.keepRo r1 g1 hi hro hal hfz hno
  exact ⟨μ1, w1, r2, g2, f1, c1⟩
theorem CTo.keepRo {f : FuncId} {args : List Value} {v : Value} (h : CTo P ng ts N0 f args σ v σ1) {i : Nat} {b : CB} (hi : σ.heap.get i = some (.cells b)) (hro : b.ro = true) (hal : b.al = []) (hfz : b.frozen = true)
    (hno : ∀ j c, σ1.heap.get j = some (.cells c) → i ∉ c.al) : CTo P ng ts N0 f args σ v { σ1 with heap := σ1.heap.set i (.cells b) } := by
  refine ⟨h.fn, fun hr ha c cs => ?_⟩
  obtain ⟨μ1, w1, r1, g1, h3, h4⟩ := h.ok hr ha c cs
  obtain ⟨r2, g2⟩ := hr.keepRo r1 g1 hi hro hal hfz hno
  exact ⟨μ1, w1, r2, g2, h3, h4⟩
/-- no block of the list speaks of i as one that lies ahead of it -/
def noAl (i : Nat) (l : List (Nat × Blk)) : Bool := l.all fun p => Nat.blt p.1 most && match p.2 with | .cells c => !c.al.contains i | _ => true
theorem noAl_ok {i n : Nat} {l : List (Nat × Blk)} (h : noAl i l = true) : ∀ j c, ({ next := n, heap := mkH l } : AW).heap.get j = some (.cells c) → i ∉ c.al := by
  intro j c hj hi
  simp only [noAl, List.all_eq_true, Bool.and_eq_true] at h
  have hin := mkH_get (fun p hp => by have := (h p hp).1; simpa [Nat.blt_eq] using this) j _ hj
  have := (h (j, .cells c) hin).2
  simp at this
  exact this hi
end
end Go.Proofs.YtjpepfgbilbcdaaGreatDoor.Ai
