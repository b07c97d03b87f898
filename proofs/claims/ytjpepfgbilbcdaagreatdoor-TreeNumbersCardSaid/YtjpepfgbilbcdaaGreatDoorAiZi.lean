/- A PART OF THE PROOF THAT AN INTERPRETER OF THE PROGRAM'S FUNCTIONS IS SOUND: calls are sound. -/
import Derived.Test.YtjpepfgbilbcdaaGreatDoorAiZh
import Derived.Calls
import Derived.Below
import Derived.Lib.LaidTab
namespace Go.Proofs.YtjpepfgbilbcdaaGreatDoor.Ai
open Go
set_option linter.unusedSimpArgs false

section
variable {P : Program} {ng : Nat} {ts : List TypeId} {N0 : Nat} {K : Ks} {μ : Nat → Loc} {σ σ' : AW} {w w' : World}

/-- a call, up to where it leaves -/
theorem callF_leaves (hK : KSound P ng ts N0 K) (hD : DrawOK P ng ts N0 K) {C : Tr IFunc} (hC : TabOK P ng ts C) (fuel : Nat) {f : FuncId} {args : List Value} {v : Value} (hv : callF K C fuel f args σ = some (.ret v, σ')) :
    ∀ {μ w}, Rep P ng ts N0 μ σ w → ltL σ.next args = true → ∀ cs, ∃ μ' w' F, Rep P ng ts N0 μ' σ' w' ∧ Goes μ σ w μ' σ' w' ∧ lt σ'.next v = true ∧ Steps P (lone (Frame.enter P f ⟨concL μ args⟩ .normal) cs w) (lone F cs w') ∧ F.fn = f ∧ F.leaving P w' (.returned (conc μ' v)) := by
  unfold callF at hv
  split at hv
  · simp at hv
  · rename_i ifn hf
    obtain ⟨fn, hfn, hcf⟩ := hC f ifn hf
    unfold cFunc at hcf
    split at hcf
    · rename_i c rs hbody hrs
      split at hcf
      · simp at hcf
      · rename_i hname
        simp only [Option.map_eq_some_iff] at hcf
        obtain ⟨ib, hib, rfl⟩ := hcf
        intro μ w h ha cs
        let b : Frame := { fn := f, tmps := #[], todo := [], defers := [], mode := .run, kind := .normal, roundOf := none }
        have hE : FrOK σ.next { tmps := args ++ List.replicate (fn.ntmps - args.length) undef, dfs := [] } := by
          refine ⟨ltL_append.2 ⟨ha, (ltL_iff _ _).2 fun v hv => ?_⟩, by simp⟩
          rw [(List.mem_replicate.1 hv).2]; exact lt_undef _
        have hstart : Frame.enter P f ⟨concL μ args⟩ .normal = fr b μ { tmps := args ++ List.replicate (fn.ntmps - args.length) undef, dfs := [] } [.code c] := by
          simp only [Frame.enter, fr, hfn, hbody]
          simp [concL_append, concL_replicate, concL_length, b, hbody]
        -- out of the body
        have fin : ∀ (x : IExit) (e : Fr) (σ1 : AW), (x = .normal ∨ x = .ret) → evC K fuel none ib { tmps := args ++ List.replicate (fn.ntmps - args.length) undef, dfs := [] } σ = some (x, e, σ1) →
            ((runDfs e.dfs σ1).bind fun σ => (resVs e.tmps σ rs).map fun vs => (IRet.ret (tupleOf vs), σ)) = some (.ret v, σ') →
            ∃ μ' w' F, Rep P ng ts N0 μ' σ' w' ∧ Goes μ σ w μ' σ' w' ∧ lt σ'.next v = true ∧ Steps P (lone (Frame.enter P f ⟨concL μ args⟩ .normal) cs w) (lone F cs w') ∧ F.fn = f ∧ F.leaving P w' (.returned (conc μ' v)) := by
          intro x e σ1 hx hev hr
          simp only [Option.bind_eq_some_iff, Option.map_eq_some_iff, Prod.mk.injEq, IRet.ret.injEq] at hr
          obtain ⟨σ2, hdf, vs, hvs, rfl, rfl⟩ := hr
          obtain ⟨μ1, w1, r1, g1, f1, c1⟩ := evC_sound hK hD fuel none c ib hib hev h hE b rfl [] cs
          obtain ⟨F, hF1, hF2, hF3, hF4, hF5, hF6⟩ : ∃ F : Frame, F.mode = .returning ∧ F.defers = e.dfs.map (mark μ1) ∧ F.kind = .normal ∧ F.fn = f ∧ F.tmps = ⟨concL μ1 e.tmps⟩ ∧
              Steps P (lone (fr b μ { tmps := args ++ List.replicate (fn.ntmps - args.length) undef, dfs := [] } [.code c]) cs w) (lone F cs w1) := by
            rcases hx with rfl | rfl
            · exact ⟨_, rfl, rfl, rfl, rfl, rfl, Steps.trans c1 (.one (st_end rfl))⟩
            · obtain ⟨k', hk⟩ := c1
              exact ⟨_, rfl, rfl, rfl, rfl, rfl, Steps.trans hk (.one (st_ret rfl))⟩
          obtain ⟨w2, r2, g2, s2⟩ := runDfs_sound hdf r1 f1.dfs F cs hF1 hF2
          obtain ⟨hres, hlv⟩ := results_sound (fn := fn) r2 (ltL_mono g2.next _ f1.tm) hrs hvs
          refine ⟨μ1, w2, { F with defers := [] }, r2, g1.trans g2, hlv, ?_, hF4, hF1, rfl, hF3, fn, by simp only; rw [hF4]; exact hfn, by simp only; rw [hF5]; exact hres⟩
          rw [hstart]
          exact hF6.trans s2
        simp only at hv
        split at hv
        · rename_i e σ1 hev
          exact fin .normal e σ1 (.inl rfl) hev hv
        · rename_i e σ1 hev
          exact fin .ret e σ1 (.inr rfl) hev hv
        · simp at hv
    · simp at hcf

/-- **What a call that is run comes to, in the kit's words.** -/
theorem calls_of {C : Tr IFunc} (hm : P.follows .mixedOrders = true) (hC : TabOK P ng ts C) (n : Nat) {f : FuncId} {args : List Value} {v : Value} (hv : (ksN C (n + 1)).call f args σ = some (.ret v, σ')) (h : Rep P ng ts N0 μ σ w) (ha : ltL σ.next args = true) :
    Calls P f ⟨concL μ args⟩ w fun e w' => ∃ μ', e = .returned (conc μ' v) ∧ Rep P ng ts N0 μ' σ' w' ∧ Goes μ σ w μ' σ' w' ∧ lt σ'.next v = true := by
  intro cs
  have hK := all_sound (N0 := N0) hm hC n
  obtain ⟨μ', w', F, h1, h2, h3, h4, h5, h6⟩ := callF_leaves hK (draw_ok hm hK) hC n hv h ha cs
  exact ⟨.returned (conc μ' v), w', F, ⟨μ', rfl, h1, h2, h3⟩, h4, h5, h6⟩

/-- nothing is known of the memory -/
def bare (n : Nat) : AW := { next := n, heap := .nil }
theorem bare_rep (w : World) {n : Nat} (hn : ng ≤ n) : Rep P ng ts w.heap.size (fun i => ⟨i, 0, 0⟩) (bare n) w :=
  ⟨⟨fun _ _ => rfl⟩, hn, fun i b h => by simp [bare, Tr.get] at h, fun i b h => by simp [bare, Tr.get] at h, fun i b h => by simp [bare, Tr.get] at h, fun i j bi bj h => by simp [bare, Tr.get] at h, fun i b h => by simp [bare, Tr.get] at h, Nat.le_refl _⟩
def yes (C : Tr IFunc) (n : Nat) (f : FuncId) (args : List Value) (σ : AW) : Bool :=
  match (ksN C n).call f args σ with
  | some (.ret (.bool true), _) => true
  | _ => false
/-- **A call that is run from nothing, and comes to true.** -/
theorem calls_yes {C : Tr IFunc} (hm : P.follows .mixedOrders = true) (hC : TabOK P ng ts C) (n m : Nat) (hn : ng ≤ m) {f : FuncId} (hy : yes C (n + 1) f [] (bare m) = true) (w : World) :
    Calls P f #[] w fun e w' => e = .returned (.bool true) ∧ RowKit.Below w.heap.size w w' := by
  unfold yes at hy
  split at hy
  · rename_i σ' hv
    have hc := calls_of hm hC n hv (bare_rep (P := P) (ts := ts) w hn) (by simp [ltL])
    have e0 : (⟨concL (fun i => ⟨i, 0, 0⟩) []⟩ : Array Value) = #[] := by simp [concL]
    rw [e0] at hc
    refine hc.mono fun e w' ⟨μ', he, _, hg, _⟩ => ⟨by rw [he]; simp, hg.os, hg.tape, hg.output, hg.size, fun k hk => hg.keep k hk fun i b h => by simp [bare, Tr.get] at h⟩
  · simp at hy
end

/-! ### from variables that are laid -/
section
variable {P : Program} {ng : Nat} {ts : List TypeId} {N0 : Nat} {K : Ks} {μ : Nat → Loc} {σ σ' : AW} {w w' : World}
/-- nothing is known of the memory but these variables -/
def known (n : Nat) : List (Nat × TypeId × List Value) → AW
  | [] => bare n
  | (g, t, cs) :: l => { next := n, heap := (known n l).heap.set g (.cells { cs, ty := t, esz := 1, ro := true, exact := true, retired := false, frozen := true, al := [] }) }
structure Laid (w : World) (n : Nat) (x : Nat × TypeId × List Value) : Prop where
  lt : x.1 < n
  lm : x.1 < most
  l : ltL 0 x.2.2 = true
  c : ∃ t fr, w.heap[x.1]? = some (.cells ⟨x.2.2⟩ t fr)
theorem known_next (n : Nat) : ∀ l, (known n l).next = n
  | [] => rfl
  | (_, _, _) :: _ => rfl
def tabB (x : Nat × TypeId × List Value) : CB := { cs := x.2.2, ty := x.2.1, esz := 1, ro := true, exact := true, retired := false, frozen := true, al := [] }
theorem known_get {n : Nat} : ∀ {l : List (Nat × TypeId × List Value)}, (∀ x ∈ l, x.1 < most) → ∀ i b, (known n l).heap.get i = some b → ∃ x ∈ l, x.1 = i ∧ b = .cells (tabB x)
  | [], _, i, b, h => by simp [known, bare, Tr.get] at h
  | (g, t, cs) :: l, hl, i, b, h => by
    have h2 := hl (g, t, cs) (by simp)
    have hget : (known n ((g, t, cs) :: l)).heap.get i = if i = g then some (.cells (tabB (g, t, cs))) else (known n l).heap.get i :=
      Tr.get_set _ _ _ _ (by unfold most at h2; simp only at h2; omega)
    rw [hget] at h
    split at h
    · rename_i hi
      simp at h; subst h
      exact ⟨(g, t, cs), by simp, hi.symm, rfl⟩
    · obtain ⟨x, h1, h3⟩ := known_get (fun x hx => hl x (by simp [hx])) i b h
      exact ⟨x, by simp [h1], h3⟩
theorem known_rep (w : World) {n : Nat} (hn : ng ≤ n) {l : List (Nat × TypeId × List Value)} (hl : ∀ x ∈ l, Laid w n x) : Rep P ng ts w.heap.size (fun i => ⟨i, 0, 0⟩) (known n l) w ∧ ∀ i b, (known n l).heap.get i = some b → isRo b = true := by
  have hg := fun i b h => known_get (n := n) (fun x hx => (hl x hx).lm) i b h
  have hro : ∀ i b, (known n l).heap.get i = some b → isRo b = true := by
    intro i b h
    obtain ⟨x, _, _, rfl⟩ := hg i b h
    rfl
  refine ⟨⟨⟨fun _ _ => rfl⟩, by rw [known_next]; exact hn, ?_, ?_, ?_, ?_, ?_, Nat.le_refl _⟩, hro⟩
  · intro i b h
    obtain ⟨x, hx, rfl, rfl⟩ := hg i b h
    obtain ⟨h1, h2, h3, t, fr, h4⟩ := hl x hx
    rw [known_next]
    refine ⟨h1, h2, ltL_mono (Nat.zero_le _) _ h3, fun _ => rfl, fun _ _ => rfl, fun hf => by simp [tabB] at hf, ⟨x.2.2⟩, t, fr, h4, fun hf => by simp [tabB] at hf, by simp [tabB], fun k v hk => ?_⟩
    have hv : lt 0 v = true := ltL_getElem h3 hk
    simp only [conc_zero _ _ hv, tabB] at hk ⊢
    simpa using hk
  · intro i b h hr; rw [hro i b h] at hr; simp at hr
  · intro i b h _
    obtain ⟨x, hx, rfl, rfl⟩ := hg i b h
    obtain ⟨h1, h2, h3, t, fr, h4⟩ := hl x hx
    exact (Array.getElem?_eq_some_iff.1 h4).1
  · intro i j bi bj hi _ hr; rw [hro i bi hi] at hr; simp at hr
  · intro j cj hj i hi
    obtain ⟨x, _, _, hb⟩ := hg j _ hj
    simp at hb; subst hb
    simp [tabB] at hi
/-- **A call that is run from laid variables, and comes to true.** -/
theorem calls_yesT {C : Tr IFunc} (hm : P.follows .mixedOrders = true) (hC : TabOK P ng ts C) (n m : Nat) (hn : ng ≤ m) {l : List (Nat × TypeId × List Value)} {f : FuncId} (hy : yes C (n + 1) f [] (known m l) = true) (w : World) (hl : ∀ x ∈ l, Laid w m x) :
    Calls P f #[] w fun e w' => e = .returned (.bool true) ∧ RowKit.Below w.heap.size w w' := by
  unfold yes at hy
  split at hy
  · rename_i σ' hv
    obtain ⟨hrep, hro⟩ := known_rep (P := P) (ng := ng) (ts := ts) w hn hl
    have hc := calls_of hm hC n hv hrep (by simp [ltL])
    have e0 : (⟨concL (fun i => ⟨i, 0, 0⟩) []⟩ : Array Value) = #[] := by simp [concL]
    rw [e0] at hc
    refine hc.mono fun e w' ⟨μ', he, _, hg, _⟩ => ⟨by rw [he]; simp, hg.os, hg.tape, hg.output, hg.size, fun k hk => hg.keep k hk fun i b h hr => by rw [hro i b h] at hr; simp at hr⟩
  · simp at hy
theorem laid_of_is {name : String} {k : IntKind} {zs : List Int} {g : Nat} (h : Lib.TabIs P w name k zs) (hg : P.globalNamed name = some g) : ∃ t fr, w.heap[g]? = some (.cells ⟨zs.map (Value.int k)⟩ t fr) := by
  unfold Lib.TabIs World.var? at h
  simp only [hg, Option.bind_some] at h
  split at h
  · rename_i cs t fr hc
    simp at h; subst h
    exact ⟨t, fr, hc⟩
  · simp at h
theorem lt0_ints (k : IntKind) : ∀ zs : List Int, ltL 0 (zs.map (Value.int k)) = true
  | [] => rfl
  | z :: zs => by simp [ltL, lt0_ints k zs]
end
/-! ### the table, checked -/
/-- of a table in the form of a tree, one function after the other -/
def TabAt (P : Program) (ng : Nat) (ts : List TypeId) (a b : Nat) : Tr IFunc → Prop
  | .nil => True
  | .node l o r => TabAt P ng ts (2 * a) (b + a) l ∧ (∀ x, o = some x → ∃ fn, P.funcs[b]? = some fn ∧ cFunc P ng ts fn = some x) ∧ TabAt P ng ts (2 * a) (b + 2 * a) r
theorem TabAt.get {P : Program} {ng : Nat} {ts : List TypeId} : ∀ {C : Tr IFunc} {a b : Nat}, TabAt P ng ts a b C → ∀ f x, C.get f = some x → ∃ fn, P.funcs[b + a * f]? = some fn ∧ cFunc P ng ts fn = some x
  | .nil, _, _, _, f, x, h => by simp [Tr.get] at h
  | .node l o r, a, b, ⟨h1, h2, h3⟩, f, x, h => by
    simp only [Tr.get] at h
    split at h
    · rename_i h0; subst h0; simpa using h2 x h
    · split at h
      · have := TabAt.get h1 _ x h
        have e : b + a + 2 * a * (f / 2) = b + a * f := by
          have h4 : f = 2 * (f / 2) + 1 := by omega
          generalize f / 2 = g at *
          rw [h4, Nat.mul_add, Nat.mul_one, ← Nat.mul_assoc, Nat.mul_comm a 2]; omega
        rwa [e] at this
      · have := TabAt.get h3 _ x h
        have e : b + 2 * a + 2 * a * (f / 2 - 1) = b + a * f := by
          have h4 : f = 2 * (f / 2 - 1 + 1) := by omega
          generalize f / 2 - 1 = g at *
          rw [h4, ← Nat.mul_assoc, Nat.mul_comm a 2, Nat.mul_add]; omega
        rwa [e] at this
theorem TabAt.ok {P : Program} {ng : Nat} {ts : List TypeId} {C : Tr IFunc} (h : TabAt P ng ts 1 0 C) : TabOK P ng ts C := fun f x hf => by simpa using h.get f x hf
theorem TabAt.nil {P : Program} {ng : Nat} {ts : List TypeId} {a b : Nat} : TabAt P ng ts a b .nil := trivial
theorem tab_one {P : Program} {ng : Nat} {ts : List TypeId} {b : Nat} {y : IFunc} (h : (P.funcs[b]?).bind (cFunc P ng ts) = some y) : ∀ x, some y = some x → ∃ fn, P.funcs[b]? = some fn ∧ cFunc P ng ts fn = some x := by
  intro x hx
  simp at hx; subst hx
  exact Option.bind_eq_some_iff.1 h
theorem tab_none {P : Program} {ng : Nat} {ts : List TypeId} {b : Nat} : ∀ x : IFunc, none = some x → ∃ fn, P.funcs[b]? = some fn ∧ cFunc P ng ts fn = some x := by simp
end Go.Proofs.YtjpepfgbilbcdaaGreatDoor.Ai
