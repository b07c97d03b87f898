/- A PART OF THE PROOF THAT AN INTERPRETER OF THE PROGRAM'S FUNCTIONS IS SOUND: a step of it. -/
import Derived.Test.YtjpepfgbilbcdaaGreatDoorAiZi
namespace Go.Proofs.YtjpepfgbilbcdaaGreatDoor.Ai
open Go
set_option linter.unusedSimpArgs false

/-! ### what code comes to, piece by piece; contracts of functions -/
section
variable {P : Program} {ng : Nat} {ts : List TypeId} {N0 : Nat} {K : Ks} {μ : Nat → Loc} {σ σ' σ1 σ2 : AW} {w w' : World}

/-- **A CONTRACT**: a call comes to v, and to that memory. -/
structure CTo (P : Program) (ng : Nat) (ts : List TypeId) (N0 : Nat) (f : FuncId) (args : List Value) (σ : AW) (v : Value) (σ' : AW) : Prop where
  fn : ∃ fn, P.funcs[f]? = some fn ∧ fn.body.isNone = false ∧ (fn.name == "runtime.NumGoroutine") = false
  ok : ∀ {μ w}, Rep P ng ts N0 μ σ w → ltL σ.next args = true → CallOK P ng ts N0 (fun μ => Frame.enter P f ⟨concL μ args⟩ .normal) σ v σ' μ w
/-- code comes to that exit, these temporaries, that memory -/
def CRun (P : Program) (ng : Nat) (ts : List TypeId) (N0 : Nat) (rnd : Option Nat) (ic : ICode) (e : Fr) (σ : AW) (x : IExit) (e' : Fr) (σ' : AW) : Prop :=
  ∀ c, cCode P ng ts c = some ic → CodeOK P ng ts N0 rnd c e σ x e' σ'

theorem CTo.of_K (hK : KSound P ng ts N0 K) {f : FuncId} {args : List Value} {v : Value} (h : K.call f args σ = some (.ret v, σ')) : CTo P ng ts N0 f args σ v σ' :=
  ⟨(hK.call h).1, (hK.call h).2⟩
theorem CRun.of_evC (hm : P.follows .mixedOrders = true) (hK : KSound P ng ts N0 K) {fuel : Nat} {rnd : Option Nat} {ic : ICode} {e e' : Fr} {x : IExit} (h : evC K fuel rnd ic e σ = some (x, e', σ')) : CRun P ng ts N0 rnd ic e σ x e' σ' :=
  fun c hc => evC_sound hK (draw_ok hm hK) fuel rnd c ic hc h
/-- one call more than K knows -/
noncomputable def oneK (f0 : FuncId) (a0 : List Value) (s0 : AW) (v0 : Value) (s1 : AW) (K : Ks) : Ks := by
  classical exact { call := fun f args σ => if f = f0 ∧ args = a0 ∧ σ = s0 then some (.ret v0, s1) else K.call f args σ, yield := K.yield }
theorem oneK_sound (hK : KSound P ng ts N0 K) {f0 : FuncId} {a0 : List Value} {s0 s1 : AW} {v0 : Value} (h : CTo P ng ts N0 f0 a0 s0 v0 s1) : KSound P ng ts N0 (oneK f0 a0 s0 v0 s1 K) := by
  constructor
  · intro f args σ v σ' hc
    simp only [oneK] at hc
    split at hc
    · rename_i he
      obtain ⟨rfl, rfl, rfl⟩ := he
      simp at hc
      obtain ⟨rfl, rfl⟩ := hc
      exact ⟨h.fn, h.ok⟩
    · exact hK.call hc
  · exact hK.yield
theorem oneK_call (f0 : FuncId) (a0 : List Value) (s0 : AW) (v0 : Value) (s1 : AW) (K : Ks) : (oneK f0 a0 s0 v0 s1 K).call f0 a0 s0 = some (.ret v0, s1) := by
  simp [oneK]
theorem oneK_yield (f0 : FuncId) (a0 : List Value) (s0 : AW) (v0 : Value) (s1 : AW) (K : Ks) : (oneK f0 a0 s0 v0 s1 K).yield = K.yield := rfl

theorem CRun.seq {rnd : Option Nat} {a b : ICode} {e e1 e2 : Fr} {x : IExit} (h1 : CRun P ng ts N0 rnd a e σ .normal e1 σ1) (h2 : CRun P ng ts N0 rnd b e1 σ1 x e2 σ2) : CRun P ng ts N0 rnd (.seq a b) e σ x e2 σ2 := by
  intro c hc
  cases c with
  | seq ca cb =>
    intro μ w h hE fb hr k cs
    simp only [cCode] at hc
    split at hc
    · rename_i ia ib ha hb
      simp at hc
      obtain ⟨rfl, rfl⟩ := hc
      obtain ⟨μ1, w1, r1, g1, f1, c1⟩ := h1 ca ha h hE fb hr (.code cb :: k) cs
      obtain ⟨μ2, w2, r2, g2, f2, c2⟩ := h2 cb hb r1 f1 fb (hr.mono g1.next g1.agr) k cs
      exact ⟨μ2, w2, r2, g1.trans g2, f2, c2.head (Steps.head st_seq c1)⟩
    · simp at hc
  | region id ops d => cases d <;> simp only [cCode] at hc <;> (repeat' split at hc) <;> simp at hc
  | cond x a b => simp only [cCode] at hc; (repeat' split at hc) <;> simp at hc
  | rangeFunc f ps a b => simp only [cCode] at hc; (repeat' split at hc) <;> simp at hc
  | _ => simp [cCode] at hc

/-- fewer blocks known -/
def Less (σ'' σ' : AW) : Prop := σ''.next = σ'.next ∧ ∀ i b, σ''.heap.get i = some b → σ'.heap.get i = some b
theorem Rep.less' (h : Rep P ng ts N0 μ σ w) {σ'' : AW} (hl : Less σ'' σ) : Rep P ng ts N0 μ σ'' w := by
  obtain ⟨hn, hb⟩ := hl
  refine ⟨h.glob, by rw [hn]; exact h.ngn, fun i b hi => by rw [hn]; exact h.blk i b (hb i b hi), fun i b hi => h.own i b (hb i b hi), fun i b hi => h.ro i b (hb i b hi), fun i j bi bj hi hj => h.dis i j bi bj (hb i bi hi) (hb j bj hj), fun j cj hj i hi => ?_, h.big⟩
  obtain ⟨h1, h2⟩ := h.al j cj (hb j _ hj) i hi
  exact ⟨h1, fun bi hbi => h2 bi (hb i bi hbi)⟩
theorem Goes.less' {μ' : Nat → Loc} (h : Goes μ σ w μ' σ' w') {σ'' : AW} (hl : Less σ'' σ') : Goes μ σ w μ' σ'' w' :=
  ⟨by rw [hl.1]; exact h.next, h.agr, h.os, h.tape, h.output, h.size, h.keep, fun i b hi => h.fresh i b (hl.2 i b hi)⟩
theorem CRun.less {rnd : Option Nat} {a : ICode} {e e1 : Fr} {x : IExit} (h : CRun P ng ts N0 rnd a e σ x e1 σ1) (hl : Less σ2 σ1) : CRun P ng ts N0 rnd a e σ x e1 σ2 := by
  intro c hc μ w hr hE b hb k cs
  obtain ⟨μ1, w1, r1, g1, f1, c1⟩ := h c hc hr hE b hb k cs
  exact ⟨μ1, w1, r1.less' hl, g1.less' hl, by rw [hl.1]; exact f1, c1⟩
theorem CTo.less {f : FuncId} {args : List Value} {v : Value} (h : CTo P ng ts N0 f args σ v σ1) (hl : Less σ2 σ1) : CTo P ng ts N0 f args σ v σ2 := by
  refine ⟨h.fn, fun hr ha c cs => ?_⟩
  obtain ⟨μ', w', r1, g1, h3, h4⟩ := h.ok hr ha c cs
  exact ⟨μ', w', r1.less' hl, g1.less' hl, by rw [hl.1]; exact h3, h4⟩

/-- **a function, from its body** -/
theorem CTo.of_body {C : Tr IFunc} (hC : TabOK P ng ts C) {f : FuncId} {ifn : IFunc} (hf : C.get f = some ifn) {args : List Value} {x : IExit} {e : Fr} {vs : List Value}
    (hb : CRun P ng ts N0 none ifn.body { tmps := args ++ List.replicate (ifn.ntmps - args.length) undef, dfs := [] } σ x e σ1) (hx : x = .normal ∨ x = .ret)
    (hd : runDfs e.dfs σ1 = some σ2) (hv : resVs e.tmps σ2 ifn.results = some vs) : CTo P ng ts N0 f args σ (tupleOf vs) σ2 := by
  obtain ⟨fn, hfn, hcf⟩ := hC f ifn hf
  unfold cFunc at hcf
  split at hcf
  · rename_i c rs hbody hrs
    split at hcf
    · simp at hcf
    · rename_i hname
      simp only [Option.map_eq_some_iff] at hcf
      obtain ⟨ib, hib, rfl⟩ := hcf
      refine ⟨⟨fn, hfn, by rw [hbody]; rfl, by simpa using hname⟩, ?_⟩
      intro μ w h ha c' cs
      let b : Frame := { fn := f, tmps := #[], todo := [], defers := [], mode := .run, kind := .normal, roundOf := none }
      have hE : FrOK σ.next { tmps := args ++ List.replicate (fn.ntmps - args.length) undef, dfs := [] } := by
        refine ⟨ltL_append.2 ⟨ha, (ltL_iff _ _).2 fun v hv => ?_⟩, by simp⟩
        rw [(List.mem_replicate.1 hv).2]; exact lt_undef _
      have hstart : Frame.enter P f ⟨concL μ args⟩ .normal = fr b μ { tmps := args ++ List.replicate (fn.ntmps - args.length) undef, dfs := [] } [.code c] := by
        simp only [Frame.enter, fr, hfn, hbody]
        simp [concL_append, concL_replicate, concL_length, b, hbody]
      obtain ⟨μ1, w1, r1, g1, f1, c1⟩ := hb c hib h hE b rfl [] (c' :: cs)
      obtain ⟨F, hF1, hF2, hF3, hF4, hF5, hF6⟩ : ∃ F : Frame, F.mode = .returning ∧ F.defers = e.dfs.map (mark μ1) ∧ F.kind = .normal ∧ F.fn = f ∧ F.tmps = ⟨concL μ1 e.tmps⟩ ∧
          Steps P (lone (fr b μ { tmps := args ++ List.replicate (fn.ntmps - args.length) undef, dfs := [] } [.code c]) (c' :: cs) w) (lone F (c' :: cs) w1) := by
        rcases hx with rfl | rfl
        · exact ⟨_, rfl, rfl, rfl, rfl, rfl, Steps.trans c1 (.one (st_end rfl))⟩
        · obtain ⟨k', hk⟩ := c1
          exact ⟨_, rfl, rfl, rfl, rfl, rfl, Steps.trans hk (.one (st_ret rfl))⟩
      obtain ⟨w2, r2, g2, s2⟩ := runDfs_sound hd r1 f1.dfs F (c' :: cs) hF1 hF2
      obtain ⟨hres, hlv⟩ := results_sound (fn := fn) r2 (ltL_mono g2.next _ f1.tm) hrs hv
      refine ⟨μ1, w2, r2, g1.trans g2, hlv, ?_⟩
      show Steps P (lone (Frame.enter P f ⟨concL μ args⟩ .normal) (c' :: cs) w) _
      rw [hstart]
      refine hF6.trans (s2.trans (.one ?_))
      exact st_leave (fn := fn) hF1 rfl hF3 (by simp only; rw [hF4]; exact hfn) (by simp only; rw [hF5]; exact hres)
  · simp at hcf
/-- a function's calls in the kit's words, from its body -/
theorem Calls_of_body {C : Tr IFunc} (hC : TabOK P ng ts C) {f : FuncId} {ifn : IFunc} (hf : C.get f = some ifn) {args : List Value} {x : IExit} {e : Fr} {vs : List Value}
    (hb : CRun P ng ts N0 none ifn.body { tmps := args ++ List.replicate (ifn.ntmps - args.length) undef, dfs := [] } σ x e σ1) (hx : x = .normal ∨ x = .ret)
    (hd : runDfs e.dfs σ1 = some σ2) (hv : resVs e.tmps σ2 ifn.results = some vs) (h : Rep P ng ts N0 μ σ w) (ha : ltL σ.next args = true) :
    Calls P f ⟨concL μ args⟩ w fun e w' => ∃ μ', e = .returned (conc μ' (tupleOf vs)) ∧ Rep P ng ts N0 μ' σ2 w' ∧ Goes μ σ w μ' σ2 w' ∧ lt σ2.next (tupleOf vs) = true := by
  obtain ⟨fn, hfn, hcf⟩ := hC f ifn hf
  unfold cFunc at hcf
  split at hcf
  · rename_i c rs hbody hrs
    split at hcf
    · simp at hcf
    · rename_i hname
      simp only [Option.map_eq_some_iff] at hcf
      obtain ⟨ib, hib, rfl⟩ := hcf
      intro cs
      let b : Frame := { fn := f, tmps := #[], todo := [], defers := [], mode := .run, kind := .normal, roundOf := none }
      have hE : FrOK σ.next { tmps := args ++ List.replicate (fn.ntmps - args.length) undef, dfs := [] } := by
        refine ⟨ltL_append.2 ⟨ha, (ltL_iff _ _).2 fun v hv => ?_⟩, by simp⟩
        rw [(List.mem_replicate.1 hv).2]; exact lt_undef _
      have hstart : Frame.enter P f ⟨concL μ args⟩ .normal = fr b μ { tmps := args ++ List.replicate (fn.ntmps - args.length) undef, dfs := [] } [.code c] := by
        simp only [Frame.enter, fr, hfn, hbody]
        simp [concL_append, concL_replicate, concL_length, b, hbody]
      obtain ⟨μ1, w1, r1, g1, f1, c1⟩ := hb c hib h hE b rfl [] cs
      obtain ⟨F, hF1, hF2, hF3, hF4, hF5, hF6⟩ : ∃ F : Frame, F.mode = .returning ∧ F.defers = e.dfs.map (mark μ1) ∧ F.kind = .normal ∧ F.fn = f ∧ F.tmps = ⟨concL μ1 e.tmps⟩ ∧
          Steps P (lone (fr b μ { tmps := args ++ List.replicate (fn.ntmps - args.length) undef, dfs := [] } [.code c]) cs w) (lone F cs w1) := by
        rcases hx with rfl | rfl
        · exact ⟨_, rfl, rfl, rfl, rfl, rfl, Steps.trans c1 (.one (st_end rfl))⟩
        · obtain ⟨k', hk⟩ := c1
          exact ⟨_, rfl, rfl, rfl, rfl, rfl, Steps.trans hk (.one (st_ret rfl))⟩
      obtain ⟨w2, r2, g2, s2⟩ := runDfs_sound hd r1 f1.dfs F cs hF1 hF2
      obtain ⟨hres, hlv⟩ := results_sound (fn := fn) r2 (ltL_mono g2.next _ f1.tm) hrs hv
      refine ⟨.returned (conc μ1 (tupleOf vs)), w2, { F with defers := [] }, ⟨μ1, rfl, r2, g1.trans g2, hlv⟩, ?_, hF4, hF1, rfl, hF3, fn, by simp only; rw [hF4]; exact hfn, by simp only; rw [hF5]; exact hres⟩
      rw [hstart]
      exact hF6.trans s2
  · simp at hcf

/-! ### a contract from laid variables alone holds in every memory that knows them -/
theorem Rep.older (h : Rep P ng ts N0 μ σ w) (hs : w.heap.size ≤ w'.heap.size) (hk : ∀ B, B < w.heap.size → w'.heap[B]? = w.heap[B]?) : Rep P ng ts N0 μ σ w' := by
  refine ⟨h.glob, h.ngn, ?_, ?_, h.ro, h.dis, h.al, Nat.le_trans h.big hs⟩
  · intro i b hi
    obtain ⟨h1, h2, h3⟩ := h.blk i b hi
    exact ⟨h1, h2, h3.mono (fun _ _ => rfl) h1 (Nat.le_refl _) (hk _ (h.live hi))⟩
  · intro i b hi hr
    exact ⟨(h.own i b hi hr).1, Nat.lt_of_lt_of_le (h.own i b hi hr).2 hs⟩
/-- the memory knows these laid variables -/
def Knows (σ : AW) (n : Nat) (l : List (Nat × TypeId × List Value)) : Prop := ∀ x ∈ l, x.1 < n ∧ x.1 < ng ∧ σ.heap.get x.1 = some (.cells (tabB x)) ∧ ltL 0 x.2.2 = true
theorem CTo.anywhere {f : FuncId} {l : List (Nat × TypeId × List Value)} {n : Nat} {v : Value} {σf : AW} (hn : ng ≤ n) (h : ∀ N0, CTo P ng ts N0 f [] (known n l) v σf) (hv : lt 0 v = true) (hk : Knows (ng := ng) σ n l) : CTo P ng ts N0 f [] σ v σ := by
  refine ⟨(h N0).fn, fun {μ w} hr _ c cs => ?_⟩
  have hl : ∀ x ∈ l, Laid w n x := by
    intro x hx
    obtain ⟨h1, h2, h3, h4⟩ := hk x hx
    obtain ⟨g1, g2, g3⟩ := hr.blk _ _ h3
    obtain ⟨C, t, fr, g4, _, g5, g6⟩ := g3.cell
    have hμ : μ x.1 = ⟨x.1, 0, 0⟩ := hr.glob.out x.1 h2
    refine ⟨h1, g2, h4, t, fr, ?_⟩
    rw [hμ] at g4 g5 g6
    simp only [tabB] at g4 g5 g6
    rw [g4]
    congr 2
    apply Array.ext'
    apply List.ext_getElem?
    intro k
    simp only [Nat.zero_add, Nat.zero_mul, Nat.add_zero] at g5 g6
    by_cases hkk : k < x.2.2.length
    · have hx2 : x.2.2[k]? = some (x.2.2[k]) := List.getElem?_eq_getElem hkk
      have := g6 k _ hx2
      rw [conc_zero _ _ (ltL_getElem h4 hx2)] at this
      rw [Array.getElem?_toList, this, hx2]
    · have hC : C.toList.length = x.2.2.length := by rw [Array.length_toList]; omega
      rw [List.getElem?_eq_none (by omega), List.getElem?_eq_none (by simpa using hkk)]
  obtain ⟨hrep, hro⟩ := known_rep (P := P) (ng := ng) (ts := ts) w hn hl
  obtain ⟨μ', w', r1, g1, h3, h4⟩ := (h w.heap.size).ok hrep (by simp [ltL]) c cs
  have hkeep : ∀ B, B < w.heap.size → w'.heap[B]? = w.heap[B]? := fun B hB => g1.keep B hB fun i b hb hr => by rw [hro i b hb] at hr; simp at hr
  refine ⟨μ, w', hr.older g1.size hkeep, ⟨Nat.le_refl _, fun _ _ => rfl, g1.os, g1.tape, g1.output, g1.size, fun B hB _ => hkeep B hB, fun i b hb hr => .inr ⟨i, b, hb, hr, rfl⟩⟩, lt_mono (Nat.zero_le _) _ hv, ?_⟩
  have e1 : concL (fun i => (⟨i, 0, 0⟩ : Loc)) ([] : List Value) = [] := rfl
  have e2 : concL μ ([] : List Value) = [] := rfl
  simp only [e1] at h4
  simp only [e2]
  rw [conc_zero _ _ hv] at h4 ⊢
  exact h4

/-! ### laid variables that bear addresses -/
structure LaidAt (ng : Nat) (μ : Nat → Loc) (w : World) (n : Nat) (x : Nat × TypeId × List Value) : Prop where
  lt : x.1 < n
  lm : x.1 < most
  g : x.1 < ng
  l : ltL n x.2.2 = true
  c : ∃ t fr, w.heap[x.1]? = some (.cells ⟨concL μ x.2.2⟩ t fr)
theorem known_at (hg : Glob ng μ) (w : World) {n : Nat} (hn : ng ≤ n) {l : List (Nat × TypeId × List Value)} (hl : ∀ x ∈ l, LaidAt ng μ w n x) : Rep P ng ts w.heap.size μ (known n l) w ∧ ∀ i b, (known n l).heap.get i = some b → isRo b = true := by
  have hgt := fun i b h => known_get (n := n) (fun x hx => (hl x hx).lm) i b h
  have hro : ∀ i b, (known n l).heap.get i = some b → isRo b = true := by
    intro i b h
    obtain ⟨x, _, _, rfl⟩ := hgt i b h
    rfl
  refine ⟨⟨hg, by rw [known_next]; exact hn, ?_, ?_, ?_, ?_, ?_, Nat.le_refl _⟩, hro⟩
  · intro i b h
    obtain ⟨x, hx, rfl, rfl⟩ := hgt i b h
    obtain ⟨h1, h2, hxg, h3, t, fr, h4⟩ := hl x hx
    have hμ : μ x.1 = ⟨x.1, 0, 0⟩ := hg.out x.1 hxg
    rw [known_next]
    refine ⟨h1, h2, h3, fun _ => by rw [hμ], fun _ _ => by rw [hμ], fun hf => by simp [tabB] at hf, ⟨concL μ x.2.2⟩, t, fr, by rw [hμ]; exact h4, fun hf => by simp [tabB] at hf, by rw [hμ]; simp [tabB, concL_length], fun k v hk => ?_⟩
    rw [hμ]
    simp only [tabB] at hk ⊢
    simp only [Nat.zero_add, List.getElem?_toArray, concL_getElem?, hk, Option.map_some]
  · intro i b h hr; rw [hro i b h] at hr; simp at hr
  · intro i b h _
    obtain ⟨x, hx, rfl, rfl⟩ := hgt i b h
    obtain ⟨h1, h2, hxg, h3, t, fr, h4⟩ := hl x hx
    rw [hg.out x.1 hxg]
    exact (Array.getElem?_eq_some_iff.1 h4).1
  · intro i j bi bj hi _ hr; rw [hro i bi hi] at hr; simp at hr
  · intro j cj hj i hi
    obtain ⟨x, _, _, hb⟩ := hgt j _ hj
    simp at hb; subst hb
    simp [tabB] at hi
/-- an address for the id j -/
def withPtr (j : Nat) (a : Addr) (i : Nat) : Loc := if i = j then ⟨a.block, a.off, 0⟩ else ⟨i, 0, 0⟩
theorem withPtr_glob {j : Nat} (hj : ng ≤ j) (a : Addr) : Glob ng (withPtr j a) := ⟨fun g hg => by simp [withPtr]; omega⟩
theorem laidAt_ints (hg : Glob ng μ) {g n : Nat} {k : IntKind} {zs : List Int} {w : World} (h1 : g < n) (h2 : g < most) (h3 : g < ng) (h : ∃ t fr, w.heap[g]? = some (.cells ⟨zs.map (Value.int k)⟩ t fr)) : LaidAt ng μ w n (g, 0, zs.map (Value.int k)) :=
  ⟨h1, h2, h3, ltL_mono (Nat.zero_le _) _ (lt0_ints k zs), by simpa only [concL_zero _ _ (lt0_ints k zs)] using h⟩
theorem laidAt_ptr {j g n tp : Nat} {a : Addr} {w : World} {name : String} (hj : j < n) (h1 : g < n) (h2 : g < most) (h3 : g < ng) (hgn : P.globalNamed name = some g) (ha : a.spot = none) (h : w.var? P name = some #[.iface tp (.pointer (some a))]) :
    LaidAt ng (withPtr j a) w n (g, 0, [.iface tp (.pointer (some ⟨j, 0, none⟩))]) := by
  refine ⟨h1, h2, h3, by simp [ltL, hj], ?_⟩
  unfold World.var? at h
  simp only [hgn, Option.bind_some] at h
  split at h
  · rename_i cs t fr hc
    simp at h; subst h
    refine ⟨t, fr, ?_⟩
    rw [hc]
    obtain ⟨b, o, s⟩ := a
    simp only at ha; subst ha
    simp [concL, cAddr, withPtr]
  · simp at h
end
end Go.Proofs.YtjpepfgbilbcdaaGreatDoor.Ai
