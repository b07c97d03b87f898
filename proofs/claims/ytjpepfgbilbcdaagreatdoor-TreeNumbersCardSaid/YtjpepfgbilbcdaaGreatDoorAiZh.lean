/- A PART OF THE PROOF THAT AN INTERPRETER OF THE PROGRAM'S FUNCTIONS IS SOUND: regions that draw their order are sound. -/
import Derived.Test.YtjpepfgbilbcdaaGreatDoorAiZg
namespace Go.Proofs.YtjpepfgbilbcdaaGreatDoor.Ai
open Go
set_option linter.unusedSimpArgs false
set_option linter.unusedSectionVars false

section
variable {P : Program} {ng : Nat} {ts : List TypeId} {N0 : Nat} {K : Ks} {l : List IOper} {bf : List Nat} {e0 : List Value} {fin : DStage} {v : Nat → Value} {t' : List Value} {σ' : AW} {L0 : List NEnt} {μ0 : Nat → Loc} {σ0 : AW} {w0 : World}
  {st : List DStage} {prev nx : Option Nat} {C : List Nat} {β : AW} {L : List NEnt} {S : List Nat} {μ : Nat → Loc} {w w' : World} {ops : Array Oper}

/-- **one operation, whichever comes next** -/
theorem Inv.step (X : Cx P ng ts ops l bf e0 v L0) (hK : KSound P ng ts N0 K) (I : Inv P ng ts N0 K l bf e0 fin v t' σ' L0 μ0 σ0 w0 st prev C β L S μ w) (hN : N0 ≤ w0.heap.size) {i : Nat} (hi : i < l.length) (hp : Pos bf i S)
    {b : Frame} {E : Fr} {k : List Item} {rest : List Nat} {cs : List Frame} (hE : ∀ d ∈ E.dfs, d < σ0.next) :
    ∃ st' prev' C' β' L' μ1 w1, Inv P ng ts N0 K l bf e0 fin v t' σ' L0 μ0 σ0 w0 st' prev' C' β' L' (i :: S) μ1 w1 ∧
      Steps P (lone (FS b E l v e0 ops k μ S (i :: rest)) cs w) (lone (FS b E l v e0 ops k μ1 (i :: S) rest) cs w1) := by
  have hE' : ∀ d ∈ E.dfs, d < β.next := fun d hd => Nat.lt_of_lt_of_le (hE d hd) I.goes.next
  obtain ⟨C1, io, n, hio, hp1, hlt, hof⟩ := X.of i hi
  obtain ⟨o, ho, hc, hd, hop⟩ := X.op hio
  have hag := X.agree hio ho hp1 hp
  have hwe : io.wanted (tm l v e0 S) = io.wanted (tm l v e0 C1) := wanted_agree hag
  cases hisE : isE io.op with
  | true =>
    have hall := I.ds.facts.all i hi
    have hiC : i ∉ C := fun h => hp.out (I.eC i h io hio hisE)
    cases st with
    | nil =>
      have h1 : i ∈ fin.xs := hall.resolve_left hiC
      have := I.ds.2.1.facts.ne i h1 io hio
      rw [this] at hisE; simp at hisE
    | cons s st =>
      have hsame : i = s.e := by
        have h1 := hall.resolve_left hiC
        obtain ⟨hck, γ, β', A, L', io', rfl, hx, hio', hisE', hlt, hpos, hpv, hrun, hnx, hds⟩ := I.ds
        rcases List.mem_append.1 h1 with h1 | h1
        · have := hx.facts.ne i h1 io hio
          rw [this] at hisE; simp at hisE
        · rcases List.mem_cons.1 h1 with h1 | h1
          · exact h1
          · have h2 := hds.facts.late s.e rfl i h1 io hio (.inl hisE) S I.clo hp.ahead
            exact absurd (List.mem_append_right _ (I.eS s.e h2 io' hio' hisE')) hpos.out
      subst hsame
      obtain ⟨prev', C', β', L', μ1, w1, h1, h2⟩ := I.change X hK hN hp (b := b) (E := E) (k := k) (rest := rest) (cs := cs) hE'
      exact ⟨st, prev', C', β', L', μ1, w1, h1, h2⟩
  | false =>
    rcases hof with ⟨hw, hv⟩ | ⟨hw, hof⟩
    · obtain ⟨h1, h2⟩ := I.unwanted X hp hio hisE (b := b) (E := E) (k := k) (rest := rest) (cs := cs) (by rw [hwe]; exact hw) hv
      exact ⟨_, _, _, _, _, μ, w, h1, h2⟩
    · rcases hof with ⟨q, hq, hev⟩ | ⟨q, hq⟩ | ⟨q, id, bk, hq, hm⟩ | hq
      · have hgl : ∀ μ2, Agr μ2 μ β.next L S → Glob ng μ2 := fun μ2 h2 => ⟨fun g hg => by rw [h2.1 g (Nat.lt_of_lt_of_le hg I.rep.ngn)]; exact I.rep.glob.out g hg⟩
        obtain ⟨h1, h2⟩ := I.plain X hp hio hisE (by rw [hq]; simp) (b := b) (E := E) (k := k) (rest := rest) (cs := cs) (by rw [hwe]; exact hw) (e := tm l v e0 C1) (x := v i)
          (fun o' ho' => by rw [ho] at ho'; simp at ho'; subst ho'; exact hag)
          (fun o' μ2 hcop hok _ h2 => (evP_sound (hgl μ2 h2) (n := Nat.max n ng) (Nat.le_max_right _ _) (ltL_mono (Nat.le_max_left _ _) _ hlt) (by rw [hq] at hcop; exact hcop) hok hev w).1) rfl (by rw [hq]; simp)
        exact ⟨_, _, _, _, _, μ, w, h1, h2⟩
      · obtain ⟨e, m, x, h1, h2, h3, h4, h5⟩ := I.read X hp hio hq (by rw [hwe]; exact hw)
        obtain ⟨h1, h2⟩ := I.plain X hp hio hisE (by rw [hq]; simp) (b := b) (E := E) (k := k) (rest := rest) (cs := cs) (by rw [hwe]; exact hw) (e := e) (x := x) h1
          (fun o' μ2 hcop hok _ h6 => (evR_sound ((I.rep.agrμ h6.1).raise h2) (e := e) h3 (by rw [hq] at hcop; exact hcop) hok (by rw [evR_raise]; exact h4)).1) h5 (by rw [hq]; simp)
        exact ⟨_, _, _, _, _, μ, w, h1, h2⟩
      · obtain ⟨μ1, w1, h1, h2⟩ := I.block X hp hio hq (b := b) (E := E) (k := k) (rest := rest) (cs := cs) hE' hm
        exact ⟨_, _, _, _, _, μ1, w1, h1, h2⟩
      · rw [hisE] at hq; simp at hq

/-! ### there is always a next one -/
theorem XS.next : ∀ {xs C : List Nat} {σ σ2 : AW} {A : List NEnt}, XS l bf e0 v β prev nx xs C σ A σ2 → (∀ j ∈ C, j ∈ S) →
    (∃ i ∈ xs, i ∉ S ∧ ∀ j, (nthN bf i).testBit j = true → j ∈ S) ∨ ∀ j ∈ xs.reverse ++ C, j ∈ S
  | [], C, σ, σ2, A, _, hC => .inr (by simpa using hC)
  | i :: xs, C, σ, σ2, A, h, hC => by
    obtain ⟨io, hio, hlt, hpos, hE, hR, hN, h⟩ := h
    by_cases hi : i ∈ S
    · have hC' : ∀ j ∈ i :: C, j ∈ S := fun j hj => by
        rcases List.mem_cons.1 hj with rfl | hj
        · exact hi
        · exact hC j hj
      have go : ∀ {σ3 : AW} {A3 : List NEnt}, XS l bf e0 v β prev nx xs (i :: C) σ3 A3 σ2 → ((∃ i ∈ xs, i ∉ S ∧ ∀ j, (nthN bf i).testBit j = true → j ∈ S) ∨ ∀ j ∈ xs.reverse ++ i :: C, j ∈ S) := fun hx => XS.next hx hC'
      have fin : ((∃ i ∈ xs, i ∉ S ∧ ∀ j, (nthN bf i).testBit j = true → j ∈ S) ∨ ∀ j ∈ xs.reverse ++ i :: C, j ∈ S) → ((∃ j ∈ i :: xs, j ∉ S ∧ ∀ m, (nthN bf j).testBit m = true → m ∈ S) ∨ ∀ j ∈ (i :: xs).reverse ++ C, j ∈ S) := fun h => h.elim (fun ⟨j, h1, h2⟩ => Or.inl ⟨j, List.mem_cons_of_mem i h1, h2⟩) (fun h => Or.inr (by simpa using h))
      rcases h with ⟨_, _, h⟩ | ⟨_, _, _, _, h⟩ | ⟨_, _, _, _, h⟩ | ⟨_, _, _, _, _, _, _, _, _, _, h⟩
      · exact fin (go h)
      · exact fin (go h)
      · exact fin (go h)
      · exact fin (go h)
    · exact .inl ⟨i, by simp, hi, fun j hj => hC j (hpos.ahead j hj)⟩
theorem DS.next : ∀ {st : List DStage} {prev : Option Nat} {C : List Nat} {β : AW} {L : List NEnt}, DS l bf e0 K fin v t' σ' st prev C β L → (∀ j ∈ C, j ∈ S) →
    (∃ i ∈ opsOf fin st, i ∉ S ∧ ∀ j, (nthN bf i).testBit j = true → j ∈ S) ∨ ∀ j ∈ opsOf fin st, j ∈ S
  | [], prev, C, β, L, h, hC => by
    rcases h.2.1.next hC with h1 | h1
    · exact .inl h1
    · exact .inr fun j hj => h1 j (List.mem_append_left _ (by simpa [opsOf] using hj))
  | s :: st, prev, C, β, L, h, hC => by
    obtain ⟨hck, γ, β', A, L', io', rfl, hx, hio', hisE', hlt, hpos, hpv, hrun, hnx, hds⟩ := h
    rcases hx.next hC with ⟨i, h1, h2⟩ | h1
    · exact .inl ⟨i, List.mem_append_left _ h1, h2⟩
    · by_cases he : s.e ∈ S
      · rcases DS.next hds (fun j hj => by
          rcases List.mem_cons.1 hj with rfl | hj
          · exact he
          · exact h1 j hj) with ⟨i, h3, h4⟩ | h3
        · exact .inl ⟨i, List.mem_append_right _ (List.mem_cons_of_mem _ h3), h4⟩
        · refine .inr fun j hj => ?_
          rcases List.mem_append.1 hj with hj | hj
          · exact h1 j (List.mem_append_left _ (by simpa using hj))
          · rcases List.mem_cons.1 hj with rfl | hj
            · exact he
            · exact h3 j hj
      · exact .inl ⟨s.e, List.mem_append_right _ (by simp), he, fun j hj => h1 j (hpos.ahead j hj)⟩

theorem filter_less {p q : Nat → Bool} (hpq : ∀ j, q j = true → p j = true) {i : Nat} (h1 : p i = true) (h2 : q i = false) : ∀ (L : List Nat), (L.filter q).length ≤ (L.filter p).length ∧ (i ∈ L → (L.filter q).length < (L.filter p).length)
  | [] => by simp
  | j :: L => by
    obtain ⟨g1, g2⟩ := filter_less hpq h1 h2 L
    by_cases hq : q j = true
    · have hp := hpq j hq
      simp only [List.filter_cons, hq, hp, if_true, List.length_cons]
      refine ⟨by omega, fun hi => ?_⟩
      rcases List.mem_cons.1 hi with rfl | hi
      · rw [h2] at hq; simp at hq
      · have := g2 hi; omega
    · by_cases hp : p j = true
      · simp only [List.filter_cons, hq, hp, if_true, List.length_cons]
        refine ⟨?_, fun hi => ?_⟩
        · simp; omega
        · simp; omega
      · simp only [List.filter_cons, hq, hp]
        refine ⟨by simpa using g1, fun hi => ?_⟩
        rcases List.mem_cons.1 hi with rfl | hi
        · exact absurd h1 hp
        · simpa using g2 hi

def unl (n : Nat) (S : List Nat) : List Nat := (List.range n).filter fun j => !S.contains j
theorem unl_less {n i : Nat} (hi : i < n) (hn : i ∉ S) : (unl n (i :: S)).length < (unl n S).length :=
  (filter_less (p := fun j => !S.contains j) (q := fun j => !(i :: S).contains j) (fun j hj => by simp at hj ⊢; exact hj.2) (by simpa using hn) (by simp) _).2 (by simpa using hi)
theorem unl_nil {n : Nat} (h : (unl n S).length ≤ 0) : ∀ j, j < n → j ∈ S := by
  intro j hj
  have h1 : unl n S = [] := List.eq_nil_of_length_eq_zero (by omega)
  by_cases hS : j ∈ S
  · exact hS
  · have : j ∈ unl n S := List.mem_filter.2 ⟨List.mem_range.2 hj, by simpa using hS⟩
    rw [h1] at this; simp at this

/-- **all of them, in whatever order** -/
theorem run_order (X : Cx P ng ts ops l (Region.before ops).toList e0 v L0) (hK : KSound P ng ts N0 K) (hN : N0 ≤ w0.heap.size) {st0 : List DStage} {β0 : AW} (hD : DS l (Region.before ops).toList e0 K fin v t' σ' st0 none [] β0 L0) (hlen : l.length = ops.size)
    {b : Frame} {E : Fr} {k : List Item} {cs : List Frame} (hE : ∀ d ∈ E.dfs, d < σ0.next) :
    ∀ (fuel t : Nat) (listed : Array Bool) {st : List DStage} {prev : Option Nat} {C : List Nat} {β : AW} {L : List NEnt} {S : List Nat} {μ : Nat → Loc} {w : World},
      Inv P ng ts N0 K l (Region.before ops).toList e0 fin v t' σ' L0 μ0 σ0 w0 st prev C β L S μ w → listed.size = ops.size → (∀ j, listed.getD j false = true ↔ j ∈ S) → (unl ops.size S).length ≤ fuel →
      ∃ st' prev' C' β' L' S' μ' w', Inv P ng ts N0 K l (Region.before ops).toList e0 fin v t' σ' L0 μ0 σ0 w0 st' prev' C' β' L' S' μ' w' ∧ (∀ j, j < ops.size → j ∈ S') ∧
        Steps P (lone (FS b E l v e0 ops k μ S (Region.linearise.go .any ops fuel t listed [])) cs w) (lone (FS b E l v e0 ops k μ' S' []) cs w') := by
  intro fuel
  induction fuel with
  | zero =>
    intro t listed st prev C β L S μ w I hsz hl hu
    exact ⟨_, _, _, _, _, S, μ, w, I, unl_nil hu, .refl _ _⟩
  | succ fuel ih =>
    intro t listed st prev C β L S μ w I hsz hl hu
    have hgo : Region.linearise.go .any ops (fuel + 1) t listed [] =
        match (Region.ready .any ops listed)[t % (Region.ready .any ops listed).length]? with
        | some i => i :: Region.linearise.go .any ops fuel (t / (Region.ready .any ops listed).length) (listed.setIfInBounds i true) []
        | none => [] := by
      simp only [Region.linearise.go, Region.ready]
      split
      · rename_i i hi
        rw [hi, linearise_go_acc]; simp
      · rename_i hi
        rw [hi]; simp
    rw [hgo]
    split
    · rename_i i hi
      have him := List.mem_of_getElem? hi
      obtain ⟨h0, o, ho, hall⟩ := mem_ready.1 him
      have hlt : i < ops.size := (Array.getElem?_eq_some_iff.1 ho).1
      have hnS : i ∉ S := fun h => by
        have h1 := (hl i).2 h
        simp [hsz, hlt] at h0 h1
        rw [h0] at h1; simp at h1
      have hp : Pos (Region.before ops).toList i S := ⟨I.clo, fun j hj => by
        obtain ⟨e, he, hb, h1⟩ := (before_bits ops ho).2 j hj
        have h2 := (hl e.on).1 (hall e he hb)
        rcases h1 with rfl | h1
        · exact h2
        · exact I.clo e.on h2 j h1, hnS⟩
      obtain ⟨st1, prev1, C1, β1, L1, μ1, w1, I1, s1⟩ := I.step X hK hN (by rw [hlen]; exact hlt) hp (b := b) (E := E) (k := k) (rest := Region.linearise.go .any ops fuel (t / (Region.ready .any ops listed).length) (listed.setIfInBounds i true) []) (cs := cs) hE
      obtain ⟨st', prev', C', β', L', S', μ', w', I', hS', s2⟩ := ih (t / (Region.ready .any ops listed).length) (listed.setIfInBounds i true) I1 (by simpa using hsz) (fun j => by
        by_cases hj : j = i
        · subst hj; simp [hsz, hlt]
        · rw [getD_set_ne false (Ne.symm hj), hl j]; simp [hj]) (by have := unl_less (S := S) hlt hnS; omega)
      exact ⟨st', prev', C', β', L', S', μ', w', I', hS', s1.trans s2⟩
    · rename_i hnone
      have hrn : Region.ready .any ops listed = [] := by
        rcases Nat.eq_zero_or_pos (Region.ready .any ops listed).length with h | h
        · exact List.eq_nil_of_length_eq_zero h
        · rw [List.getElem?_eq_none_iff] at hnone
          have := Nat.mod_lt t h; omega
      refine ⟨_, _, _, _, _, S, μ, w, I, ?_, .refl _ _⟩
      rcases hD.next (S := S) (by simp) with ⟨i, h1, h2, h3⟩ | h1
      · exfalso
        obtain ⟨C1, io, n, hio, _⟩ := hD.facts.of i h1
        obtain ⟨o, ho, _⟩ := X.op hio
        have hlt : i < ops.size := (Array.getElem?_eq_some_iff.1 ho).1
        have : i ∈ Region.ready .any ops listed := mem_ready.2 ⟨by
          have := (hl i)
          have h4 : ¬ listed.getD i false = true := fun h => h2 (this.1 h)
          simp [hsz, hlt] at h4 ⊢; exact h4, o, ho, fun e he hb => (hl e.on).2 (h3 _ ((before_bits ops ho).1 e he hb))⟩
        rw [hrn] at this; simp at this
      · intro j hj
        rcases hD.facts.all j (by rw [hlen]; exact hj) with h | h
        · simp at h
        · exact h1 j h

theorem Rep.sameHeap (h : Rep P ng ts N0 μ β w) (hw : w'.heap = w.heap) : Rep P ng ts N0 μ β w' :=
  ⟨h.glob, h.ngn, fun i b hi => ⟨(h.blk i b hi).1, (h.blk i b hi).2.1, (h.blk i b hi).2.2.mono (fun _ _ => rfl) (h.blk i b hi).1 (Nat.le_refl _) (by rw [hw])⟩, fun i b hi hr => by rw [hw]; exact h.own i b hi hr, h.ro, h.dis, h.al, by rw [hw]; exact h.big⟩

/-- **Regions that draw their order.** -/
theorem draw_ok (hm : P.follows .mixedOrders = true) (hK : KSound P ng ts N0 K) : DrawOK P ng ts N0 K := by
  intro id ops l st fin rnd e σ σ' t' hl hvd hv μ w h hE b hr k cs
  simp only [vDraw, Bool.and_eq_true] at hvd
  obtain ⟨⟨hv1, hv2⟩, hv3⟩ := hvd
  obtain ⟨v, L, _, hD⟩ := runDraw_canon (bf := (Region.before ops).toList) hl hK st (C := []) (v0 := fun _ => undef) (e0 := e.tmps) hv hv3 (fun j => by simp) (fun i hi => by simp at hi) h hE.tm
  have D := hD.facts
  have hlen : l.length = ops.size := by rw [cOps_length hl]; simp
  have X : Cx P ng ts ops l (Region.before ops).toList e.tmps v L := ⟨hl, fun t i j h1 h2 => vDst_inj hv1 h1 h2, hv2, fun i hi => D.of i ((D.all i hi).resolve_left (by simp)), D.nf, D.uniq, D.idu⟩
  have I : Inv P ng ts N0 K l (Region.before ops).toList e.tmps fin v t' σ' L μ σ w st none [] σ L [] μ { w with drawn := w.drawn + 1 } :=
    ⟨hD, h.sameHeap rfl, ⟨Nat.le_refl _, fun _ _ => rfl, rfl, rfl, rfl, Nat.le_refl _, fun _ _ _ => rfl, fun i b h hr => .inr ⟨i, b, h, hr, rfl⟩⟩, fun i hi => by simp at hi, fun i hi => by simp at hi, fun i hi => by simp at hi, by simp, fun a ha _ => ha, fun a ha => ha,
      fun a _ hs => by simp at hs, fun a _ hs => by simp at hs, fun a _ hs => by simp at hs, fun a _ hs => by simp at hs, fun a _ b _ hs => by simp at hs, fun μ2 h2 => concL_congr (fun i hi => h2.1 i hi) _ hE.tm⟩
  obtain ⟨st', prev', C', β', L', S', μ', w', I', hS', s2⟩ := run_order X hK h.big hD hlen (b := b) (E := e) (k := k) (cs := cs) hE.dfs ops.size (w.tape w.drawn (.order b.fn id)) (Array.replicate ops.size false) I (by simp) (fun j => by
      simp [Array.getElem?_replicate]; split <;> simp) (Nat.le_trans (List.length_filter_le _ _) (by simp))
  -- none is left over
  have hst : st' = [] := by
    cases st' with
    | nil => rfl
    | cons s st' =>
      exfalso
      obtain ⟨hck, γ, β', A, L', io', rfl, hx, hio', hisE', hlt, hpos, hpv, hrun, hnx, hds⟩ := I'.ds
      have hlt : s.e < ops.size := by rw [← hlen]; rw [nthO_eq] at hio'; exact (List.getElem?_eq_some_iff.1 hio').1
      exact hpos.out (List.mem_append_right _ (I'.eS s.e (hS' _ hlt) io' hio' hisE'))
  subst hst
  obtain ⟨hck, hx, ht, hall, hlt⟩ := I'.ds
  have hA : L' = L' ++ [] := by simp
  have key : ∀ a ∈ L', a.1 ∈ S' := fun a ha => by
    obtain ⟨_, io, _, _, hio, _⟩ := X.nf a (I'.sub a ha)
    exact hS' _ (by rw [← hlen]; rw [nthO_eq] at hio; exact (List.getElem?_eq_some_iff.1 hio).1)
  have I2 := I'
  rw [hA] at I2
  obtain ⟨r1, g1, _⟩ := I2.adopted h.big hx.facts.chain key
  have htm : tm l v e.tmps S' = t' := by
    rw [ht]
    exact tm_eq_all X.hu fun j hj => ⟨fun _ => hall j hj, fun _ => hS' j (by rw [← hlen]; exact hj)⟩
  refine ⟨μ', w', r1, g1, ⟨hlt, fun d hd => Nat.lt_of_lt_of_le (hE.dfs d hd) g1.next⟩, ?_⟩
  have hsch : Region.schedule (P.follows .mixedOrders) ops (w.tape w.drawn (.order b.fn id)) = Region.linearise.go .any ops ops.size (w.tape w.drawn (.order b.fn id)) (Array.replicate ops.size false) [] := by
    simp [Region.schedule, hm, Region.linearise]
  refine Steps.head st_region_draw ?_
  rw [hsch]
  have s3 : Steps P (lone (FS b e l v e.tmps ops k μ' S' []) cs w') (lone (fr b μ' { e with tmps := t' } k) cs w') := by
    unfold FS; rw [htm]; exact .one st_region_end
  have hdfs : FS b e l v e.tmps ops k μ [] (Region.linearise.go .any ops ops.size (w.tape w.drawn (.order b.fn id)) (Array.replicate ops.size false) []) = fr b μ e (.inRegion ops (Region.linearise.go .any ops ops.size (w.tape w.drawn (.order b.fn id)) (Array.replicate ops.size false) []) :: k) := rfl
  rw [← hdfs]
  exact s2.trans s3

/-- **All calls are sound.** -/
theorem all_sound {C : Tr IFunc} (hm : P.follows .mixedOrders = true) (hC : TabOK P ng ts C) (n : Nat) : KSound P ng ts N0 (ksN C n) :=
  ksN_sound hC (fun _ hK => draw_ok hm hK) n
end
end Go.Proofs.YtjpepfgbilbcdaaGreatDoor.Ai
