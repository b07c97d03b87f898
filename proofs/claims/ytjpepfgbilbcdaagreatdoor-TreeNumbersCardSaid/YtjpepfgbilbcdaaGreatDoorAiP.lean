/- A PART OF THE PROOF THAT AN INTERPRETER OF THE PROGRAM'S FUNCTIONS IS SOUND: a step of it. -/
import Derived.Test.YtjpepfgbilbcdaaGreatDoorAiO
namespace Go.Proofs.YtjpepfgbilbcdaaGreatDoor.Ai
open Go
set_option linter.unusedSimpArgs false

section
variable {P : Program} {ng : Nat} {ts : List TypeId} {N0 : Nat} {μ μ' : Nat → Loc} {σ σ' : AW} {w w' : World} {e : List Value}

/-- a new id for a place behind a row that is there -/
theorem Rep.join (h : Rep P ng ts N0 μ σ w) {i : Nat} {b : CB} (hi : σ.heap.get i = some (.cells b)) (hro : b.ro = false) {H : Tr Blk} {nb : CB} (hnro : nb.ro = false) (hm : σ.next < most)
    (hH : ∀ k c, H.get k = some c → (k ≠ i ∧ σ.heap.get k = some c) ∨ (k = i ∧ c = .cells { b with retired := true }))
    {loc : Loc} (hloc : loc.blk = (μ i).blk) (hnal : ∀ j ∈ nb.al, j < σ.next ∧ ∀ bj, H.get j = some bj → ∃ cj, bj = .cells cj ∧ cj.retired = true ∧ cj.ro = false)
    (hos : w'.os = w.os) (htp : w'.tape = w.tape) (hout : w'.output = w.output) (hsz : w'.heap.size = w.heap.size) (hoth : ∀ j, j ≠ (μ i).blk → w'.heap[j]? = w.heap[j]?)
    (hsame : ∀ j c, H.get j = some c → isRo c = false → (μ j).blk = (μ i).blk → BRep P ng ts μ σ.next j w' c ∧ ∃ cj, c = .cells cj ∧ j ∈ nb.al ∧ cj.retired = true ∧ (μ j).sh + cj.cs.length ≤ loc.sh + nb.cs.length)
    (hb : CellsRep (upd μ σ.next loc) (σ.next + 1) σ.next nb w') :
    Rep P ng ts N0 (upd μ σ.next loc) { next := σ.next + 1, heap := H.set σ.next (.cells nb) } w' ∧ Goes μ σ w (upd μ σ.next loc) { next := σ.next + 1, heap := H.set σ.next (.cells nb) } w' := by
  have hget : ∀ k, (H.set σ.next (.cells nb)).get k = if k = σ.next then some (.cells nb) else H.get k := fun k => Tr.get_set _ _ _ _ (by unfold most at hm; omega)
  have hiown := h.own i _ hi (by simp [isRo, hro])
  have hold : ∀ k c, H.get k = some c → ∃ c0, σ.heap.get k = some c0 ∧ isRo c0 = isRo c := by
    intro k c hk
    rcases hH k c hk with ⟨_, h1⟩ | ⟨rfl, rfl⟩
    · exact ⟨c, h1, rfl⟩
    · exact ⟨_, hi, rfl⟩
  have hlt : ∀ k c, H.get k = some c → k < σ.next ∧ k < most := by
    intro k c hk
    obtain ⟨c0, h1, _⟩ := hold k c hk
    exact ⟨(h.blk k c0 h1).1, (h.blk k c0 h1).2.1⟩
  have hagr : ∀ k, k < σ.next → upd μ σ.next loc k = μ k := fun k hk => upd_ne _ _ (by omega)
  refine ⟨⟨?_, ?_, ?_, ?_, ?_, ?_, ?_, by rw [hsz]; exact h.big⟩, ⟨by simp, hagr, hos, htp, hout, by omega, ?_, ?_⟩⟩
  · exact ⟨fun g hg => by rw [hagr g (Nat.lt_of_lt_of_le hg h.ngn)]; exact h.glob.out g hg⟩
  · have := h.ngn; simp; omega
  · intro k c hk
    rw [hget] at hk
    split at hk
    · rename_i hks; subst hks; simp at hk; subst hk
      exact ⟨by simp, hm, hb⟩
    · obtain ⟨h1, h2⟩ := hlt k c hk
      refine ⟨by simp; omega, h2, ?_⟩
      by_cases hB : (μ k).blk = (μ i).blk
      · cases hr : isRo c with
        | false =>
          have := (hsame k c hk hr hB).1
          exact this.mono hagr h1 (by simp) rfl
        | true =>
          obtain ⟨c0, h3, h4⟩ := hold k c hk
          have := h.ro k c0 h3 (h4.trans hr)
          omega
      · rcases hH k c hk with ⟨_, h3⟩ | ⟨rfl, _⟩
        · exact (h.blk k c h3).2.2.mono hagr h1 (by simp) (hoth _ hB)
        · exact absurd rfl hB
  · intro k c hk hr
    rw [hget] at hk
    split at hk
    · rename_i hks; subst hks
      rw [upd_same, hloc, hsz]; exact hiown
    · obtain ⟨c0, h3, h4⟩ := hold k c hk
      rw [hagr k (hlt k c hk).1, hsz]
      exact h.own k c0 h3 (h4.trans hr)
  · intro k c hk hr
    rw [hget] at hk
    split at hk
    · simp at hk; subst hk; simp [isRo, hnro] at hr
    · obtain ⟨c0, h3, h4⟩ := hold k c hk
      rw [hagr k (hlt k c hk).1]
      exact h.ro k c0 h3 (h4.trans hr)
  · intro k j bk bj hk hj hrk hrj hkj he
    rw [hget] at hk hj
    split at hk
    · rename_i hks
      split at hj
      · omega
      · have := (hlt j bj hj).1; omega
    · split at hj
      · rename_i hjs; subst hjs
        simp at hj; subst hj
        rw [upd_same, hagr k (hlt k bk hk).1, hloc] at he
        obtain ⟨ck, e1, e2, e3, e4⟩ := (hsame k bk hk hrk he).2
        refine ⟨ck, nb, e1, rfl, e2, e3, ?_⟩
        rw [upd_same, hagr k (hlt k bk hk).1]
        exact e4
      · rw [hagr k (hlt k bk hk).1, hagr j (hlt j bj hj).1] at he ⊢
        obtain ⟨ck0, g1, g2⟩ := hold k bk hk
        obtain ⟨cj0, g3, g4⟩ := hold j bj hj
        obtain ⟨ci, cj, e1, e2, e3, e4, e5⟩ := h.dis k j ck0 cj0 g1 g3 (g2.trans hrk) (g4.trans hrj) hkj he
        subst e1 e2
        rcases hH k bk hk with ⟨n1, h1⟩ | ⟨rfl, rfl⟩
        · rw [h1] at g1; simp at g1; subst g1
          rcases hH j bj hj with ⟨n2, h2⟩ | ⟨rfl, rfl⟩
          · rw [h2] at g3; simp at g3; subst g3
            exact ⟨ci, cj, rfl, rfl, e3, e4, e5⟩
          · rw [hi] at g3; simp at g3; subst g3
            exact ⟨ci, _, rfl, rfl, e3, e4, e5⟩
        · rw [hi] at g1; simp at g1; subst g1
          rcases hH j bj hj with ⟨n2, h2⟩ | ⟨rfl, rfl⟩
          · rw [h2] at g3; simp at g3; subst g3
            exact ⟨_, cj, rfl, rfl, e3, rfl, e5⟩
          · omega
  · intro j cj hj k hk
    rw [hget] at hj
    split at hj
    · rename_i hjs; subst hjs
      simp at hj; subst hj
      obtain ⟨h1, h2⟩ := hnal k hk
      refine ⟨h1, fun bk hbk => ?_⟩
      rw [hget, if_neg (by omega)] at hbk
      exact h2 bk hbk
    · obtain ⟨c0, g1, g2⟩ := hold j _ hj
      have hal : ∃ c1, σ.heap.get j = some (.cells c1) ∧ c1.al = cj.al := by
        rcases hH j _ hj with ⟨_, h3⟩ | ⟨rfl, h3⟩
        · exact ⟨cj, h3, rfl⟩
        · simp at h3; subst h3; exact ⟨b, hi, rfl⟩
      obtain ⟨c1, hc1, hc2⟩ := hal
      obtain ⟨h1, h2⟩ := h.al j c1 hc1 k (by rw [hc2]; exact hk)
      refine ⟨h1, fun bk hbk => ?_⟩
      have := (hlt j _ hj).1
      rw [hget, if_neg (by omega)] at hbk
      rcases hH k bk hbk with ⟨_, h3⟩ | ⟨rfl, h3⟩
      · exact h2 bk h3
      · exact ⟨_, h3, rfl, hro⟩
  · intro B hB hn
    exact hoth B fun he => hn i _ hi (by simp [isRo, hro]) he.symm
  · intro k c hk hr
    rw [hget] at hk
    right
    split at hk
    · rename_i hks; subst hks
      exact ⟨i, _, hi, by simp [isRo, hro], by rw [upd_same, hloc]⟩
    · obtain ⟨c0, h3, h4⟩ := hold k c hk
      exact ⟨k, c0, h3, h4.trans hr, by rw [hagr k (hlt k c hk).1]⟩

/-- a block of one's own that is said to be read alone from now on; others that are forgotten -/
theorem Rep.less (h : Rep P ng ts N0 μ σ w) {i : Nat} {b : CB} (hi : σ.heap.get i = some (.cells b)) (hro : b.ro = false) {H : Tr Blk}
    (hH : ∀ k c, H.get k = some c → (k ≠ i ∧ σ.heap.get k = some c) ∨ (k = i ∧ c = .cells { b with retired := true })) :
    Rep P ng ts N0 μ { σ with heap := H } w ∧ Goes μ σ w μ { σ with heap := H } w := by
  have hold : ∀ k c, H.get k = some c → ∃ c0, σ.heap.get k = some c0 ∧ isRo c0 = isRo c := by
    intro k c hk
    rcases hH k c hk with ⟨_, h1⟩ | ⟨rfl, rfl⟩
    · exact ⟨c, h1, rfl⟩
    · exact ⟨_, hi, rfl⟩
  refine ⟨⟨h.glob, h.ngn, ?_, ?_, ?_, ?_, ?_, h.big⟩, ⟨Nat.le_refl _, fun _ _ => rfl, rfl, rfl, rfl, Nat.le_refl _, fun _ _ _ => rfl, ?_⟩⟩
  · intro k c hk
    rcases hH k c hk with ⟨_, h1⟩ | ⟨rfl, rfl⟩
    · exact h.blk k c h1
    · obtain ⟨g1, g2, g3⟩ := h.blk k _ hi
      have g3 : CellsRep μ σ.next k b w := g3
      exact ⟨g1, g2, (⟨g3.l, g3.ex, g3.sh0, g3.fz, g3.cell⟩ : CellsRep μ σ.next k { b with retired := true } w)⟩
  · intro k c hk hr
    obtain ⟨c0, h3, h4⟩ := hold k c hk
    exact h.own k c0 h3 (h4.trans hr)
  · intro k c hk hr
    obtain ⟨c0, h3, h4⟩ := hold k c hk
    exact h.ro k c0 h3 (h4.trans hr)
  · intro k j bk bj hk hj hrk hrj hkj he
    obtain ⟨ck0, g1, g2⟩ := hold k bk hk
    obtain ⟨cj0, g3, g4⟩ := hold j bj hj
    obtain ⟨ci, cj, e1, e2, e3, e4, e5⟩ := h.dis k j ck0 cj0 g1 g3 (g2.trans hrk) (g4.trans hrj) hkj he
    subst e1 e2
    rcases hH k bk hk with ⟨n1, h1⟩ | ⟨rfl, rfl⟩
    · rw [h1] at g1; simp at g1; subst g1
      rcases hH j bj hj with ⟨n2, h2⟩ | ⟨rfl, rfl⟩
      · rw [h2] at g3; simp at g3; subst g3
        exact ⟨ci, cj, rfl, rfl, e3, e4, e5⟩
      · rw [hi] at g3; simp at g3; subst g3
        exact ⟨ci, _, rfl, rfl, e3, e4, e5⟩
    · rw [hi] at g1; simp at g1; subst g1
      rcases hH j bj hj with ⟨n2, h2⟩ | ⟨rfl, rfl⟩
      · rw [h2] at g3; simp at g3; subst g3
        exact ⟨_, cj, rfl, rfl, e3, rfl, e5⟩
      · omega
  · intro j cj hj k hk
    have hal : ∃ c1, σ.heap.get j = some (.cells c1) ∧ c1.al = cj.al := by
      rcases hH j _ hj with ⟨_, h3⟩ | ⟨rfl, h3⟩
      · exact ⟨cj, h3, rfl⟩
      · simp at h3; subst h3; exact ⟨b, hi, rfl⟩
    obtain ⟨c1, hc1, hc2⟩ := hal
    obtain ⟨h1, h2⟩ := h.al j c1 hc1 k (by rw [hc2]; exact hk)
    refine ⟨h1, fun bk hbk => ?_⟩
    rcases hH k bk hbk with ⟨_, h3⟩ | ⟨rfl, h3⟩
    · exact h2 bk h3
    · exact ⟨_, h3, rfl, hro⟩
  · intro k c hk hr
    obtain ⟨c0, h3, h4⟩ := hold k c hk
    exact .inr ⟨k, c0, h3, h4.trans hr, rfl⟩

/-! ### append -/
theorem growBy_le (m : Nat) : ∀ (r c : Nat), c ≤ 2 * m + 768 → Builtin.growBy m r c ≤ 2 * m + 768
  | 0, c, h => h
  | r + 1, c, h => by
    unfold Builtin.growBy
    split
    · exact h
    · exact growBy_le m r _ (by omega)
theorem nextslicecap_le {m c : Nat} (h : c < m) : Builtin.nextslicecap m c ≤ 2 * m + 768 := by
  unfold Builtin.nextslicecap
  split
  · omega
  · split
    · omega
    · exact growBy_le m 4 c (by omega)
/-- the ways of append, by what it finds -/
structure AppIn (P : Program) (t el u : TypeId) (i : TypeInfo) (z : List Value) (X : Value) (n : Nat) (new : List Value) (w : World) : Prop where
  ht : P.underlying t = some (.slice el)
  hi : P.info? el = some i
  hz : zeroCells P el = some z
  z0 : z.length ≠ 0
  b0 : i.bytes ≠ 0
  hu : P.underlying u = some .string ∨ ∃ e', P.underlying u = some (.slice e')
  hx : ∀ w1, (Builtin.lenOf X).run P w1 = .ok n w1
  src : ∀ w1, w1.heap = w.heap → (Builtin.firstCells z.length n X).run P w1 = .ok ⟨new⟩ w1
theorem append_fits {t el u ty : TypeId} {i : TypeInfo} {z : List Value} {X : Value} {n : Nat} {new : List Value} (h : AppIn P t el u i z X n new w) {base : Option Addr} {len cap : Nat} (hf : len + n ≤ cap)
    (hst : match base with | some a => (storeCells (a.add (len * z.length)) new).run P w = .ok () w' | none => w' = w) :
    (Builtin.append_ #[t, u] ty #[.slice base len cap, X]).run P w = .ok (.slice base (len + n) cap) w' := by
  obtain ⟨_, _, _, hsz, _, _⟩ := zeroCells_some h.hz
  have hsrc := h.src w rfl
  unfold Builtin.append_
  cases base with
  | none =>
    simp only at hst; subst hst
    rcases h.hu with hd | ⟨e', hd⟩ <;> simp [run_und h.ht, run_und hd, run_sz hsz, h.hx, hf, hsrc]
  | some a =>
    simp only at hst
    rcases h.hu with hd | ⟨e', hd⟩ <;> simp [run_und h.ht, run_und hd, run_sz hsz, h.hx, hf, hsrc, hst]
theorem append_grows {t el u ty : TypeId} {i : TypeInfo} {z : List Value} {X : Value} {n : Nat} {new : List Value} (h : AppIn P t el u i z X n new w) {base : Option Addr} {len cap : Nat} {old : List Value} (hf : ¬ len + n ≤ cap)
    (hb : (2 * (len + n) + 768) * i.bytes ≤ 140737488355328) (hold : ∀ w1, w1.heap = w.heap → (Builtin.firstCells z.length len (.slice base len cap)).run P w1 = .ok ⟨old⟩ w1) :
    ∃ nc w1, len + n ≤ nc ∧ w1.heap = w.heap.push (.cells (old ++ new ++ (List.replicate (nc - (len + n)) z).flatten).toArray el) ∧ w1.os = w.os ∧ w1.tape = w.tape ∧ w1.output = w.output ∧
      (Builtin.append_ #[t, u] ty #[.slice base len cap, X]).run P w = .ok (.slice (some ⟨w.heap.size, 0, none⟩) (len + n) nc) w1 := by
  obtain ⟨_, _, _, hsz, hz0, _⟩ := zeroCells_some h.hz
  obtain ⟨nc, hncd⟩ : ∃ nc, (Question.appendCap (len + n) cap el).cut (w.tape w.drawn (Question.appendCap (len + n) cap el)) = nc := ⟨_, rfl⟩
  have hnc : len + n ≤ nc := by rw [← hncd]; show _ ≤ len + n + _; omega
  have hfor : (Question.appendCap (len + n) cap el).forced = false := rfl
  obtain ⟨zv, hzr, hzc⟩ := zeroCells_run h.hz w.drew
  have hsrc := h.src w.drew rfl
  have hol := hold w.drew rfl
  have hz : Builtin.zeroCells zv.cells (nc - (len + n)) = ((List.replicate (nc - (len + n)) z).flatten).toArray := by
    unfold Builtin.zeroCells
    rw [hzc]
    simpa using zeros_eq z (nc - (len + n)) h.z0
  refine ⟨nc, w.drew.alloc (.cells (old ++ new ++ (List.replicate (nc - (len + n)) z).flatten).toArray el), hnc, rfl, rfl, rfl, rfl, ?_⟩
  have hnsc : ¬ (Builtin.nextslicecap (len + n) cap * i.bytes > 281474976710656) := by
    have h1 := nextslicecap_le (m := len + n) (c := cap) (by omega)
    have h2 : Builtin.nextslicecap (len + n) cap * i.bytes ≤ (2 * (len + n) + 768) * i.bytes := Nat.mul_le_mul_right _ h1
    omega
  have hb0 := h.b0
  unfold Builtin.append_
  rcases h.hu with hd | ⟨e', hd⟩ <;> simp [run_und h.ht, run_und hd, run_sz hsz, run_info h.hi, h.hx, hf, hnsc, hb0, hfor, hncd, hsrc, hol, hzr, hz, newRow]
end
end Go.Proofs.YtjpepfgbilbcdaaGreatDoor.Ai
