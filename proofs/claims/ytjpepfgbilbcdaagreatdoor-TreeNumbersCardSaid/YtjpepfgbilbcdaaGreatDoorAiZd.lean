/- A PART OF THE PROOF THAT AN INTERPRETER OF THE PROGRAM'S FUNCTIONS IS SOUND: a step of it. -/
import Derived.Test.YtjpepfgbilbcdaaGreatDoorAiZc
namespace Go.Proofs.YtjpepfgbilbcdaaGreatDoor.Ai
open Go
set_option linter.unusedSimpArgs false
set_option linter.unusedSectionVars false

section
variable {P : Program} {ng : Nat} {ts : List TypeId} {N0 : Nat} {K : Ks} {ops : Array Oper} {l : List IOper} {bf : List Nat} {e0 : List Value} {fin : DStage} {v : Nat → Value} {β : AW} {prev nx : Option Nat}

def Chain : AW → List NEnt → AW → Prop
  | σ, [], σ' => σ' = σ
  | σ, a :: A, σ' => a.2.1 = σ.next ∧ σ.next < most ∧ Chain (σ.add a.2.2) A σ'
/-- a block that is made -/
def NF (l : List IOper) (bf : List Nat) (e0 : List Value) (v : Nat → Value) (a : NEnt) : Prop :=
  ∃ C io q f, nthO l a.1 = some io ∧ Pos bf a.1 C ∧ io.op = .n q ∧ io.wanted (tm l v e0 C) = true ∧ evN (tm l v e0 C) q = some (a.2.2, f) ∧ v a.1 = f a.2.1 ∧ ltL a.2.1 (tm l v e0 C) = true
/-- what is known of an operation in whatever order -/
def OF (l : List IOper) (bf : List Nat) (e0 : List Value) (v : Nat → Value) (L : List NEnt) (i : Nat) : Prop :=
  ∃ C io n, nthO l i = some io ∧ Pos bf i C ∧ ltL n (tm l v e0 C) = true ∧
    ((io.wanted (tm l v e0 C) = false ∧ v i = undef) ∨
     (io.wanted (tm l v e0 C) = true ∧ ((∃ q, io.op = .p q ∧ evP (tm l v e0 C) q = some (v i)) ∨ (∃ q, io.op = .r q) ∨ (∃ q id b, io.op = .n q ∧ (i, id, b) ∈ L) ∨ isE io.op = true)))
theorem OF.mono {L L' : List NEnt} {i : Nat} (h : OF l bf e0 v L i) (hs : ∀ a ∈ L, a ∈ L') : OF l bf e0 v L' i := by
  obtain ⟨C, io, n, h1, h2, h3, h4⟩ := h
  refine ⟨C, io, n, h1, h2, h3, ?_⟩
  rcases h4 with h4 | ⟨hw, h4⟩
  · exact .inl h4
  · refine .inr ⟨hw, ?_⟩
    rcases h4 with h4 | h4 | ⟨q, id, b, h5, h6⟩ | h4
    · exact .inl h4
    · exact .inr (.inl h4)
    · exact .inr (.inr (.inl ⟨q, id, b, h5, hs _ h6⟩))
    · exact .inr (.inr (.inr h4))

structure XF (l : List IOper) (bf : List Nat) (e0 : List Value) (v : Nat → Value) (β : AW) (prev nx : Option Nat) (xs C : List Nat) (σ : AW) (A : List NEnt) (σ' : AW) : Prop where
  chain : Chain σ A σ'
  nf : ∀ a ∈ A, NF l bf e0 v a
  of : ∀ i ∈ xs, OF l bf e0 v A i
  key : ∀ a ∈ A, a.1 ∈ xs ∧ a.1 ∉ C
  uniq : ∀ a ∈ A, ∀ b ∈ A, a.1 = b.1 → a = b
  ids : ∀ a ∈ A, σ.next ≤ a.2.1 ∧ a.2.1 < σ'.next
  nxt : σ.next ≤ σ'.next
  ne : ∀ i ∈ xs, ∀ io, nthO l i = some io → isE io.op = false
  rp : ∀ i ∈ xs, ∀ io, nthO l i = some io → isR io.op = true → ∀ p, prev = some p → (nthN bf i).testBit p = true
  np : ∀ a ∈ A, ∀ e, nx = some e → (nthN bf e).testBit a.1 = true
  rd : ∀ i ∈ xs, ∀ io, nthO l i = some io → isR io.op = true → ∃ C' n, Pos bf i C' ∧ σ.next ≤ n ∧ ltL n (tm l v e0 C') = true ∧ (io.wanted (tm l v e0 C') = true → ∃ q, io.op = .r q ∧ evR (tm l v e0 C') β q = some (v i))

theorem XS.facts : ∀ {xs C : List Nat} {σ σ' : AW} {A : List NEnt}, XS l bf e0 v β prev nx xs C σ A σ' → XF l bf e0 v β prev nx xs C σ A σ' := by
  intro xs
  induction xs with
  | nil =>
    rintro C σ σ' A ⟨rfl, rfl⟩
    exact ⟨rfl, by simp, by simp, by simp, by simp, by simp, Nat.le_refl _, by simp, by simp, by simp, by simp⟩
  | cons i xs ih =>
    intro C σ σ' A h
    obtain ⟨io, hio, hlt, hpos, hE, hR, hN, h⟩ := h
    -- the cases without a block
    have plain : XS l bf e0 v β prev nx xs (i :: C) σ A σ' → OF l bf e0 v A i → (isR io.op = true → io.wanted (tm l v e0 C) = true → ∃ q, io.op = .r q ∧ evR (tm l v e0 C) β q = some (v i)) → XF l bf e0 v β prev nx (i :: xs) C σ A σ' := by
      intro hx hof hrd
      have f := ih hx
      refine ⟨f.chain, f.nf, ?_, fun a ha => ⟨List.mem_cons_of_mem _ (f.key a ha).1, fun hc => (f.key a ha).2 (List.mem_cons_of_mem _ hc)⟩, f.uniq, f.ids, f.nxt, ?_, ?_, f.np, ?_⟩
      · intro j hj
        rcases List.mem_cons.1 hj with rfl | hj
        · exact hof
        · exact f.of j hj
      · intro j hj io' hio'
        rcases List.mem_cons.1 hj with rfl | hj
        · rw [hio] at hio'; simp at hio'; subst hio'; exact hE
        · exact f.ne j hj io' hio'
      · intro j hj io' hio'
        rcases List.mem_cons.1 hj with rfl | hj
        · rw [hio] at hio'; simp at hio'; subst hio'; exact hR
        · exact f.rp j hj io' hio'
      · intro j hj io' hio' hr
        rcases List.mem_cons.1 hj with rfl | hj
        · rw [hio] at hio'; simp at hio'; subst hio'
          exact ⟨C, σ.next, hpos, Nat.le_refl _, hlt, hrd hr⟩
        · exact f.rd j hj io' hio' hr
    rcases h with ⟨hw, hv, h⟩ | ⟨hw, q, hq, hv, h⟩ | ⟨hw, q, hq, hv, h⟩ | ⟨hw, q, b, f, A', hq, rfl, hev, hv, hm, h⟩
    · exact plain h ⟨C, io, σ.next, hio, hpos, hlt, .inl ⟨hw, hv⟩⟩ (fun _ hw' => by rw [hw] at hw'; simp at hw')
    · exact plain h ⟨C, io, σ.next, hio, hpos, hlt, .inr ⟨hw, .inl ⟨q, hq, hv⟩⟩⟩ (fun hr => by rw [hq] at hr; simp [isR] at hr)
    · exact plain h ⟨C, io, σ.next, hio, hpos, hlt, .inr ⟨hw, .inr (.inl ⟨q, hq⟩)⟩⟩ (fun _ _ => ⟨q, hq, hv⟩)
    · have g := ih h
      have hadd : (σ.add b).next = σ.next + 1 := rfl
      refine ⟨⟨rfl, hm, g.chain⟩, ?_, ?_, ?_, ?_, ?_, ?_, ?_, ?_, ?_, ?_⟩
      · intro a ha
        rcases List.mem_cons.1 ha with rfl | ha
        · exact ⟨C, io, q, f, hio, hpos, hq, hw, hev, hv, hlt⟩
        · exact g.nf a ha
      · intro j hj
        rcases List.mem_cons.1 hj with rfl | hj
        · exact ⟨C, io, σ.next, hio, hpos, hlt, .inr ⟨hw, .inr (.inr (.inl ⟨q, σ.next, b, hq, by simp⟩))⟩⟩
        · exact (g.of j hj).mono fun a ha => List.mem_cons_of_mem _ ha
      · intro a ha
        rcases List.mem_cons.1 ha with rfl | ha
        · exact ⟨by simp, hpos.out⟩
        · exact ⟨List.mem_cons_of_mem _ (g.key a ha).1, fun hc => (g.key a ha).2 (List.mem_cons_of_mem _ hc)⟩
      · intro a ha c hc he
        rcases List.mem_cons.1 ha with rfl | ha
        · rcases List.mem_cons.1 hc with rfl | hc
          · rfl
          · exact absurd (by rw [← he]; simp) (g.key c hc).2
        · rcases List.mem_cons.1 hc with rfl | hc
          · exact absurd (by rw [he]; simp) (g.key a ha).2
          · exact g.uniq a ha c hc he
      · intro a ha
        have := g.nxt
        rcases List.mem_cons.1 ha with rfl | ha
        · simp only; omega
        · have := g.ids a ha; omega
      · have := g.nxt; omega
      · intro j hj io' hio'
        rcases List.mem_cons.1 hj with rfl | hj
        · rw [hio] at hio'; simp at hio'; subst hio'; exact hE
        · exact g.ne j hj io' hio'
      · intro j hj io' hio'
        rcases List.mem_cons.1 hj with rfl | hj
        · rw [hio] at hio'; simp at hio'; subst hio'; exact hR
        · exact g.rp j hj io' hio'
      · intro a ha e he
        rcases List.mem_cons.1 ha with rfl | ha
        · exact hN (by rw [hq]; rfl) e he
        · exact g.np a ha e he
      · intro j hj io' hio' hr
        rcases List.mem_cons.1 hj with rfl | hj
        · rw [hio] at hio'; simp at hio'; subst hio'
          rw [hq] at hr; simp [isR] at hr
        · obtain ⟨C', n, q1, q2, q3⟩ := g.rd j hj io' hio' hr
          exact ⟨C', n, q1, by omega, q3⟩

def opsOf (fin : DStage) : List DStage → List Nat
  | [] => fin.xs
  | s :: st => s.xs ++ s.e :: opsOf fin st

structure DF (l : List IOper) (bf : List Nat) (e0 : List Value) (fin : DStage) (v : Nat → Value) (st : List DStage) (prev : Option Nat) (C : List Nat) (β : AW) (L : List NEnt) : Prop where
  nf : ∀ a ∈ L, NF l bf e0 v a
  of : ∀ i ∈ opsOf fin st, OF l bf e0 v L i
  key : ∀ a ∈ L, a.1 ∉ C
  uniq : ∀ a ∈ L, ∀ b ∈ L, a.1 = b.1 → a = b
  ids : ∀ a ∈ L, β.next ≤ a.2.1
  idu : ∀ a ∈ L, ∀ b ∈ L, a.2.1 = b.2.1 → a = b
  all : ∀ j, j < l.length → j ∈ C ∨ j ∈ opsOf fin st
  late : ∀ p, prev = some p → ∀ i ∈ opsOf fin st, ∀ io, nthO l i = some io → isE io.op = true ∨ isR io.op = true → ∀ S, Clo bf S → (∀ j, (nthN bf i).testBit j = true → j ∈ S) → p ∈ S

theorem Chain.idu : ∀ {A : List NEnt} {σ σ' : AW}, Chain σ A σ' → (∀ a ∈ A, σ.next ≤ a.2.1 ∧ a.2.1 < σ'.next) ∧ (∀ a ∈ A, ∀ b ∈ A, a.2.1 = b.2.1 → a = b) ∧ σ.next ≤ σ'.next
  | [], σ, σ', h => by simp only [Chain] at h; subst h; simp
  | a :: A, σ, σ', h => by
    obtain ⟨h1, h2, h3⟩ := h
    obtain ⟨g1, g2, g3⟩ := Chain.idu h3
    have hadd : (σ.add a.2.2).next = σ.next + 1 := rfl
    rw [hadd] at g1 g3
    refine ⟨?_, ?_, by omega⟩
    · intro c hc
      rcases List.mem_cons.1 hc with rfl | hc
      · omega
      · have := g1 c hc; omega
    · intro c hc d hd he
      rcases List.mem_cons.1 hc with h4 | h4
      · rcases List.mem_cons.1 hd with h5 | h5
        · rw [h4, h5]
        · have := g1 d h5; rw [h4] at he; omega
      · rcases List.mem_cons.1 hd with h5 | h5
        · have := g1 c h4; rw [h5] at he; omega
        · exact g2 c h4 d h5 he

theorem DS.facts {t' : List Value} {σ' : AW} : ∀ {st : List DStage} {prev : Option Nat} {C : List Nat} {β : AW} {L : List NEnt}, DS l bf e0 K fin v t' σ' st prev C β L → DF l bf e0 fin v st prev C β L := by
  intro st
  induction st with
  | nil =>
    rintro prev C β L ⟨hck, hx, ht, hall, hlt⟩
    have f := hx.facts
    refine ⟨f.nf, f.of, fun a ha => (f.key a ha).2, f.uniq, fun a ha => (f.ids a ha).1, f.chain.idu.2.1, ?_, ?_⟩
    · intro j hj
      rcases List.mem_append.1 (hall j hj) with h | h
      · exact .inr (by simpa [opsOf] using h)
      · exact .inl h
    · intro p hp i hi io hio hk S hS hb
      rcases hk with hk | hk
      · rw [f.ne i hi io hio] at hk; simp at hk
      · exact hb p (f.rp i hi io hio hk p hp)
  | cons s st ih =>
    rintro prev C β L ⟨hck, γ, β', A, L', io, rfl, hx, hio, hE, hlt, hpos, hpv, hrun, hnx, hds⟩
    have f := hx.facts
    have g := ih hds
    have hgC : ∀ a ∈ L', a.1 ∉ s.xs.reverse ++ C ∧ a.1 ≠ s.e := fun a ha => ⟨fun hc => g.key a ha (List.mem_cons_of_mem _ hc), fun hc => g.key a ha (by simp [hc])⟩
    refine ⟨?_, ?_, ?_, ?_, ?_, ?_, ?_, ?_⟩
    · intro a ha
      rcases List.mem_append.1 ha with ha | ha
      · exact f.nf a ha
      · exact g.nf a ha
    · intro i hi
      rcases List.mem_append.1 hi with hi | hi
      · exact (f.of i hi).mono fun a ha => List.mem_append_left _ ha
      · rcases List.mem_cons.1 hi with rfl | hi
        · refine ⟨_, io, γ.next, hio, hpos, hlt, ?_⟩
          rcases hrun with ⟨hw, hv, _⟩ | ⟨hw, q, hq, hv⟩
          · exact .inl ⟨hw, hv⟩
          · exact .inr ⟨hw, .inr (.inr (.inr hE))⟩
        · exact (g.of i hi).mono fun a ha => List.mem_append_right _ ha
    · intro a ha
      rcases List.mem_append.1 ha with ha | ha
      · exact (f.key a ha).2
      · exact fun hc => (hgC a ha).1 (List.mem_append_right _ hc)
    · intro a ha c hc he
      rcases List.mem_append.1 ha with ha | ha <;> rcases List.mem_append.1 hc with hc | hc
      · exact f.uniq a ha c hc he
      · exact absurd (List.mem_append_left _ (by rw [← he]; simpa using (f.key a ha).1)) (hgC c hc).1
      · exact absurd (List.mem_append_left _ (by rw [he]; simpa using (f.key c hc).1)) (hgC a ha).1
      · exact g.uniq a ha c hc he
    · intro a ha
      have h1 := f.nxt
      rcases List.mem_append.1 ha with ha | ha
      · exact (f.ids a ha).1
      · have := g.ids a ha; omega
    · intro a ha c hc he
      rcases List.mem_append.1 ha with ha | ha <;> rcases List.mem_append.1 hc with hc | hc
      · exact f.chain.idu.2.1 a ha c hc he
      · have := (f.ids a ha).2; have := g.ids c hc; omega
      · have := (f.ids c hc).2; have := g.ids a ha; omega
      · exact g.idu a ha c hc he
    · intro j hj
      rcases g.all j hj with h | h
      · rcases List.mem_cons.1 h with rfl | h
        · exact .inr (by simp [opsOf])
        · rcases List.mem_append.1 h with h | h
          · exact .inr (by simp only [opsOf]; exact List.mem_append_left _ (by simpa using h))
          · exact .inl h
      · exact .inr (by simp only [opsOf]; exact List.mem_append_right _ (List.mem_cons_of_mem _ h))
    · intro p hp i hi io' hio' hk S hS hb
      rcases List.mem_append.1 hi with hi | hi
      · rcases hk with hk | hk
        · rw [f.ne i hi io' hio'] at hk; simp at hk
        · exact hb p (f.rp i hi io' hio' hk p hp)
      · rcases List.mem_cons.1 hi with rfl | hi
        · exact hb p (hpv p hp)
        · have := g.late s.e rfl i hi io' hio' hk S hS hb
          exact hS s.e this p (hpv p hp)
end
end Go.Proofs.YtjpepfgbilbcdaaGreatDoor.Ai
