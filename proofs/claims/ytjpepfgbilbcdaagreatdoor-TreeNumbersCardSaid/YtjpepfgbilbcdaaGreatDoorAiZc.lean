/- A PART OF THE PROOF THAT AN INTERPRETER OF THE PROGRAM'S FUNCTIONS IS SOUND: a step of it. -/
import Derived.Test.YtjpepfgbilbcdaaGreatDoorAiZb
namespace Go.Proofs.YtjpepfgbilbcdaaGreatDoor.Ai
open Go
set_option linter.unusedSimpArgs false
set_option linter.unusedSectionVars false

/-! ### the canonical run of a region that draws: what it comes to -/
def Clo (bf : List Nat) (S : List Nat) : Prop := ∀ i ∈ S, ∀ j, (nthN bf i).testBit j = true → j ∈ S
structure Pos (bf : List Nat) (i : Nat) (C : List Nat) : Prop where
  clo : Clo bf C
  ahead : ∀ j, (nthN bf i).testBit j = true → j ∈ C
  out : i ∉ C
theorem Pos.next {bf : List Nat} {i : Nat} {C : List Nat} (h : Pos bf i C) : Clo bf (i :: C) := by
  intro k hk j hj
  rcases List.mem_cons.1 hk with rfl | hk
  · exact List.mem_cons_of_mem _ (h.ahead j hj)
  · exact List.mem_cons_of_mem _ (h.clo k hk j hj)

abbrev NEnt := Nat × Nat × Blk
def AW.add (σ : AW) (b : Blk) : AW := { next := σ.next + 1, heap := σ.heap.set σ.next b }

section
variable (l : List IOper) (bf : List Nat) (e0 : List Value) (K : Ks) (fin : DStage)

def XS (v : Nat → Value) (β : AW) (prev nx : Option Nat) : List Nat → List Nat → AW → List NEnt → AW → Prop
  | [], _, σ, A, σ' => A = [] ∧ σ' = σ
  | i :: xs, C, σ, A, σ' => ∃ io, nthO l i = some io ∧ ltL σ.next (tm l v e0 C) = true ∧ Pos bf i C ∧ isE io.op = false ∧
      (isR io.op = true → ∀ p, prev = some p → (nthN bf i).testBit p = true) ∧ (isN io.op = true → ∀ e, nx = some e → (nthN bf e).testBit i = true) ∧
      ((io.wanted (tm l v e0 C) = false ∧ v i = undef ∧ XS v β prev nx xs (i :: C) σ A σ') ∨
       (io.wanted (tm l v e0 C) = true ∧ ∃ q, io.op = .p q ∧ evP (tm l v e0 C) q = some (v i) ∧ XS v β prev nx xs (i :: C) σ A σ') ∨
       (io.wanted (tm l v e0 C) = true ∧ ∃ q, io.op = .r q ∧ evR (tm l v e0 C) β q = some (v i) ∧ XS v β prev nx xs (i :: C) σ A σ') ∨
       (io.wanted (tm l v e0 C) = true ∧ ∃ q b f A', io.op = .n q ∧ A = (i, σ.next, b) :: A' ∧ evN (tm l v e0 C) q = some (b, f) ∧ v i = f σ.next ∧ σ.next < most ∧ XS v β prev nx xs (i :: C) (σ.add b) A' σ'))

structure CK (v : Nat → Value) (β : AW) (prev : Option Nat) (chk : List Nat) (C : List Nat) : Prop where
  lt : ltL β.next (tm l v e0 C) = true
  run : chkR l (tm l v e0 C) β chk = true
  clo : Clo bf C
  all : ∀ i io, nthO l i = some io → i ∈ C → isR io.op = true → i ∈ chk ∨ ∃ p, prev = some p ∧ (nthN bf p).testBit i = true

def DS (v : Nat → Value) (t' : List Value) (σ' : AW) : List DStage → Option Nat → List Nat → AW → List NEnt → Prop
  | [], prev, C, β, L => CK l bf e0 v β prev fin.chk C ∧ XS l bf e0 v β prev none fin.xs C β L σ' ∧ t' = tm l v e0 (fin.xs.reverse ++ C) ∧ (∀ j, j < l.length → j ∈ fin.xs.reverse ++ C) ∧ ltL σ'.next t' = true
  | s :: st, prev, C, β, L => CK l bf e0 v β prev s.chk C ∧ ∃ γ β' A L' io, L = A ++ L' ∧ XS l bf e0 v β prev (some s.e) s.xs C β A γ ∧ nthO l s.e = some io ∧ isE io.op = true ∧
      ltL γ.next (tm l v e0 (s.xs.reverse ++ C)) = true ∧ Pos bf s.e (s.xs.reverse ++ C) ∧ (∀ p, prev = some p → (nthN bf s.e).testBit p = true) ∧
      ((io.wanted (tm l v e0 (s.xs.reverse ++ C)) = false ∧ v s.e = undef ∧ β' = γ) ∨
       (io.wanted (tm l v e0 (s.xs.reverse ++ C)) = true ∧ ∃ q, io.op = .e q ∧ runE K (tm l v e0 (s.xs.reverse ++ C)) γ q = some (.ret (v s.e), β'))) ∧ γ.next ≤ β'.next ∧
      DS v t' σ' st (some s.e) (s.e :: (s.xs.reverse ++ C)) β' L'
end

section
variable {P : Program} {ng : Nat} {ts : List TypeId} {N0 : Nat} {K : Ks} {ops : Array Oper} {l : List IOper} {bf : List Nat} {e0 : List Value} {fin : DStage}

theorem cOps_get : ∀ {os : List Oper} {l : List IOper}, cOps P ng ts ops os = some l → ∀ i io, nthO l i = some io → ∃ o, os[i]? = some o ∧ cOper P ng ts ops o = some io
  | [], l, h, i, io, hi => by simp [cOps] at h; subst h; simp [nthO] at hi
  | o :: os, l, h, i, io, hi => by
    simp only [cOps] at h
    split at h
    · rename_i io' ios h1 h2
      simp at h; subst h
      cases i with
      | zero => simp [nthO] at hi; subst hi; exact ⟨o, by simp, h1⟩
      | succ i => obtain ⟨o', h3, h4⟩ := cOps_get h2 i io (by simpa [nthO] using hi); exact ⟨o', by simpa using h3, h4⟩
    · simp at h
theorem cOps_length : ∀ {os : List Oper} {l : List IOper}, cOps P ng ts ops os = some l → l.length = os.length
  | [], l, h => by simp [cOps] at h; subst h; rfl
  | o :: os, l, h => by
    simp only [cOps] at h
    split at h
    · rename_i io' ios h1 h2
      simp at h; subst h
      simp [cOps_length h2]
    · simp at h

theorem Rep.raise {μ : Nat → Loc} {σ : AW} {w : World} (h : Rep P ng ts N0 μ σ w) {n : Nat} (hn : σ.next ≤ n) : Rep P ng ts N0 μ { σ with next := n } w :=
  ⟨h.glob, Nat.le_trans h.ngn hn, fun i b hi => ⟨Nat.lt_of_lt_of_le (h.blk i b hi).1 hn, (h.blk i b hi).2.1, (h.blk i b hi).2.2.mono (fun _ _ => rfl) (h.blk i b hi).1 hn rfl⟩, h.own, h.ro, h.dis, h.al, h.big⟩
theorem evR_raise (e : List Value) (σ : AW) (n : Nat) (q : ROp) : evR e { σ with next := n } q = evR e σ q := by
  cases q <;> rfl

/-- masks and sets -/
def Masks (d : Nat) (C : List Nat) : Prop := ∀ j, d.testBit j = true ↔ j ∈ C
theorem Masks.add {d i : Nat} {C : List Nat} (h : Masks d C) : Masks (d ||| 2 ^ i) (i :: C) := by
  intro j
  rw [bit_or, h j, List.mem_cons]
  exact Or.comm

theorem runX_canon {μ : Nat → Loc} {β : AW} {w : World} (hl : cOps P ng ts ops ops.toList = some l) (hβ : Rep P ng ts N0 μ β w) {prev nx : Option Nat} {Rest : (Nat → Value) → Prop} :
    ∀ (xs : List Nat) {C : List Nat} {d d' : Nat} {σ σ' : AW} {e' : List Value} {v0 : Nat → Value} {μ1 : Nat → Loc} {w1 : World}, runX l β xs (tm l v0 e0 C) σ = some (e', σ') →
      vX l bf prev nx xs d = some d' → Masks d C → Clo bf C → Rep P ng ts N0 μ1 σ w1 → β.next ≤ σ.next → ltL σ.next (tm l v0 e0 C) = true →
      (∀ v1 μ2 w2, (∀ i ∈ C, v1 i = v0 i) → e' = tm l v1 e0 (xs.reverse ++ C) → Masks d' (xs.reverse ++ C) → Clo bf (xs.reverse ++ C) → Rep P ng ts N0 μ2 σ' w2 → σ.next ≤ σ'.next → ltL σ'.next e' = true → ∃ v, (∀ i ∈ xs.reverse ++ C, v i = v1 i) ∧ Rest v) →
      ∃ v A, (∀ i ∈ C, v i = v0 i) ∧ XS l bf e0 v β prev nx xs C σ A σ' ∧ Rest v := by
  intro xs
  induction xs with
  | nil =>
    intro C d d' σ σ' e' v0 μ1 w1 hv hx hm hcl h1 hn hlt k
    simp [runX] at hv
    obtain ⟨rfl, rfl⟩ := hv
    simp [vX] at hx; subst hx
    obtain ⟨v, h2, h3⟩ := k v0 μ1 w1 (fun _ _ => rfl) rfl hm hcl h1 (Nat.le_refl _) hlt
    exact ⟨v, [], by simpa using h2, ⟨rfl, rfl⟩, h3⟩
  | cons i xs ih =>
    intro C d d' σ σ' e' v0 μ1 w1 hv hx hm hcl h1 hn hlt k
    simp only [runX] at hv
    simp only [vX] at hx
    cases hio : nthO l i with
    | none => rw [hio] at hv; simp at hv
    | some io =>
      rw [hio] at hv hx
      simp only at hv hx
      split at hx
      · rename_i hok
        simp only [vOne, Bool.and_eq_true] at hok
        obtain ⟨⟨⟨⟨hd, hsub⟩, hE⟩, hR⟩, hN⟩ := hok
        have hpos : Pos bf i C := ⟨hcl, fun j hj => (hm j).1 (sub_bits hsub hj), fun hi => by rw [(hm i).2 hi] at hd; simp at hd⟩
        have hE' : isE io.op = false := by simpa using hE
        have hR' : isR io.op = true → ∀ p, prev = some p → (nthN bf i).testBit p = true := by
          intro hr p hp; rw [hr, hp] at hR; simpa using hR
        have hN' : isN io.op = true → ∀ e, nx = some e → (nthN bf e).testBit i = true := by
          intro hr p hp; rw [hr, hp] at hN; simpa using hN
        obtain ⟨o, ho, hco⟩ := cOps_get hl i io hio
        have hdst : dstOf l i = io.dst := by simp [dstOf, hio]
        -- what the rest comes to, once this one's value is known
        have step : ∀ (x : Value) (σ1 : AW) (μ1' : Nat → Loc) (w1' : World), runX l β xs (put (tm l v0 e0 C) io.dst x) σ1 = some (e', σ') → Rep P ng ts N0 μ1' σ1 w1' → σ.next ≤ σ1.next → lt σ1.next x = true →
            ∃ v A, (∀ i ∈ C, v i = v0 i) ∧ v i = x ∧ XS l bf e0 v β prev nx xs (i :: C) σ1 A σ' ∧ Rest v := by
          intro x σ1 μ1' w1' hv hrep hnx hxl
          have hcg : tm l (fun j => if j = i then x else v0 j) e0 C = tm l v0 e0 C := tm_congr fun j hj => by
            have : j ≠ i := fun h => hpos.out (h ▸ hj)
            simp [this]
          have he : tm l (fun j => if j = i then x else v0 j) e0 (i :: C) = put (tm l v0 e0 C) io.dst x := by
            rw [tm, hcg, hdst]; simp
          have hlt1 : ltL σ1.next (tm l (fun j => if j = i then x else v0 j) e0 (i :: C)) = true := by
            rw [he]
            cases io.dst with
            | none => exact ltL_mono hnx _ hlt
            | some d => exact ltL_setV (ltL_mono hnx _ hlt) d hxl
          obtain ⟨v, A, q1, q2, q3⟩ := ih (C := i :: C) (v0 := fun j => if j = i then x else v0 j) (by rw [he]; exact hv) hx hm.add hpos.next hrep (Nat.le_trans hn hnx) hlt1 (by
            intro v1 μ2 w2 r1 r2 r3 r4 r5 r6 r7
            have e1 : xs.reverse ++ i :: C = (i :: xs).reverse ++ C := by simp
            rw [e1] at r2 r3 r4 ⊢
            refine k v1 μ2 w2 (fun j hj => ?_) r2 r3 r4 r5 (Nat.le_trans hnx r6) r7
            rw [r1 j (by simp [hj])]
            have : j ≠ i := fun h => hpos.out (h ▸ hj)
            simp [this])
          refine ⟨v, A, fun j hj => ?_, ?_, q2, q3⟩
          · rw [q1 j (by simp [hj])]
            have : j ≠ i := fun h => hpos.out (h ▸ hj)
            simp [this]
          · rw [q1 i (by simp)]; simp
        split at hv
        · rename_i hw
          split at hv
          · rename_i q hq
            split at hv
            · rename_i x hx1
              rcases cOper_op hco with hbad | ⟨hok, hcop⟩
              · rw [hq] at hbad; simp at hbad
              rw [hq] at hcop
              have hs := evP_sound h1.glob h1.ngn hlt hcop hok hx1 w1
              obtain ⟨v, A, q1, q2, q3, q4⟩ := step x σ μ1 w1 hv h1 (Nat.le_refl _) hs.2
              have hc : tm l v e0 C = tm l v0 e0 C := tm_congr q1
              exact ⟨v, A, q1, ⟨io, hio, by rw [hc]; exact hlt, hpos, hE', hR', hN', .inr (.inl ⟨by rw [hc]; exact hw, q, hq, by rw [hc, q2]; exact hx1, q3⟩)⟩, q4⟩
            · simp at hv
          · rename_i q hq
            split at hv
            · rename_i x hx1
              rcases cOper_op hco with hbad | ⟨hok, hcop⟩
              · rw [hq] at hbad; simp at hbad
              rw [hq] at hcop
              have hs := evR_sound (hβ.raise hn) (e := tm l v0 e0 C) hlt hcop hok (by rw [evR_raise]; exact hx1)
              obtain ⟨v, A, q1, q2, q3, q4⟩ := step x σ μ1 w1 hv h1 (Nat.le_refl _) hs.2
              have hc : tm l v e0 C = tm l v0 e0 C := tm_congr q1
              exact ⟨v, A, q1, ⟨io, hio, by rw [hc]; exact hlt, hpos, hE', hR', hN', .inr (.inr (.inl ⟨by rw [hc]; exact hw, q, hq, by rw [hc, q2]; exact hx1, q3⟩))⟩, q4⟩
            · simp at hv
          · rename_i q hq
            split at hv
            · rename_i b f hbf
              split at hv
              · rename_i hm'
                rcases cOper_op hco with hbad | ⟨hok, hcop⟩
                · rw [hq] at hbad; simp at hbad
                rw [hq] at hcop
                obtain ⟨ob, hrun, hro, hal, hb, hlt'⟩ := evN_sound h1.glob h1.ngn hlt hcop hok hbf w1
                have hp : σ.push b = some (σ.next, σ.add b) := by unfold AW.push; rw [if_pos hm']; rfl
                obtain ⟨_, hnx, hr2, hg2⟩ := h1.push hp (w' := { w1 with heap := w1.heap.push ob }) (ob := ob) (ex := 0) hro (fun c hc j hj => by rw [hal c hc] at hj; simp at hj) rfl rfl rfl rfl hb
                obtain ⟨v, A, q1, q2, q3, q4⟩ := step (f σ.next) (σ.add b) _ _ hv hr2 (by rw [hnx]; omega) (by rw [hnx]; exact hlt')
                have hc : tm l v e0 C = tm l v0 e0 C := tm_congr q1
                exact ⟨v, (i, σ.next, b) :: A, q1, ⟨io, hio, by rw [hc]; exact hlt, hpos, hE', hR', hN', .inr (.inr (.inr ⟨by rw [hc]; exact hw, q, b, f, A, hq, rfl, by rw [hc]; exact hbf, q2, hm', q3⟩))⟩, q4⟩
              · simp at hv
            · simp at hv
          · simp at hv
        · rename_i hw
          have hw' : io.wanted (tm l v0 e0 C) = false := by simpa using hw
          obtain ⟨v, A, q1, q2, q3, q4⟩ := step undef σ μ1 w1 hv h1 (Nat.le_refl _) (lt_undef _)
          have hc : tm l v e0 C = tm l v0 e0 C := tm_congr q1
          exact ⟨v, A, q1, ⟨io, hio, by rw [hc]; exact hlt, hpos, hE', hR', hN', .inl ⟨by rw [hc]; exact hw', q2, q3⟩⟩, q4⟩
      · simp at hx

theorem vChk_spec {prev : Option Nat} {chk : List Nat} {d : Nat} : ∀ {os : List IOper} {k : Nat}, vChk l bf prev chk d k os = true → ∀ m io, nthO os m = some io → d.testBit (k + m) = true → isR io.op = true →
    k + m ∈ chk ∨ ∃ p, prev = some p ∧ (nthN bf p).testBit (k + m) = true := by
  intro os
  induction os with
  | nil => intro k _ m io h; simp [nthO] at h
  | cons o os ih =>
    intro k hv m io hm hd hr
    simp only [vChk, Bool.and_eq_true] at hv
    cases m with
    | zero =>
      simp [nthO] at hm; subst hm
      have h1 := hv.1
      simp only [Nat.add_zero] at hd
      rw [hd, hr] at h1
      simp at h1
      rcases h1 with h1 | h1
      · exact .inl h1
      · right
        cases prev with
        | none => simp at h1
        | some p => exact ⟨p, rfl, h1⟩
    | succ m =>
      have := ih hv.2 m io (by simpa [nthO] using hm) (by rwa [show k + 1 + m = k + (m + 1) by omega]) hr
      rwa [show k + 1 + m = k + (m + 1) by omega] at this

theorem runDraw_canon (hl : cOps P ng ts ops ops.toList = some l) (hK : KSound P ng ts N0 K) {t' : List Value} {σ' : AW} :
    ∀ (st : List DStage) {prev : Option Nat} {C : List Nat} {d : Nat} {β : AW} {v0 : Nat → Value} {μ : Nat → Loc} {w : World}, runDraw K l fin st (tm l v0 e0 C) β = some (t', σ') →
      vSt l bf fin st prev d = true → Masks d C → Clo bf C → Rep P ng ts N0 μ β w → ltL β.next (tm l v0 e0 C) = true →
      ∃ v L, (∀ i ∈ C, v i = v0 i) ∧ DS l bf e0 K fin v t' σ' st prev C β L := by
  intro st
  induction st with
  | nil =>
    intro prev C d β v0 μ w hv hs hm hcl hr hlt
    simp only [runDraw] at hv
    split at hv
    · rename_i hck
      simp only [vSt, Bool.and_eq_true] at hs
      obtain ⟨hvc, hs⟩ := hs
      split at hs
      · rename_i d' hx
        obtain ⟨v, A, q1, q2, q3⟩ := runX_canon hl hr (Rest := fun v => t' = tm l v e0 (fin.xs.reverse ++ C) ∧ (∀ j, j < l.length → j ∈ fin.xs.reverse ++ C) ∧ ltL σ'.next t' = true) fin.xs hv hx hm hcl hr (Nat.le_refl _) hlt (by
          intro v1 μ2 w2 r1 r2 r3 r4 r5 r6 r7
          refine ⟨v1, fun _ _ => rfl, r2, fun j hj => (r3 j).1 (sub_bits hs ?_), r7⟩
          rw [Nat.testBit_two_pow_sub_one]; simpa using hj)
        have hc : tm l v e0 C = tm l v0 e0 C := tm_congr q1
        exact ⟨v, A, q1, ⟨by rw [hc]; exact hlt, by rw [hc]; exact hck, hcl, fun i io hio hi hR => by simpa using vChk_spec hvc i io hio (by simpa using (hm i).2 hi) hR⟩, q2, q3.1, q3.2.1, q3.2.2⟩
      · simp at hs
    · simp at hv
  | cons s st ih =>
    intro prev C d β v0 μ w hv hs hm hcl hr hlt
    simp only [runDraw] at hv
    split at hv
    · rename_i hck
      simp only [vSt, Bool.and_eq_true] at hs
      obtain ⟨hvc, hs⟩ := hs
      split at hs
      · rename_i d' io hx hio
        simp only [Bool.and_eq_true] at hs
        obtain ⟨⟨⟨⟨hd, hsub⟩, hE⟩, hprev⟩, hs⟩ := hs
        have hprev' : ∀ p, prev = some p → (nthN bf s.e).testBit p = true := by intro p hp; rw [hp] at hprev; simpa using hprev
        split at hv
        · rename_i e1 γ hv1
          obtain ⟨v, A, q1, q2, q3⟩ := runX_canon hl hr (nx := some s.e) (Rest := fun v => ∃ β' L', ltL γ.next (tm l v e0 (s.xs.reverse ++ C)) = true ∧ Pos bf s.e (s.xs.reverse ++ C) ∧
              ((io.wanted (tm l v e0 (s.xs.reverse ++ C)) = false ∧ v s.e = undef ∧ β' = γ) ∨
               (io.wanted (tm l v e0 (s.xs.reverse ++ C)) = true ∧ ∃ q, io.op = .e q ∧ runE K (tm l v e0 (s.xs.reverse ++ C)) γ q = some (.ret (v s.e), β'))) ∧ γ.next ≤ β'.next ∧
              DS l bf e0 K fin v t' σ' st (some s.e) (s.e :: (s.xs.reverse ++ C)) β' L') s.xs hv1 hx hm hcl hr (Nat.le_refl _) hlt (by
            intro v1 μ2 w2 r1 r2 r3 r4 r5 r6 r7
            have hpos : Pos bf s.e (s.xs.reverse ++ C) := ⟨r4, fun j hj => (r3 j).1 (sub_bits hsub hj), fun hi => by rw [(r3 s.e).2 hi] at hd; simp at hd⟩
            rw [hio] at hv
            simp only at hv
            obtain ⟨o, ho, hco⟩ := cOps_get hl s.e io hio
            have hdst : dstOf l s.e = io.dst := by simp [dstOf, hio]
            have step : ∀ (x : Value) (β' : AW) (μ' : Nat → Loc) (w' : World), runDraw K l fin st (put e1 io.dst x) β' = some (t', σ') → Rep P ng ts N0 μ' β' w' → γ.next ≤ β'.next → lt β'.next x = true →
                ∃ v L', (∀ i ∈ s.xs.reverse ++ C, v i = v1 i) ∧ v s.e = x ∧ DS l bf e0 K fin v t' σ' st (some s.e) (s.e :: (s.xs.reverse ++ C)) β' L' := by
              intro x β' μ' w' hv hrep hnx hxl
              have hne : ∀ j ∈ s.xs.reverse ++ C, j ≠ s.e := fun j hj h => hpos.out (h ▸ hj)
              have hcg : tm l (fun j => if j = s.e then x else v1 j) e0 (s.xs.reverse ++ C) = tm l v1 e0 (s.xs.reverse ++ C) := tm_congr fun j hj => by simp [hne j hj]
              have he : tm l (fun j => if j = s.e then x else v1 j) e0 (s.e :: (s.xs.reverse ++ C)) = put e1 io.dst x := by
                rw [tm, hcg, hdst, ← r2]; simp
              obtain ⟨v, L', p1, p2⟩ := ih (C := s.e :: (s.xs.reverse ++ C)) (v0 := fun j => if j = s.e then x else v1 j) (by rw [he]; exact hv) hs r3.add hpos.next hrep (by
                rw [he]
                cases io.dst with
                | none => exact ltL_mono hnx _ r7
                | some d => exact ltL_setV (ltL_mono hnx _ r7) d hxl)
              exact ⟨v, L', fun j hj => by rw [p1 j (List.mem_cons_of_mem _ hj)]; simp [hne j hj], by rw [p1 s.e (by simp)]; simp, p2⟩
            split at hv
            · rename_i hw
              split at hv
              · rename_i q hq
                split at hv
                · rename_i x β' hx1
                  rcases cOper_op hco with hbad | ⟨hok, hcop⟩
                  · rw [hq] at hbad; simp at hbad
                  -- the change is sound: in some frame
                  have hE1 : FrOK γ.next { tmps := e1, dfs := [] } := ⟨r7, by simp⟩
                  obtain ⟨μ', w', h1, h2, h3, _⟩ := runOp_sound hK r5 hE1 (ops := ops) (i := s.e) (by simpa using ho) hco hw (v := x) (σ' := β') (by rw [hq]; exact hx1) default [] [] []
                  obtain ⟨v, L', p1, p2, p3⟩ := step x β' μ' w' hv h1 h2.next h3
                  have hc : tm l v e0 (s.xs.reverse ++ C) = e1 := by rw [r2]; exact tm_congr p1
                  exact ⟨v, p1, β', L', by rw [hc]; exact r7, hpos, .inr ⟨by rw [hc]; exact hw, q, hq, by rw [hc, p2]; exact hx1⟩, h2.next, p3⟩
                · simp at hv
              · simp at hv
            · rename_i hw
              obtain ⟨v, L', p1, p2, p3⟩ := step undef γ μ2 w2 hv r5 (Nat.le_refl _) (lt_undef _)
              have hc : tm l v e0 (s.xs.reverse ++ C) = e1 := by rw [r2]; exact tm_congr p1
              exact ⟨v, p1, γ, L', by rw [hc]; exact r7, hpos, .inl ⟨by rw [hc]; simpa using hw, p2, rfl⟩, Nat.le_refl _, p3⟩)
          obtain ⟨β', L', z1, z2, z3, z4, z5⟩ := q3
          have hc : tm l v e0 C = tm l v0 e0 C := tm_congr q1
          exact ⟨v, A ++ L', q1, ⟨by rw [hc]; exact hlt, by rw [hc]; exact hck, hcl, fun i io hio hi hR => by simpa using vChk_spec hvc i io hio (by simpa using (hm i).2 hi) hR⟩,
            γ, β', A, L', io, rfl, q2, hio, hE, z1, z2, hprev', z3, z4, z5⟩
        · simp at hv
      · simp at hs
    · simp at hv
end
end Go.Proofs.YtjpepfgbilbcdaaGreatDoor.Ai
