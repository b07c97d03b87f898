/- A PART OF THE PROOF THAT AN INTERPRETER OF THE PROGRAM'S FUNCTIONS IS SOUND: a step of it. -/
import Derived.Test.YtjpepfgbilbcdaaGreatDoorAiZj
namespace Go.Proofs.YtjpepfgbilbcdaaGreatDoor.Ai
open Go
set_option linter.unusedSimpArgs false

/-! ### a run in pieces: what stands between two pieces is written out and held against what comes -/
def fneq : Fn → Fn → Bool
  | .func i, .func j => i == j
  | .method a, .method b => a == b
  | .yield i, .yield j => i == j
  | _, _ => false
mutual
def veq : Value → Value → Bool
  | .bool a, .bool b => a == b
  | .int j a, .int k b => j == k && a == b
  | .string a, .string b => a.data.toList == b.data.toList
  | .pointer none, .pointer none => true
  | .pointer (some a), .pointer (some b) => a == b
  | .slice none a b, .slice none c d => a == c && b == d
  | .slice (some x) a b, .slice (some y) c d => x == y && a == c && b == d
  | .map a, .map b => a == b
  | .nilFunc, .nilFunc => true
  | .nilIface, .nilIface => true
  | .func f ⟨a⟩ ⟨b⟩, .func g ⟨c⟩ ⟨d⟩ => fneq f g && veqs a c && veqs b d
  | .iface t a, .iface u b => t == u && veq a b
  | .agg ⟨a⟩, .agg ⟨b⟩ => veqs a b
  | .tuple ⟨a⟩, .tuple ⟨b⟩ => veqs a b
  | _, _ => false
def veqs : List Value → List Value → Bool
  | [], [] => true
  | x :: a, y :: b => veq x y && veqs a b
  | _, _ => false
end
theorem fneq_eq {f g : Fn} (h : fneq f g = true) : f = g := by
  unfold fneq at h
  split at h <;> simp_all
mutual
theorem veq_eq : ∀ {a b : Value}, veq a b = true → a = b := by
  intro a b h
  unfold veq at h
  split at h
  all_goals first | (simp at h; done) | skip
  · simpa using h
  · simp at h; rw [h.1, h.2]
  · rename_i a b
    simp at h
    rw [show a = b from by cases a; cases b; simp at h ⊢; exact h]
  · rfl
  · simpa using h
  · simp at h; rw [h.1, h.2]
  · simp at h; rw [h.1.1, h.1.2, h.2]
  · simpa using h
  · rfl
  · rfl
  · simp only [Bool.and_eq_true] at h; rw [fneq_eq h.1.1, veqs_eq h.1.2, veqs_eq h.2]
  · simp only [Bool.and_eq_true, beq_iff_eq] at h; rw [h.1, veq_eq h.2]
  · rw [veqs_eq h]
  · rw [veqs_eq h]
theorem veqs_eq : ∀ {a b : List Value}, veqs a b = true → a = b := by
  intro a b h
  unfold veqs at h
  split at h
  · rfl
  · simp only [Bool.and_eq_true] at h; rw [veq_eq h.1, veqs_eq h.2]
  · simp at h
end
def entEq (a b : Value × Value × Nat) : Bool := veq a.1 b.1 && veq a.2.1 b.2.1 && a.2.2 == b.2.2
def entsEq : List (Value × Value × Nat) → List (Value × Value × Nat) → Bool
  | [], [] => true
  | x :: a, y :: b => entEq x y && entsEq a b
  | _, _ => false
theorem entsEq_eq : ∀ {a b : List (Value × Value × Nat)}, entsEq a b = true → a = b
  | [], [], _ => rfl
  | [], _ :: _, h => by simp [entsEq] at h
  | _ :: _, [], h => by simp [entsEq] at h
  | (x1, x2, x3) :: a, (y1, y2, y3) :: b, h => by
    simp only [entsEq, entEq, Bool.and_eq_true, beq_iff_eq] at h
    rw [veq_eq h.1.1.1, veq_eq h.1.1.2, h.1.2, entsEq_eq h.2]
def blkEq : Blk → Blk → Bool
  | .cells a, .cells b => veqs a.cs b.cs && a.ty == b.ty && a.esz == b.esz && a.ro == b.ro && a.exact == b.exact && a.retired == b.retired && a.frozen == b.frozen && a.al == b.al
  | .map a c, .map b d => entsEq a b && c == d
  | .deferred a, .deferred b => a == b
  | _, _ => false
theorem blkEq_eq {a b : Blk} (h : blkEq a b = true) : a = b := by
  unfold blkEq at h
  split at h
  · rename_i a b
    simp only [Bool.and_eq_true, beq_iff_eq] at h
    obtain ⟨⟨⟨⟨⟨⟨⟨h1, h2⟩, h3⟩, h4⟩, h5⟩, h6⟩, h7⟩, h8⟩ := h
    have h1 := veqs_eq h1
    cases a; cases b
    simp_all
  · simp only [Bool.and_eq_true, beq_iff_eq] at h; rw [entsEq_eq h.1, h.2]
  · simp at h; rw [h]
  · simp at h

def mkH : List (Nat × Blk) → Tr Blk
  | [] => .nil
  | (i, b) :: l => (mkH l).set i b
theorem mkH_get : ∀ {l : List (Nat × Blk)}, (∀ x ∈ l, x.1 < most) → ∀ i b, (mkH l).get i = some b → (i, b) ∈ l
  | [], _, i, b, h => by simp [mkH, Tr.get] at h
  | (j, c) :: l, hl, i, b, h => by
    have hj := hl (j, c) (by simp)
    simp only [mkH] at h
    rw [Tr.get_set _ _ _ _ (by unfold most at hj; simp only at hj; omega)] at h
    split at h
    · rename_i he; simp at h; subst h he; simp
    · have := mkH_get (fun x hx => hl x (by simp [hx])) i b h
      simp [this]
def exEq : IExit → IExit → Bool
  | .normal, .normal => true
  | .exit i, .exit j => i == j
  | .ret, .ret => true
  | _, _ => false
theorem exEq_eq {a b : IExit} (h : exEq a b = true) : a = b := by
  unfold exEq at h
  split at h <;> simp_all
/-- a piece comes to that: exit, temporaries, deferred marks, next id, and at least these blocks -/
def comesTo (r : Option (IExit × Fr × AW)) (x : IExit) (t : List Value) (d : List Nat) (n : Nat) (l : List (Nat × Blk)) : Bool :=
  match r with
  | some (x', e, σ) => exEq x' x && veqs e.tmps t && e.dfs == d && σ.next == n && l.all fun p => Nat.blt p.1 most && match σ.heap.get p.1 with | some b => blkEq b p.2 | none => false
  | none => false
theorem comesTo_some {r : Option (IExit × Fr × AW)} {x : IExit} {t : List Value} {d : List Nat} {n : Nat} {l : List (Nat × Blk)} (h : comesTo r x t d n l = true) :
    ∃ σ, r = some (x, { tmps := t, dfs := d }, σ) ∧ Less { next := n, heap := mkH l } σ := by
  unfold comesTo at h
  split at h
  · rename_i x' e σ
    simp only [Bool.and_eq_true, beq_iff_eq, List.all_eq_true] at h
    obtain ⟨⟨⟨⟨h1, h2⟩, h3⟩, h4⟩, h5⟩ := h
    have h1 := exEq_eq h1
    have h2 := veqs_eq h2
    obtain ⟨t', d'⟩ := e
    simp only at h2 h3
    subst h1 h2 h3
    refine ⟨σ, rfl, h4.symm, fun i b hb => ?_⟩
    have hm : ∀ p ∈ l, p.1 < most := fun p hp => by have := (h5 p hp).1; simpa [Nat.blt_eq] using this
    have hin := mkH_get hm i b hb
    have := (h5 (i, b) hin).2
    simp only at this
    split at this
    · rename_i c hc; rw [hc, blkEq_eq this]
    · simp at this
  · simp at h
section
variable {P : Program} {ng : Nat} {ts : List TypeId} {N0 : Nat} {C : Tr IFunc}
/-- **A piece**, worked out by the kernel. -/
theorem CRun.piece (hm : P.follows .mixedOrders = true) (hC : TabOK P ng ts C) {k fuel : Nat} {ic : ICode} {e : Fr} {σ : AW} {x : IExit} {t : List Value} {d : List Nat} {n : Nat} {l : List (Nat × Blk)}
    (h : comesTo (evC (ksN C k) fuel none ic e σ) x t d n l = true) : CRun P ng ts N0 none ic e σ x { tmps := t, dfs := d } { next := n, heap := mkH l } := by
  obtain ⟨σ', h1, h2⟩ := comesTo_some h
  exact (CRun.of_evC hm (all_sound hm hC k) h1).less h2
/-- a piece that calls one function more -/
theorem CRun.piece1 (hm : P.follows .mixedOrders = true) (hC : TabOK P ng ts C) {k fuel : Nat} {ic : ICode} {e e' : Fr} {σ σ' : AW} {x : IExit} {f0 : FuncId} {a0 : List Value} {s0 s1 : AW} {v0 : Value} (hc : CTo P ng ts N0 f0 a0 s0 v0 s1)
    (h : evC (oneK f0 a0 s0 v0 s1 (ksN C k)) fuel none ic e σ = some (x, e', σ')) : CRun P ng ts N0 none ic e σ x e' σ' :=
  CRun.of_evC hm (oneK_sound (all_sound hm hC k) hc) h
theorem evC_call {K : Ks} {fuel : Nat} {rnd : Option Nat} {d : Nat} {f : FuncId} {os : List IOper} {e : Fr} {σ σ' σ'' : AW} {v : Value} {x : IExit} {t : List Value} (h : K.call f [] σ = some (.ret v, σ'))
    (h2 : runOps K os (setV e.tmps d v) σ' = some (x, t, σ'')) : evC K fuel rnd (.ops (⟨some d, .e (.call f []), none⟩ :: os)) e σ = some (x, { e with tmps := t }, σ'') := by
  simp [evC, runOps, IOper.wanted, runOp, runE, evs, h, put, h2]
end
end Go.Proofs.YtjpepfgbilbcdaaGreatDoor.Ai
