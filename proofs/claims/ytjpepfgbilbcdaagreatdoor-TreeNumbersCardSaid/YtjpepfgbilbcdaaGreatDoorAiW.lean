/- A PART OF THE PROOF THAT AN INTERPRETER OF THE PROGRAM'S FUNCTIONS IS SOUND: a step of it. -/
import Derived.Test.YtjpepfgbilbcdaaGreatDoorAiV
namespace Go.Proofs.YtjpepfgbilbcdaaGreatDoor.Ai
open Go
set_option linter.unusedSimpArgs false

section
variable {P : Program} {ng : Nat} {ts : List TypeId} {N0 : Nat} {K : Ks} {μ : Nat → Loc} {σ σ' : AW} {w w' : World}

theorem put_ok {n : Nat} {E : Fr} (h : FrOK n E) {d : Option Nat} {v : Value} (hv : lt n v = true) : FrOK n { E with tmps := put E.tmps d v } := by
  refine ⟨?_, h.dfs⟩
  cases d with
  | none => exact h.tm
  | some d => exact ltL_setV h.tm d hv

/-- **A row of operations, one behind the other.** -/
theorem runOps_sound (hK : KSound P ng ts N0 K) {ops : Array Oper} : ∀ (os : List Oper) (l : List IOper) (j : Nat), (∀ m o, os[m]? = some o → ops[j + m]? = some o) → cOps P ng ts ops os = some l →
    ∀ {E : Fr} {σ σ' : AW} {x : IExit} {t' : List Value} {μ : Nat → Loc} {w : World}, runOps K l E.tmps σ = some (x, t', σ') → Rep P ng ts N0 μ σ w → FrOK σ.next E → ∀ (b : Frame) (k : List Item) (cs : List Frame),
      x = .normal ∧ ∃ μ' w', Rep P ng ts N0 μ' σ' w' ∧ Goes μ σ w μ' σ' w' ∧ FrOK σ'.next { E with tmps := t' } ∧
        Steps P (lone (fr b μ E (.inRegion ops (List.range' j os.length) :: k)) cs w) (lone (fr b μ' { E with tmps := t' } (.inRegion ops [] :: k)) cs w') := by
  intro os
  induction os with
  | nil =>
    intro l j _ hc E σ σ' x t' μ w hv h hE b k cs
    simp [cOps] at hc; subst hc
    simp [runOps] at hv
    obtain ⟨rfl, rfl, rfl⟩ := hv
    exact ⟨rfl, μ, w, h, Goes.refl _ _ _, hE, .refl _ _⟩
  | cons o os ih =>
    intro l j hidx hc E σ σ' x t' μ w hv h hE b k cs
    simp only [cOps] at hc
    split at hc
    · rename_i io ios hio hios
      simp at hc; subst hc
      have ho : ops[j]? = some o := by simpa using hidx 0 o (by simp)
      have hidx' : ∀ m o, os[m]? = some o → ops[j + 1 + m]? = some o := by
        intro m o' hm
        have := hidx (m + 1) o' (by simpa using hm)
        rwa [show j + (m + 1) = j + 1 + m by omega] at this
      have hrange : List.range' j (o :: os).length = j :: List.range' (j + 1) os.length := by simp [List.range'_succ]
      rw [hrange]
      simp only [runOps] at hv
      split at hv
      · rename_i hw
        split at hv
        · rename_i v σ1 hop
          obtain ⟨μ1, w1, h1, g1, l1, s1⟩ := runOp_sound hK h hE ho hio hw hop b (List.range' (j + 1) os.length) k cs
          have hE1 : FrOK σ1.next { E with tmps := put E.tmps o.dst v } := put_ok (hE.mono g1.next) l1
          rw [cOper_dst hio] at hv
          obtain ⟨hx, μ2, w2, h2, g2, hE2, s2⟩ := ih ios (j + 1) hidx' hios (E := { E with tmps := put E.tmps o.dst v }) hv h1 hE1 b k cs
          exact ⟨hx, μ2, w2, h2, g1.trans g2, hE2, s1.trans s2⟩
        · simp at hv
        · simp at hv
      · rename_i hw
        have hE1 : FrOK σ.next { E with tmps := put E.tmps o.dst undef } := put_ok hE (lt_undef _)
        rw [cOper_dst hio] at hv
        obtain ⟨hx, μ2, w2, h2, g2, hE2, s2⟩ := ih ios (j + 1) hidx' hios (E := { E with tmps := put E.tmps o.dst undef }) hv h hE1 b k cs
        refine ⟨hx, μ2, w2, h2, g2, hE2, .head ?_ s2⟩
        rw [st_unwanted (by rw [ho]; simp only [Option.map_some, Option.getD_some]; rw [wanted_eq hio]; simpa using hw)]
        have := fr_finish (b := b) (μ := μ) (e := E) (k := k) ops j (List.range' (j + 1) os.length) undef
        rw [conc_undef, ho] at this
        rw [this]
        rfl
    · simp at hc

def CodeTo (P : Program) (b : Frame) (k : List Item) (cs : List Frame) (M : Machine) (x : IExit) (e' : Fr) (μ' : Nat → Loc) (w' : World) : Prop :=
  match x with
  | .normal => Steps P M (lone (fr b μ' e' k) cs w')
  | .exit id => ∃ k', exitTo id k' = exitTo id k ∧ Steps P M (lone (fr b μ' e' (.code (.exit id) :: k')) cs w')
  | .ret => ∃ k', Steps P M (lone (fr b μ' e' (.code .ret :: k')) cs w')
  | .panic _ => False
theorem CodeTo.head {b : Frame} {k : List Item} {cs : List Frame} {M M1 : Machine} {x : IExit} {e' : Fr} {μ' : Nat → Loc} (hs : Steps P M M1) (h : CodeTo P b k cs M1 x e' μ' w') : CodeTo P b k cs M x e' μ' w' := by
  cases x with
  | normal => exact hs.trans h
  | exit id => obtain ⟨k', h1, h2⟩ := h; exact ⟨k', h1, hs.trans h2⟩
  | ret => obtain ⟨k', h2⟩ := h; exact ⟨k', hs.trans h2⟩
  | panic c => exact h

def RndOK (b : Frame) (n : Nat) (μ : Nat → Loc) : Option Nat → Prop
  | none => b.roundOf = none
  | some l => l < n ∧ b.roundOf = some (μ l).blk
theorem RndOK.mono {b : Frame} {n m : Nat} {μ μ' : Nat → Loc} {rnd : Option Nat} (h : RndOK b n μ rnd) (hn : n ≤ m) (ha : ∀ i, i < n → μ' i = μ i) : RndOK b m μ' rnd := by
  cases rnd with
  | none => exact h
  | some l => exact ⟨Nat.lt_of_lt_of_le h.1 hn, by rw [ha l h.1]; exact h.2⟩

/-- what code comes to -/
def CodeOK (P : Program) (ng : Nat) (ts : List TypeId) (N0 : Nat) (rnd : Option Nat) (c : Code) (e : Fr) (σ : AW) (x : IExit) (e' : Fr) (σ' : AW) : Prop :=
  ∀ {μ : Nat → Loc} {w : World}, Rep P ng ts N0 μ σ w → FrOK σ.next e → ∀ (b : Frame), RndOK b σ.next μ rnd → ∀ (k : List Item) (cs : List Frame),
    ∃ μ' w', Rep P ng ts N0 μ' σ' w' ∧ Goes μ σ w μ' σ' w' ∧ FrOK σ'.next e' ∧ CodeTo P b k cs (lone (fr b μ e (.code c :: k)) cs w) x e' μ' w'

end
end Go.Proofs.YtjpepfgbilbcdaaGreatDoor.Ai
