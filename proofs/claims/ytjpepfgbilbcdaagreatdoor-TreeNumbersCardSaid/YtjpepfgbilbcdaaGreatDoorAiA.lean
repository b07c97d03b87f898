/- A PART OF THE PROOF THAT AN INTERPRETER OF THE PROGRAM'S FUNCTIONS IS SOUND: maps from numbers, places. -/
import Derived.Calls
import Derived.Below
import Derived.KernelRfl
namespace Go.Proofs.YtjpepfgbilbcdaaGreatDoor.Ai
open Go

/-! ### tries keyed by numbers -/
inductive Tr (α : Type) where
  | nil
  | node (l : Tr α) (v : Option α) (r : Tr α)

namespace Tr
variable {α : Type}
def get : Tr α → Nat → Option α
  | nil, _ => none
  | node l v r, n => if n = 0 then v else if n % 2 = 1 then l.get (n / 2) else r.get (n / 2 - 1)
def put (x : Option α) : (fuel : Nat) → Tr α → Nat → Tr α
  | 0, t, _ => t
  | f + 1, nil, n => if n = 0 then node nil x nil else if n % 2 = 1 then node (put x f nil (n / 2)) none nil else node nil none (put x f nil (n / 2 - 1))
  | f + 1, node l v r, n => if n = 0 then node l x r else if n % 2 = 1 then node (put x f l (n / 2)) v r else node l v (put x f r (n / 2 - 1))
def set (t : Tr α) (n : Nat) (x : α) : Tr α := put (some x) 64 t n
def del (t : Tr α) (n : Nat) : Tr α := put none 64 t n

theorem get_put (x : Option α) : ∀ (f : Nat) (t : Tr α) (n m : Nat), n + 1 < 2 ^ f → (put x f t n).get m = if m = n then x else t.get m := by
  intro f
  induction f with
  | zero => intro t n m h; simp at h
  | succ f ih =>
    intro t n m h
    have h2 : 2 ^ (f + 1) = 2 * 2 ^ f := by rw [Nat.pow_succ]; omega
    rw [h2] at h
    cases t with
    | nil =>
      simp only [put]
      split
      · rename_i h0; subst h0
        simp only [get]
        split
        · simp
        · split <;> rfl
      · split
        · rename_i h0 h1
          simp only [get]
          split
          · rename_i hm; subst hm; rw [if_neg (by omega)]
          · split
            · rename_i hm hm1
              rw [ih _ _ _ (by omega)]
              by_cases e : m = n
              · subst e; simp
              · rw [if_neg (by omega), if_neg e]; rfl
            · rw [if_neg (by intro e; subst e; contradiction)]; try rfl
        · rename_i h0 h1
          simp only [get]
          split
          · rename_i hm; subst hm; rw [if_neg (by omega)]
          · split
            · rw [if_neg (by intro e; subst e; contradiction)]; try rfl
            · rename_i hm hm1
              rw [ih _ _ _ (by omega)]
              by_cases e : m = n
              · subst e; simp
              · rw [if_neg (by omega), if_neg e]; rfl
    | node l v r =>
      simp only [put]
      split
      · rename_i h0; subst h0
        simp only [get]
        split
        · simp
        · simp
      · split
        · rename_i h0 h1
          simp only [get]
          split
          · rename_i hm; subst hm; rw [if_neg (by omega)]
          · split
            · rename_i hm hm1
              rw [ih _ _ _ (by omega)]
              by_cases e : m = n
              · subst e; simp
              · rw [if_neg (by omega), if_neg e]
            · rw [if_neg (by intro e; subst e; contradiction)]
        · rename_i h0 h1
          simp only [get]
          split
          · rename_i hm; subst hm; rw [if_neg (by omega)]
          · split
            · rw [if_neg (by intro e; subst e; contradiction)]
            · rename_i hm hm1
              rw [ih _ _ _ (by omega)]
              by_cases e : m = n
              · subst e; simp
              · rw [if_neg (by omega), if_neg e]
theorem get_set (t : Tr α) (n m : Nat) (x : α) (h : n + 1 < 2 ^ 64) : (t.set n x).get m = if m = n then some x else t.get m := get_put _ 64 t n m h
theorem get_del (t : Tr α) (n m : Nat) (h : n + 1 < 2 ^ 64) : (t.del n).get m = if m = n then none else t.get m := get_put _ 64 t n m h
end Tr

/-! ### where an id lies, and values -/
structure Loc where
  blk : Nat
  sh : Nat
  ex : Nat

def cAddr (μ : Nat → Loc) (a : Addr) : Addr := ⟨(μ a.block).blk, (μ a.block).sh + a.off, a.spot⟩

def cFn (μ : Nat → Loc) : Fn → Fn
  | .yield l => .yield (μ l).blk
  | f => f

mutual
def conc (μ : Nat → Loc) : Value → Value
  | .pointer (some a) => .pointer (some (cAddr μ a))
  | .slice (some a) n c => .slice (some (cAddr μ a)) n (c + (μ a.block).ex)
  | .map (some r) => .map (some (μ r).blk)
  | .func f ⟨x⟩ ⟨y⟩ => .func (cFn μ f) ⟨concL μ x⟩ ⟨concL μ y⟩
  | .iface t v => .iface t (conc μ v)
  | .agg ⟨x⟩ => .agg ⟨concL μ x⟩
  | .tuple ⟨x⟩ => .tuple ⟨concL μ x⟩
  | v => v
def concL (μ : Nat → Loc) : List Value → List Value
  | [] => []
  | v :: l => conc μ v :: concL μ l
end

def ltFn (n : Nat) : Fn → Bool
  | .yield l => decide (l < n)
  | _ => true

mutual
/-- every id in it lies below n; what has no meaning here (channels, spots) is not let -/
def lt (n : Nat) : Value → Bool
  | .pointer (some a) => decide (a.block < n) && a.spot.isNone
  | .slice (some a) _ _ => decide (a.block < n) && a.spot.isNone
  | .map (some r) => decide (r < n)
  | .chan (some _) => false
  | .func f ⟨x⟩ ⟨y⟩ => ltFn n f && ltL n x && ltL n y
  | .iface _ v => lt n v
  | .agg ⟨x⟩ => ltL n x
  | .tuple ⟨x⟩ => ltL n x
  | _ => true
def ltL (n : Nat) : List Value → Bool
  | [] => true
  | v :: l => lt n v && ltL n l
end

theorem concL_eq (μ : Nat → Loc) : ∀ l, concL μ l = l.map (conc μ)
  | [] => by simp [concL]
  | v :: l => by simp [concL, concL_eq μ l]
theorem ltL_iff (n : Nat) : ∀ l, ltL n l = true ↔ ∀ v ∈ l, lt n v = true
  | [] => by simp [ltL]
  | v :: l => by simp [ltL, ltL_iff n l]

#print axioms concL_eq
end Go.Proofs.YtjpepfgbilbcdaaGreatDoor.Ai
