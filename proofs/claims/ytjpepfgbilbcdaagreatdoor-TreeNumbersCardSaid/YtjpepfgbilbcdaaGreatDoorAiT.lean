/- A PART OF THE PROOF THAT AN INTERPRETER OF THE PROGRAM'S FUNCTIONS IS SOUND: a step of it. -/
import Derived.Test.YtjpepfgbilbcdaaGreatDoorAiSb
namespace Go.Proofs.YtjpepfgbilbcdaaGreatDoor.Ai
open Go
set_option linter.unusedSimpArgs false

def isCallE : EOp → Bool
  | .call _ _ | .callv _ _ | .invoke _ _ _ | .panic _ => true
  | _ => false

section
variable {P : Program} {ng : Nat} {ts : List TypeId} {N0 : Nat} {μ μ' : Nat → Loc} {σ σ' : AW} {w w' : World} {e : List Value} {K : Ks}

/-- **The operations that change memory and call nothing.** -/
theorem evE_sound (h : Rep P ng ts N0 μ σ w) (he : ltL σ.next e = true) {o : Oper} {q : EOp} (hc : cOp P ts o.op = some (.e q)) (hq : isCallE q = false) (ho : okOp ng o.op = true) {v : Value} (hv : runE K e σ q = some (.ret v, σ')) : ESound P ng ts N0 μ σ e o v σ' w := by
  generalize hop : o.op = op at hc ho
  cases op with
  | store t a x =>
    have h' := okOp_2 ho rfl
    simp only [cOp] at hc
    split at hc
    · rename_i k hk; simp at hc; subst hc; exact sE_st h he hop hk h'.1 h'.2 hv
    · simp at hc
  | call c =>
    obtain ⟨callee, args, ats⟩ := c
    have h' := ok_arr ho rfl
    simp only [Op.operands, Call.operands] at h'
    have h'' : ∀ x ∈ args.toList, okOpd ng x = true := fun x hx => h' x (by simp; exact .inr (by simpa using hx))
    simp only [cOp] at hc
    cases callee with
    | builtin b =>
      simp only at hc
      unfold cBuiltin at hc
      split at hc
      · (repeat' split at hc) <;> simp at hc
      · (repeat' split at hc) <;> simp at hc
      · simp at hc
      · simp at hc
      · rename_i s x t u ha ht
        have ha' : args = #[s, x] := by apply Array.ext'; simpa using ha
        have ht' : ats = #[t, u] := by apply Array.ext'; simpa using ht
        subst ha' ht'
        split at hc
        · rename_i el h1
          split at hc
          · rename_i z i ku h2 h3 hu
            split at hc
            · simp at hc
            · rename_i hz
              simp at hz
              simp at hc; subst hc
              exact sE_appendZ h he hop h1 h2 h3 (by simpa using hz.1) hz.2 hu (h'' s (by simp)) (h'' x (by simp)) hv
          · rename_i z i h2 h3 hu
            split at hc
            · rename_i hz
              simp at hz
              simp at hc; subst hc
              exact sE_append h he hop h1 h2 h3 (by omega) (by omega) (.inl hu) (h'' s (by simp)) (h'' x (by simp)) hz.1.symm hz.2.symm hv
            · simp at hc
          · rename_i z i e' h2 h3 hu
            split at hc
            · simp at hc
            · rename_i hz
              simp at hz
              simp at hc; subst hc
              exact sE_append h he hop h1 h2 h3 (by simpa using hz.1) hz.2 (.inr ⟨e', hu⟩) (h'' s (by simp)) (h'' x (by simp)) rfl rfl hv
          · simp at hc
        · simp at hc
      · rename_i d s t u ha ht
        have ha' : args = #[d, s] := by apply Array.ext'; simpa using ha
        have ht' : ats = #[t, u] := by apply Array.ext'; simpa using ht
        subst ha' ht'
        split at hc
        · rename_i el h1
          split at hc
          · rename_i z h2
            split at hc
            · simp at hc
            · simp at hc; subst hc
              obtain ⟨_, _, _, hsz, _, _⟩ := zeroCells_some h2
              exact sE_copy h he hop h1 hsz (h'' d (by simp)) (h'' s (by simp)) hv
          · simp at hc
        · simp at hc
      · (repeat' split at hc) <;> simp at hc
      · rename_i x t ha ht
        have ha' : args = #[x] := by apply Array.ext'; simpa using ha
        have ht' : ats = #[t] := by apply Array.ext'; simpa using ht
        subst ha' ht'
        split at hc
        · rename_i el h1
          split at hc
          · rename_i z h2
            split at hc
            · simp at hc
            · rename_i hz
              simp at hc; subst hc
              exact sE_clear h he hop h1 h2 hz (h'' x (by simp)) hv
          · simp at hc
        · simp at hc
      · simp at hc; subst hc; simp [isCallE] at hq
      · rename_i _ x ha
        have ha' : args = #[x] := by apply Array.ext'; simpa using ha
        subst ha'
        simp at hc; subst hc
        exact sE_sdata h he hop (h'' x (by simp)) hv
      · rename_i x n t tl ha ht
        have ha' : args = #[x, n] := by apply Array.ext'; simpa using ha
        subst ha'
        split at hc
        · rename_i el h1
          split at hc
          · split at hc
            · rename_i h2
              simp at hc; subst hc
              exact sE_ustr h he hop (by rw [← Array.getElem?_toList, ht]; rfl) h1 h2 (h'' x (by simp)) (h'' n (by simp)) hv
            · simp at hc
          · simp at hc
        · simp at hc
      · simp at hc
    | value f =>
      cases f with
      | func f => simp only at hc; (repeat' split at hc) <;> simp at hc <;> subst hc <;> simp [isCallE] at hq
      | _ => simp at hc; subst hc; simp [isCallE] at hq
    | invoke x name => simp at hc; subst hc; simp [isCallE] at hq
  | build t parts =>
    simp only [cOp] at hc
    split at hc
    · simp only [Option.bind_eq_bind, Option.bind_eq_some_iff] at hc
      obtain ⟨_, _, _, _, hc⟩ := hc
      split at hc <;> simp at hc
    · simp only [Option.bind_eq_bind, Option.bind_eq_some_iff] at hc
      obtain ⟨_, _, _, _, hc⟩ := hc
      split at hc <;> simp at hc
    · simp at hc
  | buildSlice t len parts =>
    simp only [cOp] at hc
    split at hc
    · simp only [Option.bind_eq_bind, Option.bind_eq_some_iff] at hc
      obtain ⟨z, _, hc⟩ := hc
      split at hc
      · simp at hc
      · simp only [Option.bind_eq_some_iff] at hc
        obtain ⟨_, _, hc⟩ := hc
        simp at hc
    · simp at hc
  | binOp op t x y u =>
    simp only [cOp] at hc
    split at hc
    · simp at hc
    · simp at hc
    · split at hc
      · unfold cEqOp at hc; (repeat' split at hc) <;> simp at hc
      · unfold cEqOp at hc; (repeat' split at hc) <;> simp at hc
      · simp at hc
    · simp at hc
  | field t x f =>
    simp only [cOp] at hc
    split at hc
    · split at hc
      · simp only [Option.map_eq_some_iff] at hc
        obtain ⟨_, _, hc⟩ := hc
        simp at hc
      · simp at hc
    · simp at hc
  | indexAddr t x i => simp only [cOp] at hc; split at hc <;> simp at hc
  | typeAssert x xt t ok =>
    simp only [cOp] at hc
    split at hc
    · simp at hc
    · split at hc <;> simp at hc
    · simp at hc
  | panic x => simp [cOp] at hc; subst hc; simp [isCallE] at hq
  | makeMap t r => cases r <;> simp [cOp] at hc
  | convert src dst x =>
    simp only [cOp] at hc
    split at hc
    · simp at hc
    · simp at hc
    · rename_i el h1 h2
      split at hc
      · rename_i h3 hz
        simp at hc; subst hc
        exact sE_s2b h he hop h1 h2 h3 (okOp_1 ho rfl) hv
      · simp at hc
    all_goals (repeat' split at hc) <;> simp at hc
  | slice t x lo hi mx => simp only [cOp] at hc; (repeat' split at hc) <;> simp at hc
  | load t x => simp only [cOp] at hc; split at hc <;> simp at hc
  | alloc t => simp only [cOp] at hc; split at hc <;> simp at hc
  | box t x => simp only [cOp] at hc; split at hc <;> simp at hc
  | makeSlice t l c => simp only [cOp] at hc; (repeat' split at hc) <;> simp at hc
  | makeInterface t x => simp only [cOp] at hc; split at hc <;> simp at hc
  | makeFunc f a b => simp only [cOp] at hc; split at hc <;> simp at hc
  | fieldAddr t x f => simp only [cOp] at hc; (repeat' split at hc) <;> simp at hc
  | index t x i => simp only [cOp] at hc; (repeat' split at hc) <;> simp at hc
  | lookup t x i ok => simp only [cOp] at hc; (repeat' split at hc) <;> simp at hc
  | mapUpdate t m k x =>
    have h' := ok_arr ho rfl
    simp only [Op.operands] at h'
    simp only [cOp] at hc
    split at hc
    · rename_i kt el h1
      simp only [Option.map_eq_some_iff] at hc
      obtain ⟨qq, hqq, hc⟩ := hc
      simp at hc; subst hc
      exact sE_mapUpd h he (.inl hop) h1 hqq (h' m (by simp)) (h' k (by simp)) (h' x (by simp)) hv
    · simp at hc
  | insert t m k x =>
    have h' := ok_arr ho rfl
    simp only [Op.operands] at h'
    simp only [cOp] at hc
    split at hc
    · rename_i kt el h1
      simp only [Option.map_eq_some_iff] at hc
      obtain ⟨qq, hqq, hc⟩ := hc
      simp at hc; subst hc
      exact sE_mapUpd h he (.inr hop) h1 hqq (h' m (by simp)) (h' k (by simp)) (h' x (by simp)) hv
    · simp at hc
  | mapEntry t m k =>
    have h' := okOp_2 ho rfl
    simp only [cOp] at hc
    split at hc
    · rename_i kt el h1
      split at hc
      · rename_i qq z hqq hz; simp at hc; subst hc; exact sE_mapEnt h he hop h1 hqq hz h'.1 h'.2 hv
      · simp at hc
    · simp at hc
  | entryStore t m s x =>
    have h' := ok_arr ho rfl
    simp only [Op.operands] at h'
    simp [cOp] at hc; subst hc
    exact sE_entSt h he hop (h' m (by simp)) (h' s (by simp)) (h' x (by simp)) hv
  | _ => simp [cOp] at hc
end
end Go.Proofs.YtjpepfgbilbcdaaGreatDoor.Ai
