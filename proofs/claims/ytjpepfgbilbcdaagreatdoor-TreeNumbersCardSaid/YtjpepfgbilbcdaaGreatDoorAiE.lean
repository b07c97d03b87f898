/- A PART OF THE PROOF THAT AN INTERPRETER OF THE PROGRAM'S FUNCTIONS IS SOUND: a step of it. -/
import Derived.Test.YtjpepfgbilbcdaaGreatDoorAiD
import Derived.Laws.IdiomCopy
namespace Go.Proofs.YtjpepfgbilbcdaaGreatDoor.Ai
open Go

/-! ### values under a placing -/
mutual
theorem conc_congr {μ μ' : Nat → Loc} {n : Nat} (h : ∀ i, i < n → μ i = μ' i) : ∀ v, lt n v = true → conc μ v = conc μ' v
  | .pointer (some a), hv => by simp [lt] at hv; simp [conc, cAddr, h _ hv.1]
  | .slice (some a) _ _, hv => by simp [lt] at hv; simp [conc, cAddr, h _ hv.1]
  | .map (some r), hv => by simp [lt] at hv; simp [conc, h _ hv]
  | .func f ⟨x⟩ ⟨y⟩, hv => by
    simp [lt] at hv
    have hf : cFn μ f = cFn μ' f := by
      cases f <;> simp_all [cFn, ltFn]
    simp [conc, hf, concL_congr h x hv.1.2, concL_congr h y hv.2]
  | .iface t v, hv => by simp [lt] at hv; simp [conc, conc_congr h v hv]
  | .agg ⟨x⟩, hv => by simp [lt] at hv; simp [conc, concL_congr h x hv]
  | .tuple ⟨x⟩, hv => by simp [lt] at hv; simp [conc, concL_congr h x hv]
  | .bool _, _ => by simp [conc]
  | .int _ _, _ => by simp [conc]
  | .float _ _, _ => by simp [conc]
  | .complex _ _ _, _ => by simp [conc]
  | .string _, _ => by simp [conc]
  | .pointer none, _ => by simp [conc]
  | .slice none _ _, _ => by simp [conc]
  | .map none, _ => by simp [conc]
  | .chan _, _ => by simp [conc]
  | .nilFunc, _ => by simp [conc]
  | .nilIface, _ => by simp [conc]
theorem concL_congr {μ μ' : Nat → Loc} {n : Nat} (h : ∀ i, i < n → μ i = μ' i) : ∀ l, ltL n l = true → concL μ l = concL μ' l
  | [], _ => by simp [concL]
  | v :: l, hv => by simp [ltL] at hv; simp [concL, conc_congr h v hv.1, concL_congr h l hv.2]
end
mutual
theorem lt_mono {n m : Nat} (h : n ≤ m) : ∀ v, lt n v = true → lt m v = true
  | .pointer (some a), hv => by simp [lt] at hv ⊢; exact ⟨by omega, hv.2⟩
  | .slice (some a) _ _, hv => by simp [lt] at hv ⊢; exact ⟨by omega, hv.2⟩
  | .map (some r), hv => by simp [lt] at hv ⊢; omega
  | .func f ⟨x⟩ ⟨y⟩, hv => by
    simp [lt] at hv ⊢
    refine ⟨⟨?_, ltL_mono h x hv.1.2⟩, ltL_mono h y hv.2⟩
    cases f <;> simp_all [ltFn]; omega
  | .iface t v, hv => by simp [lt] at hv ⊢; exact lt_mono h v hv
  | .agg ⟨x⟩, hv => by simp [lt] at hv ⊢; exact ltL_mono h x hv
  | .tuple ⟨x⟩, hv => by simp [lt] at hv ⊢; exact ltL_mono h x hv
  | .bool _, _ => by simp [lt]
  | .int _ _, _ => by simp [lt]
  | .float _ _, _ => by simp [lt]
  | .complex _ _ _, _ => by simp [lt]
  | .string _, _ => by simp [lt]
  | .pointer none, _ => by simp [lt]
  | .slice none _ _, _ => by simp [lt]
  | .map none, _ => by simp [lt]
  | .chan none, _ => by simp [lt]
  | .chan (some _), hv => by simp [lt] at hv
  | .nilFunc, _ => by simp [lt]
  | .nilIface, _ => by simp [lt]
theorem ltL_mono {n m : Nat} (h : n ≤ m) : ∀ l, ltL n l = true → ltL m l = true
  | [], _ => by simp [ltL]
  | v :: l, hv => by simp [ltL] at hv ⊢; exact ⟨lt_mono h v hv.1, ltL_mono h l hv.2⟩
end
mutual
theorem conc_zero (μ : Nat → Loc) : ∀ v, lt 0 v = true → conc μ v = v
  | .pointer (some a), hv => by simp [lt] at hv
  | .slice (some a) _ _, hv => by simp [lt] at hv
  | .map (some r), hv => by simp [lt] at hv
  | .func f ⟨x⟩ ⟨y⟩, hv => by
    simp [lt] at hv
    have hf : cFn μ f = f := by cases f <;> simp_all [cFn, ltFn]
    simp [conc, hf, concL_zero μ x hv.1.2, concL_zero μ y hv.2]
  | .iface t v, hv => by simp [lt] at hv; simp [conc, conc_zero μ v hv]
  | .agg ⟨x⟩, hv => by simp [lt] at hv; simp [conc, concL_zero μ x hv]
  | .tuple ⟨x⟩, hv => by simp [lt] at hv; simp [conc, concL_zero μ x hv]
  | .bool _, _ => by simp [conc]
  | .int _ _, _ => by simp [conc]
  | .float _ _, _ => by simp [conc]
  | .complex _ _ _, _ => by simp [conc]
  | .string _, _ => by simp [conc]
  | .pointer none, _ => by simp [conc]
  | .slice none _ _, _ => by simp [conc]
  | .map none, _ => by simp [conc]
  | .chan _, _ => by simp [conc]
  | .nilFunc, _ => by simp [conc]
  | .nilIface, _ => by simp [conc]
theorem concL_zero (μ : Nat → Loc) : ∀ l, ltL 0 l = true → concL μ l = l
  | [], _ => by simp [concL]
  | v :: l, hv => by simp [ltL] at hv; simp [concL, conc_zero μ v hv.1, concL_zero μ l hv.2]
end
theorem conc_undef (μ : Nat → Loc) : conc μ undef = undef := by simp [undef, conc, concL]
theorem lt_undef (n : Nat) : lt n undef = true := by simp [undef, lt, ltL]

theorem isCell_conc (μ : Nat → Loc) (v : Value) : isCell (conc μ v) = isCell v := by
  cases v with
  | pointer a => cases a <;> simp [conc, isCell]
  | slice a _ _ => cases a <;> simp [conc, isCell]
  | map a => cases a <;> simp [conc, isCell]
  | _ => simp [conc, isCell]
theorem isCell_oneCell (v : Value) : isCell v = v.oneCell' := by cases v <;> rfl

/-! ### lists of values -/
theorem getV_eq (l : List Value) : ∀ n, getV l n = l.getD n undef := by
  induction l with
  | nil => intro n; simp [getV]
  | cons v l ih => intro n; cases n <;> simp [getV, ih]
theorem setV_eq (l : List Value) : ∀ n v, setV l n v = l.set n v := by
  induction l with
  | nil => intro n v; simp [setV]
  | cons x l ih => intro n v; cases n <;> simp [setV, ih]
theorem nthV_eq (l : List Value) : ∀ n, nthV l n = l[n]? := by
  induction l with
  | nil => intro n; simp [nthV]
  | cons v l ih => intro n; cases n <;> simp [nthV, ih]
theorem dropV_eq (l : List Value) : ∀ n, dropV n l = l.drop n := by
  induction l with
  | nil => intro n; cases n <;> simp [dropV]
  | cons v l ih => intro n; cases n <;> simp [dropV, ih]
theorem cutV_some : ∀ (n : Nat) (l r : List Value), cutV n l = some r ↔ n ≤ l.length ∧ r = l.take n := by
  intro n
  induction n with
  | zero => intro l r; simp [cutV, eq_comm]
  | succ n ih =>
    intro l r
    cases l with
    | nil => simp [cutV]
    | cons v l =>
      simp only [cutV, Option.map_eq_some_iff, List.length_cons, List.take_succ_cons]
      constructor
      · rintro ⟨a, ha, rfl⟩
        obtain ⟨h1, rfl⟩ := (ih _ _).1 ha
        exact ⟨by omega, rfl⟩
      · rintro ⟨h1, rfl⟩
        exact ⟨_, (ih _ _).2 ⟨by omega, rfl⟩, rfl⟩
theorem overV_some : ∀ (cs vs r : List Value), overV cs vs = some r → vs.length ≤ cs.length ∧ r = vs ++ cs.drop vs.length := by
  intro cs
  induction cs with
  | nil =>
    intro vs r h
    cases vs with
    | nil => simp [overV] at h; simp [h]
    | cons v vs => simp [overV] at h
  | cons c cs ih =>
    intro vs r h
    cases vs with
    | nil => simp [overV] at h; simp [h]
    | cons v vs =>
      simp only [overV, Option.map_eq_some_iff] at h
      obtain ⟨a, ha, rfl⟩ := h
      obtain ⟨h1, rfl⟩ := ih _ _ ha
      exact ⟨by simp; omega, by simp⟩
theorem spliceV_some : ∀ (cs : List Value) (n : Nat) (vs r : List Value), spliceV cs n vs = some r → (vs = [] ∨ n + vs.length ≤ cs.length) ∧ r.length = cs.length ∧
    ∀ k, r[k]? = if n ≤ k ∧ k < n + vs.length then vs[k - n]? else cs[k]? := by
  intro cs
  induction cs with
  | nil =>
    intro n vs r h
    cases n with
    | zero =>
      simp only [spliceV] at h
      obtain ⟨h1, rfl⟩ := overV_some _ _ _ h
      have : vs = [] := by simpa using h1
      subst this; simp
    | succ n =>
      simp only [spliceV] at h
      split at h
      · rename_i hv
        have : vs = [] := by simpa using hv
        subst this
        simp at h; subst h; simp
      · simp at h
  | cons c cs ih =>
    intro n vs r h
    cases n with
    | zero =>
      simp only [spliceV] at h
      obtain ⟨h1, rfl⟩ := overV_some _ _ _ h
      refine ⟨.inr (by simpa using h1), by simp at h1 ⊢; omega, fun k => ?_⟩
      by_cases hk : k < vs.length
      · simp [hk, List.getElem?_append_left]
      · simp only [Nat.zero_le, true_and, Nat.zero_add, hk, if_false]
        rw [List.getElem?_append_right (by omega), List.getElem?_drop]
        congr 1; omega
    | succ n =>
      simp only [spliceV, Option.map_eq_some_iff] at h
      obtain ⟨a, ha, rfl⟩ := h
      obtain ⟨h1, h2, h3⟩ := ih _ _ _ ha
      refine ⟨h1.imp id (by simp; omega), by simp [h2], fun k => ?_⟩
      cases k with
      | zero => simp
      | succ k =>
        simp only [List.getElem?_cons_succ, h3 k, Nat.add_le_add_iff_right, Nat.add_right_comm n 1 vs.length, Nat.add_lt_add_iff_right, Nat.add_sub_add_right]
theorem ltL_getElem {n : Nat} {l : List Value} (h : ltL n l = true) {k : Nat} {v : Value} (hk : l[k]? = some v) : lt n v = true :=
  (ltL_iff n l).1 h v (List.mem_of_getElem? hk)
theorem ltL_getV {n : Nat} {l : List Value} (h : ltL n l = true) (k : Nat) : lt n (getV l k) = true := by
  rw [getV_eq, List.getD_eq_getElem?_getD]
  cases hk : l[k]? with
  | none => exact lt_undef n
  | some v => exact ltL_getElem h hk
theorem ltL_append {n : Nat} {a b : List Value} : ltL n (a ++ b) = true ↔ ltL n a = true ∧ ltL n b = true := by
  simp only [ltL_iff, List.mem_append]
  exact ⟨fun h => ⟨fun v hv => h v (.inl hv), fun v hv => h v (.inr hv)⟩, fun h v hv => hv.elim (h.1 v) (h.2 v)⟩
theorem ltL_setV {n : Nat} {l : List Value} (h : ltL n l = true) (k : Nat) {v : Value} (hv : lt n v = true) : ltL n (setV l k v) = true := by
  rw [setV_eq, ltL_iff]
  intro x hx
  rcases List.mem_or_eq_of_mem_set hx with h1 | h1
  · exact (ltL_iff n l).1 h x h1
  · exact h1 ▸ hv
theorem ltL_sub {n : Nat} {a b : List Value} (h : ltL n b = true) (hs : ∀ v ∈ a, v ∈ b) : ltL n a = true :=
  (ltL_iff n a).2 fun v hv => (ltL_iff n b).1 h v (hs v hv)
theorem concL_length (μ : Nat → Loc) (l : List Value) : (concL μ l).length = l.length := by simp [concL_eq]
theorem concL_getElem? (μ : Nat → Loc) (l : List Value) (k : Nat) : (concL μ l)[k]? = (l[k]?).map (conc μ) := by simp [concL_eq]
theorem concL_append (μ : Nat → Loc) (a b : List Value) : concL μ (a ++ b) = concL μ a ++ concL μ b := by simp [concL_eq]
theorem concL_take (μ : Nat → Loc) (n : Nat) (a : List Value) : concL μ (a.take n) = (concL μ a).take n := by simp [concL_eq]
theorem concL_drop (μ : Nat → Loc) (n : Nat) (a : List Value) : concL μ (a.drop n) = (concL μ a).drop n := by simp [concL_eq]
theorem getD_conc (μ : Nat → Loc) (e : List Value) (t : Nat) : (⟨concL μ e⟩ : Array Value).getD t undef = conc μ (getV e t) := by
  rw [getV_eq, List.getD_eq_getElem?_getD, Array.getD_eq_getD_getElem?]
  have h : (⟨concL μ e⟩ : Array Value)[t]? = (concL μ e)[t]? := by simp
  rw [h, concL_getElem?]
  cases e[t]? <;> simp [conc_undef]

/-! ### operands -/
/-- what an operand holds in the machine -/
def evc (μ : Nat → Loc) (e : List Value) : Operand → Value
  | .tmp t => conc μ (getV e t)
  | .const v => v
  | .global g => .pointer (some ⟨g, 0, none⟩)
  | .func f => .func (.func f) #[] #[]
theorem evc_eval (μ : Nat → Loc) (e : List Value) (ds : List Deferred) : ({ tmps := ⟨concL μ e⟩, defers := ds } : Act).eval = evc μ e := by
  funext x
  cases x with
  | tmp t => exact getD_conc μ e t
  | _ => rfl
structure Glob (ng : Nat) (μ : Nat → Loc) : Prop where
  out : ∀ g, g < ng → μ g = ⟨g, 0, 0⟩
theorem opd_conc {ng : Nat} {μ : Nat → Loc} (hg : Glob ng μ) (e : List Value) {x : Operand} (hx : okOpd ng x = true) : evc μ e x = conc μ ((cOpd x).ev e) := by
  cases x with
  | tmp t => simp [evc, cOpd, Opd.ev]
  | const v => simp [evc, cOpd, Opd.ev, conc_zero μ v (by simpa [okOpd] using hx)]
  | global g => simp [okOpd] at hx; simp [evc, cOpd, Opd.ev, conc, cAddr, hg.out g hx]
  | func f => simp [evc, cOpd, Opd.ev, conc, cFn, concL]
theorem opd_lt {ng n : Nat} (hn : ng ≤ n) {e : List Value} (he : ltL n e = true) {x : Operand} (hx : okOpd ng x = true) : lt n ((cOpd x).ev e) = true := by
  cases x with
  | tmp t => exact ltL_getV he t
  | const v => exact lt_mono (Nat.zero_le n) v (by simpa [okOpd] using hx)
  | global g => simp [okOpd] at hx; simp [cOpd, Opd.ev, lt]; omega
  | func f => simp [cOpd, Opd.ev, lt, ltFn, ltL]

end Go.Proofs.YtjpepfgbilbcdaaGreatDoor.Ai
