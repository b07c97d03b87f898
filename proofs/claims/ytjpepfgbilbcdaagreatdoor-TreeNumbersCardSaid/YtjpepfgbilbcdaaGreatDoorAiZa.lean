/- A PART OF THE PROOF THAT AN INTERPRETER OF THE PROGRAM'S FUNCTIONS IS SOUND: a step of it. -/
import Derived.Test.YtjpepfgbilbcdaaGreatDoorAiY
import Derived.Orders
import Derived.CheckFast
namespace Go.Proofs.YtjpepfgbilbcdaaGreatDoor.Ai
open Go
set_option linter.unusedSimpArgs false

/-! ### temporaries behind a set of operations -/
theorem nthO_eq (l : List IOper) : ∀ n, nthO l n = l[n]? := by
  induction l with
  | nil => intro n; simp [nthO]
  | cons v l ih => intro n; cases n <;> simp [nthO, ih]
theorem nthN_eq (l : List Nat) : ∀ n, nthN l n = l.getD n 0 := by
  induction l with
  | nil => intro n; simp [nthN]
  | cons v l ih => intro n; cases n <;> simp [nthN, ih]
def dstOf (l : List IOper) (i : Nat) : Option Nat := (nthO l i).bind (·.dst)
def tm (l : List IOper) (v : Nat → Value) (e0 : List Value) : List Nat → List Value
  | [] => e0
  | i :: C => put (tm l v e0 C) (dstOf l i) (v i)
theorem put_length (e : List Value) (d : Option Nat) (v : Value) : (put e d v).length = e.length := by
  cases d <;> simp [put, setV_eq]
theorem tm_length (l : List IOper) (v : Nat → Value) (e0 : List Value) : ∀ C, (tm l v e0 C).length = e0.length
  | [] => rfl
  | i :: C => by rw [tm, put_length, tm_length l v e0 C]
theorem tm_congr {l : List IOper} {v v' : Nat → Value} {e0 : List Value} : ∀ {C : List Nat}, (∀ i ∈ C, v' i = v i) → tm l v' e0 C = tm l v e0 C
  | [], _ => rfl
  | i :: C, h => by rw [tm, tm, tm_congr (C := C) fun j hj => h j (by simp [hj]), h i (by simp)]
theorem getV_put_ne {e : List Value} {d : Option Nat} {x : Value} {t : Nat} (h : d ≠ some t) : getV (put e d x) t = getV e t := by
  cases d with
  | none => rfl
  | some d =>
    have : d ≠ t := fun he => h (by rw [he])
    simp [put, getV_eq, setV_eq, List.getD_eq_getElem?_getD, List.getElem?_set, this]
theorem getV_put_eq {e : List Value} {x : Value} {t : Nat} : getV (put e (some t) x) t = if t < e.length then x else undef := by
  simp [put, getV_eq, setV_eq, List.getD_eq_getElem?_getD, List.getElem?_set]
  split <;> simp_all
theorem tm_none {l : List IOper} {v : Nat → Value} {e0 : List Value} {t : Nat} : ∀ {C : List Nat}, (∀ j ∈ C, dstOf l j ≠ some t) → getV (tm l v e0 C) t = getV e0 t
  | [], _ => rfl
  | i :: C, h => by rw [tm, getV_put_ne (h i (by simp)), tm_none fun j hj => h j (by simp [hj])]
theorem tm_some {l : List IOper} {v : Nat → Value} {e0 : List Value} {t j : Nat} (hd : dstOf l j = some t) (hu : ∀ i, dstOf l i = some t → i = j) : ∀ {C : List Nat}, j ∈ C → getV (tm l v e0 C) t = if t < e0.length then v j else undef
  | [], h => by simp at h
  | i :: C, h => by
    rw [tm]
    by_cases hi : dstOf l i = some t
    · rw [hi, getV_put_eq, hu i hi, tm_length]
    · rw [getV_put_ne hi]
      refine tm_some hd hu ?_
      rcases List.mem_cons.1 h with rfl | h
      · exact absurd hd hi
      · exact h
theorem tm_agree {l : List IOper} {v : Nat → Value} {e0 : List Value} {t : Nat} (hu : ∀ i j, dstOf l i = some t → dstOf l j = some t → i = j) {S C : List Nat} (h : ∀ j, dstOf l j = some t → (j ∈ S ↔ j ∈ C)) : getV (tm l v e0 S) t = getV (tm l v e0 C) t := by
  by_cases hj : ∃ j ∈ S, dstOf l j = some t
  · obtain ⟨j, hj, hd⟩ := hj
    rw [tm_some hd (fun i hi => hu i j hi hd) hj, tm_some hd (fun i hi => hu i j hi hd) ((h j hd).1 hj)]
  · have h1 : ∀ j ∈ S, dstOf l j ≠ some t := fun j hj' hd => hj ⟨j, hj', hd⟩
    have h2 : ∀ j ∈ C, dstOf l j ≠ some t := fun j hj' hd => hj ⟨j, (h j hd).2 hj', hd⟩
    rw [tm_none h1, tm_none h2]
theorem tm_eq_all {l : List IOper} {v : Nat → Value} {e0 : List Value} (hu : ∀ t i j, dstOf l i = some t → dstOf l j = some t → i = j) {S C : List Nat} (h : ∀ j, j < l.length → (j ∈ S ↔ j ∈ C)) : tm l v e0 S = tm l v e0 C := by
  apply List.ext_getElem
  · rw [tm_length, tm_length]
  · intro t h1 h2
    have := tm_agree (v := v) (e0 := e0) (hu t) (S := S) (C := C) fun j hd => h j (by
      unfold dstOf at hd
      rw [nthO_eq] at hd
      cases hl : l[j]? with
      | none => rw [hl] at hd; simp at hd
      | some o => exact (List.getElem?_eq_some_iff.1 hl).1)
    rw [getV_eq, getV_eq, List.getD_eq_getElem?_getD, List.getD_eq_getElem?_getD, List.getElem?_eq_getElem h1, List.getElem?_eq_getElem h2] at this
    simpa using this

/-! ### the static check, read -/
theorem vDst_inj : ∀ {l : List IOper}, vDst (dsts l) = true → ∀ {t i j : Nat}, dstOf l i = some t → dstOf l j = some t → i = j := by
  have mem : ∀ (l : List IOper) (i t : Nat), dstOf l i = some t → t ∈ dsts l := by
    intro l
    induction l with
    | nil => intro i t h; simp [dstOf, nthO] at h
    | cons o l ih =>
      intro i t h
      cases i with
      | zero =>
        simp [dstOf, nthO] at h
        simp [dsts, h]
      | succ i =>
        have := ih i t (by simpa [dstOf, nthO] using h)
        unfold dsts
        split
        · simp [this]
        · exact this
  intro l
  induction l with
  | nil => intro _ t i j h; simp [dstOf, nthO] at h
  | cons o l ih =>
    intro hv t i j hi hj
    have hv' : vDst (dsts l) = true := by
      unfold dsts at hv
      split at hv
      · simp [vDst] at hv; exact hv.2
      · exact hv
    have hno : ∀ k, o.dst = some t → dstOf l k = some t → False := by
      intro k ho hk
      have hm := mem l k t hk
      simp [dsts, ho, vDst] at hv
      exact hv.1 hm
    cases i with
    | zero =>
      cases j with
      | zero => rfl
      | succ j =>
        exact (hno j (by simpa [dstOf, nthO] using hi) (by simpa [dstOf, nthO] using hj)).elim
    | succ i =>
      cases j with
      | zero => exact (hno i (by simpa [dstOf, nthO] using hj) (by simpa [dstOf, nthO] using hi)).elim
      | succ j =>
        have := ih hv' (t := t) (i := i) (j := j) (by simpa [dstOf, nthO] using hi) (by simpa [dstOf, nthO] using hj)
        omega

theorem vWr_spec {bf : List Nat} {i : Nat} {r : Bool} {t : Nat} : ∀ {l : List IOper} {k : Nat}, vWr bf i r t k l = true → ∀ m, dstOf l m = some t → (nthN bf i).testBit (k + m) = true ∨ (r = false ∧ (k + m = i ∨ (nthN bf (k + m)).testBit i = true)) := by
  intro l
  induction l with
  | nil => intro k _ m h; simp [dstOf, nthO] at h
  | cons o l ih =>
    intro k hv m hm
    simp only [vWr, Bool.and_eq_true] at hv
    cases m with
    | zero =>
      have hd : o.dst = some t := by simpa [dstOf, nthO] using hm
      have := hv.1
      simp [hd] at this
      simpa using this
    | succ m =>
      have := ih hv.2 m (by simpa [dstOf, nthO] using hm)
      rwa [show k + 1 + m = k + (m + 1) by omega] at this
theorem vSees_spec {L : List IOper} {bf : List Nat} : ∀ {os : List Oper} {l : List IOper} {k : Nat}, vSees L bf k os l = true → ∀ m o io, os[m]? = some o → l[m]? = some io → ∀ t ∈ seesT o io, ∀ j, dstOf L j = some t →
    (nthN bf (k + m)).testBit j = true ∨ (isR io.op = false ∧ (j = k + m ∨ (nthN bf j).testBit (k + m) = true)) := by
  intro os
  induction os with
  | nil => intro l k _ m o io h; simp at h
  | cons o os ih =>
    intro l k hv m o' io' ho hio t ht j hj
    cases l with
    | nil => simp at hio
    | cons io ios =>
      simp only [vSees, Bool.and_eq_true, List.all_eq_true] at hv
      cases m with
      | zero =>
        simp at ho hio; subst ho hio
        have := vWr_spec (hv.1 t ht) j hj
        simpa using this
      | succ m =>
        have := ih hv.2 m o' io' (by simpa using ho) (by simpa using hio) t ht j hj
        rwa [show k + 1 + m = k + (m + 1) by omega] at this

theorem sub_bits {a b : Nat} (h : subMask a b = true) {j : Nat} (hj : a.testBit j = true) : b.testBit j = true := by
  have h1 : a &&& b = a := by simpa [subMask] using h
  have h2 : (a &&& b).testBit j = true := by rw [h1]; exact hj
  rw [Nat.testBit_and] at h2
  simp at h2; exact h2.2
theorem bit_or {d i j : Nat} : (d ||| 2 ^ i).testBit j = true ↔ d.testBit j = true ∨ j = i := by
  rw [Nat.testBit_or, Nat.testBit_two_pow, Bool.or_eq_true, decide_eq_true_eq]
  constructor
  · rintro (h | h)
    · exact .inl h
    · exact .inr h.symm
  · rintro (h | h)
    · exact .inl h
    · exact .inr h.symm

/-! ### what lies ahead -/
theorem before_size (ops : Array Oper) : (Region.before ops).toList.length = ops.size := by
  have h : ∀ (os : List Oper) (A : Array Nat), (os.foldl (fun acc o => acc.push (CheckFast.one (fun i => acc.getD i 0) o)) A).size = A.size + os.length := by
    intro os
    induction os with
    | nil => intro A; simp
    | cons o os ih => intro A; rw [List.foldl_cons, ih]; simp; omega
  have : Region.before ops = ops.toList.foldl (fun acc o => acc.push (CheckFast.one (fun i => acc.getD i 0) o)) #[] := by
    unfold Region.before; rw [← Array.foldl_toList]; rfl
  rw [Array.length_toList, this, h]; simp
theorem one_bits (look : Nat → Nat) (o : Oper) (j : Nat) : (CheckFast.one look o).testBit j = true ↔ ∃ e ∈ o.after, Region.binds .any e = true ∧ (j = e.on ∨ (look e.on).testBit j = true) := by
  unfold CheckFast.one
  rw [← Array.foldl_toList]
  have h : ∀ (es : List Edge) (s : Nat), (es.foldl (fun s e => if Region.binds .any e then s ||| 2 ^ e.on ||| look e.on else s) s).testBit j = true ↔ s.testBit j = true ∨ ∃ e ∈ es, Region.binds .any e = true ∧ (j = e.on ∨ (look e.on).testBit j = true) := by
    intro es
    induction es with
    | nil => intro s; simp
    | cons e es ih =>
      intro s
      rw [List.foldl_cons, ih]
      by_cases hb : Region.binds .any e = true
      · simp only [hb, if_true, Nat.testBit_or, Nat.testBit_two_pow, Bool.or_eq_true, decide_eq_true_eq, List.mem_cons, exists_eq_or_imp, true_and]
        constructor
        · rintro ((h | h) | h)
          · rcases h with h | h
            · exact .inl h
            · exact .inr (.inl (.inl h.symm))
          · exact .inr (.inl (.inr h))
          · exact .inr (.inr h)
        · rintro (h | (h | h) | h)
          · exact .inl (.inl (.inl h))
          · exact .inl (.inl (.inr h.symm))
          · exact .inl (.inr h)
          · exact .inr h
      · simp [hb]
  rw [h]
  simp
theorem before_bits (ops : Array Oper) {i : Nat} {o : Oper} (ho : ops[i]? = some o) :
    (∀ e ∈ o.after, Region.binds .any e = true → (nthN (Region.before ops).toList i).testBit e.on = true) ∧
    (∀ j, (nthN (Region.before ops).toList i).testBit j = true → ∃ e ∈ o.after, Region.binds .any e = true ∧ (j = e.on ∨ (nthN (Region.before ops).toList e.on).testBit j = true)) := by
  have h : ∀ (os : List Oper) (A : Array Nat) (m : Nat) (o : Oper), os[m]? = some o →
      ∃ A1 : Array Nat, A1.size = A.size + m ∧ (∀ k, k < A1.size → (os.foldl (fun acc o => acc.push (CheckFast.one (fun i => acc.getD i 0) o)) A).getD k 0 = A1.getD k 0) ∧ (os.foldl (fun acc o => acc.push (CheckFast.one (fun i => acc.getD i 0) o)) A).getD (A.size + m) 0 = CheckFast.one (fun i => A1.getD i 0) o := by
    intro os
    induction os with
    | nil => intro A m o h; simp at h
    | cons o os ih =>
      intro A m o' h
      have keep : ∀ (os : List Oper) (A : Array Nat) (k : Nat), k < A.size → (os.foldl (fun acc o => acc.push (CheckFast.one (fun i => acc.getD i 0) o)) A).getD k 0 = A.getD k 0 := by
        intro os
        induction os with
        | nil => intro A k _; simp
        | cons o os ih =>
          intro A k hk
          rw [List.foldl_cons, ih _ k (by simp; omega)]
          simp [Array.getElem?_push, Nat.ne_of_lt hk]
      cases m with
      | zero =>
        simp at h; subst h
        refine ⟨A, by simp, ?_, ?_⟩
        · intro k hk
          rw [List.foldl_cons, keep _ _ k (by simp; omega)]
          simp [Array.getElem?_push, Nat.ne_of_lt hk]
        · rw [List.foldl_cons, keep _ _ _ (by simp)]
          simp
      | succ m =>
        obtain ⟨A1, h1, h2, h3⟩ := ih (A.push (CheckFast.one (fun i => A.getD i 0) o)) m o' (by simpa using h)
        refine ⟨A1, by rw [h1]; simp; omega, h2, ?_⟩
        rw [List.foldl_cons, ← h3]
        simp; congr 2; omega
  have hb : Region.before ops = ops.toList.foldl (fun acc o => acc.push (CheckFast.one (fun i => acc.getD i 0) o)) #[] := by
    unfold Region.before; rw [← Array.foldl_toList]; rfl
  obtain ⟨A1, h1, h2, h3⟩ := h ops.toList #[] i o (by simpa using ho)
  rw [← hb] at h2 h3
  simp only [Array.size_empty, Nat.zero_add] at h1 h3
  have hn : ∀ k, nthN (Region.before ops).toList k = (Region.before ops).getD k 0 := fun k => by
    rw [nthN_eq, List.getD_eq_getElem?_getD, Array.getD_eq_getD_getElem?]; simp
  have hi : nthN (Region.before ops).toList i = CheckFast.one (fun k => A1.getD k 0) o := by rw [hn, h3]
  constructor
  · intro e he hbd
    rw [hi, one_bits]
    exact ⟨e, he, hbd, .inl rfl⟩
  · intro j hj
    rw [hi, one_bits] at hj
    obtain ⟨e, he, hbd, h4⟩ := hj
    refine ⟨e, he, hbd, ?_⟩
    rcases h4 with h4 | h4
    · exact .inl h4
    · right
      by_cases hlt : e.on < A1.size
      · rw [hn, h2 _ hlt]; exact h4
      · simp [Array.getD, hlt] at h4
end Go.Proofs.YtjpepfgbilbcdaaGreatDoor.Ai
