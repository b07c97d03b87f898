/- A PART OF THE PROOF THAT AN INTERPRETER OF THE PROGRAM'S FUNCTIONS IS SOUND: a step of it. -/
import Derived.Test.YtjpepfgbilbcdaaGreatDoorAiZd
namespace Go.Proofs.YtjpepfgbilbcdaaGreatDoor.Ai
open Go
set_option linter.unusedSimpArgs false
set_option linter.unusedSectionVars false

section
variable {P : Program} {ng : Nat} {ts : List TypeId} {N0 : Nat} {K : Ks} {μ μ' μ2 μ0 : Nat → Loc} {σ σ' σ0 : AW} {w w' w0 : World}

theorem Rep.agrμ (h : Rep P ng ts N0 μ σ w) (ha : ∀ x, x < σ.next → μ2 x = μ x) : Rep P ng ts N0 μ2 σ w := by
  have hk : ∀ k c, σ.heap.get k = some c → μ2 k = μ k := fun k c hk => ha k (h.blk k c hk).1
  refine ⟨⟨fun g hg => by rw [ha g (Nat.lt_of_lt_of_le hg h.ngn)]; exact h.glob.out g hg⟩, h.ngn, ?_, ?_, ?_, ?_, h.al, h.big⟩
  · intro i b hi
    obtain ⟨h1, h2, h3⟩ := h.blk i b hi
    exact ⟨h1, h2, h3.mono ha h1 (Nat.le_refl _) rfl⟩
  · intro i b hi hr; rw [hk i b hi]; exact h.own i b hi hr
  · intro i b hi hr; rw [hk i b hi]; exact h.ro i b hi hr
  · intro i j bi bj hi hj hri hrj hij he
    rw [hk i bi hi, hk j bj hj] at he ⊢
    exact h.dis i j bi bj hi hj hri hrj hij he
theorem Goes.agrμ (h : Goes μ σ w μ' σ' w') (hr : ∀ i b, σ'.heap.get i = some b → i < σ'.next) (ha : ∀ x, x < σ'.next → μ2 x = μ' x) : Goes μ σ w μ2 σ' w' :=
  ⟨h.next, fun i hi => by rw [ha i (Nat.lt_of_lt_of_le hi h.next)]; exact h.agr i hi, h.os, h.tape, h.output, h.size, h.keep, fun i b hi hro => by rw [ha i (hr i b hi)]; exact h.fresh i b hi hro⟩
theorem Rep.live (h : Rep P ng ts N0 μ σ w) {k : Nat} {c : Blk} (hk : σ.heap.get k = some c) : (μ k).blk < w.heap.size := by
  cases hr : isRo c with
  | false => exact (h.own k c hk hr).2
  | true => exact Nat.lt_of_lt_of_le (h.ro k c hk hr) h.big
theorem Rep.grow (h : Rep P ng ts N0 μ σ w) {ob : Obj} (hheap : w'.heap = w.heap.push ob) : Rep P ng ts N0 μ σ w' := by
  have hs : w.heap.size ≤ w'.heap.size := by rw [hheap]; simp
  refine ⟨h.glob, h.ngn, ?_, ?_, h.ro, h.dis, h.al, Nat.le_trans h.big hs⟩
  · intro i b hi
    obtain ⟨h1, h2, h3⟩ := h.blk i b hi
    exact ⟨h1, h2, h3.mono (fun _ _ => rfl) h1 (Nat.le_refl _) (by rw [hheap, push_get w ob (h.live hi)])⟩
  · intro i b hi hr
    exact ⟨(h.own i b hi hr).1, Nat.lt_of_lt_of_le (h.own i b hi hr).2 hs⟩
theorem Goes.grow (h : Goes μ0 σ0 w0 μ σ w) {ob : Obj} (hos : w'.os = w.os) (htp : w'.tape = w.tape) (hout : w'.output = w.output) (hheap : w'.heap = w.heap.push ob) : Goes μ0 σ0 w0 μ σ w' :=
  ⟨h.next, h.agr, hos.trans h.os, htp.trans h.tape, hout.trans h.output, Nat.le_trans h.size (by rw [hheap]; simp), fun B hB hn => by rw [hheap, push_get w ob (Nat.lt_of_lt_of_le hB h.size)]; exact h.keep B hB hn, h.fresh⟩
theorem add_get {b : Blk} (hm : σ.next < most) (k : Nat) : (σ.add b).heap.get k = if k = σ.next then some b else σ.heap.get k :=
  Tr.get_set _ _ _ _ (by unfold most at hm; omega)
theorem Rep.adopt (h : Rep P ng ts N0 μ σ w) {b : Blk} (hm : σ.next < most) (hb : BRep P ng ts μ (σ.next + 1) σ.next w b) (hro : isRo b = false) (hal : ∀ c, b = .cells c → c.al = [])
    (hlo : N0 ≤ (μ σ.next).blk) (hhi : (μ σ.next).blk < w.heap.size) (hdis : ∀ i c, σ.heap.get i = some c → (μ i).blk ≠ (μ σ.next).blk) : Rep P ng ts N0 μ (σ.add b) w := by
  have hlt : ∀ k c, σ.heap.get k = some c → k < σ.next := fun k c hk => (h.blk k c hk).1
  refine ⟨h.glob, Nat.le_trans h.ngn (by simp [AW.add]), ?_, ?_, ?_, ?_, ?_, h.big⟩
  · intro k c hk
    rw [add_get hm] at hk
    split at hk
    · rename_i he; simp at hk; subst hk; subst he; exact ⟨by simp [AW.add], hm, hb⟩
    · obtain ⟨h1, h2, h3⟩ := h.blk k c hk
      exact ⟨by simp [AW.add]; omega, h2, h3.mono (fun _ _ => rfl) h1 (by simp [AW.add]) rfl⟩
  · intro k c hk hr
    rw [add_get hm] at hk
    split at hk
    · rename_i he; subst he; exact ⟨hlo, hhi⟩
    · exact h.own k c hk hr
  · intro k c hk hr
    rw [add_get hm] at hk
    split at hk
    · simp at hk; subst hk; rw [hro] at hr; simp at hr
    · exact h.ro k c hk hr
  · intro i j bi bj hi hj hri hrj hij he
    rw [add_get hm] at hi hj
    split at hi
    · rename_i hii
      split at hj
      · omega
      · have := hlt j bj hj; omega
    · split at hj
      · rename_i hjj; exact absurd (by rw [← hjj]; exact he) (hdis i bi hi)
      · exact h.dis i j bi bj hi hj hri hrj hij he
  · intro j cj hj i hi
    rw [add_get hm] at hj
    split at hj
    · simp at hj; rw [hal cj hj] at hi; simp at hi
    · obtain ⟨h1, h2⟩ := h.al j cj hj i hi
      refine ⟨h1, fun bi hbi => ?_⟩
      have := hlt j _ hj
      rw [add_get hm, if_neg (by omega)] at hbi
      exact h2 bi hbi
theorem Goes.adopt (h : Goes μ0 σ0 w0 μ σ w) {b : Blk} (hm : σ.next < most) (hlo : w0.heap.size ≤ (μ σ.next).blk) : Goes μ0 σ0 w0 μ (σ.add b) w :=
  ⟨Nat.le_trans h.next (by simp [AW.add]), h.agr, h.os, h.tape, h.output, h.size, h.keep, fun k c hk hr => by
    rw [add_get hm] at hk
    split at hk
    · rename_i he; subst he; exact .inl hlo
    · exact h.fresh k c hk hr⟩

/-! ### what an operation sees -/
theorem getV_of_concL {e e' : List Value} (h : concL μ2 e = concL μ e') (t : Nat) : conc μ2 (getV e t) = conc μ (getV e' t) := by
  rw [← getD_conc, ← getD_conc, h]
theorem evc_of_concL {e e' : List Value} (h : concL μ2 e = concL μ e') : evc μ2 e = evc μ e' := by
  funext x
  cases x with
  | tmp t => exact getV_of_concL h t
  | _ => rfl
theorem concL_put {e e' : List Value} {d : Option Nat} {x x' : Value} (h : concL μ2 e = concL μ e') (hx : conc μ2 x = conc μ x') : concL μ2 (put e d x) = concL μ (put e' d x') := by
  cases d with
  | none => exact h
  | some d => simp only [put, setV_eq, concL_eq, List.map_set] at *; rw [h, hx]

variable {ops : Array Oper} {l : List IOper} {bf : List Nat} {e0 : List Value} {v : Nat → Value}
theorem sees_agree (hu : ∀ t i j, dstOf l i = some t → dstOf l j = some t → i = j) (hs : vSees l bf 0 ops.toList l = true) {i : Nat} {o : Oper} {io : IOper} (ho : ops[i]? = some o) (hio : nthO l i = some io) {C S : List Nat}
    (hC : Clo bf C) (hCb : ∀ j, (nthN bf i).testBit j = true → j ∈ C) (hCi : isR io.op = false → i ∉ C) (hS : Pos bf i S) : ∀ t ∈ seesT o io, getV (tm l v e0 S) t = getV (tm l v e0 C) t := by
  intro t ht
  refine tm_agree (hu t) fun j hj => ?_
  have := vSees_spec hs i o io (by simpa using ho) (by rw [← nthO_eq]; exact hio) t ht j hj
  simp only [Nat.zero_add] at this
  rcases this with h1 | ⟨hr, h1 | h1⟩
  · exact ⟨fun _ => hCb j h1, fun _ => hS.ahead j h1⟩
  · subst h1; exact ⟨fun h => absurd h hS.out, fun h => absurd h (hCi hr)⟩
  · exact ⟨fun h => absurd (hS.clo j h i h1) hS.out, fun h => absurd (hC j h i h1) (hCi hr)⟩
theorem wanted_agree {o : Oper} {io : IOper} {e e' : List Value} (h : ∀ t ∈ seesT o io, getV e t = getV e' t) : io.wanted e = io.wanted e' := by
  unfold IOper.wanted
  cases hg : io.guard with
  | none => rfl
  | some p =>
    obtain ⟨d, want⟩ := p
    simp only
    rw [h d (by simp [seesT, hg])]
theorem cOp_noselect {op : Op} {io : IOp} (h : cOp P ts op = some io) : ∀ cs b, op ≠ .select cs b := by
  intro cs b hc; subst hc; simp [cOp] at h
theorem exec_agree {o : Oper} {io : IOper} {q : IOp} (hq : cOp P ts o.op = some q) {e e' : List Value} (h : ∀ t ∈ seesT o io, getV e t = getV e' t) : execOp (evc μ e) o = execOp (evc μ e') o := by
  refine execOp_congr o (cOp_noselect hq) fun x hx => ?_
  cases x with
  | tmp t =>
    simp only [evc]
    rw [h t (List.mem_append_right _ (List.mem_filterMap.2 ⟨.tmp t, by simpa using hx, rfl⟩))]
  | _ => rfl
end
end Go.Proofs.YtjpepfgbilbcdaaGreatDoor.Ai
