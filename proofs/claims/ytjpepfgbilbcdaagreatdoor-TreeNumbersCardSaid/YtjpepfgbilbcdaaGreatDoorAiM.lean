/- A PART OF THE PROOF THAT AN INTERPRETER OF THE PROGRAM'S FUNCTIONS IS SOUND: a step of it. -/
import Derived.Test.YtjpepfgbilbcdaaGreatDoorAiL
namespace Go.Proofs.YtjpepfgbilbcdaaGreatDoor.Ai
open Go
set_option linter.unusedSimpArgs false

/-! ### the machine's memory, written to -/
theorem setCell_heap (w : World) (b o : Nat) (v : Value) {C : Array Value} {t : TypeId} {fr : Nat × Nat} (h : w.heap[b]? = some (.cells C t fr)) :
    (w.setCell ⟨b, o, none⟩ v).heap.size = w.heap.size ∧ (w.setCell ⟨b, o, none⟩ v).heap[b]? = some (.cells (C.setIfInBounds o v) t fr) ∧ ∀ j, j ≠ b → (w.setCell ⟨b, o, none⟩ v).heap[j]? = w.heap[j]? := by
  refine ⟨by simp [World.setCell], ?_, ?_⟩
  · simp only [World.setCell, Array.getElem?_modify, h]
    simp
  · intro j hj
    simp only [World.setCell, Array.getElem?_modify]
    rw [if_neg (by omega)]
structure RowPut (w w' : World) (b o : Nat) (vs : List Value) (C : Array Value) (t : TypeId) (fr : Nat × Nat) : Prop where
  size : w'.heap.size = w.heap.size
  row : ∃ C', w'.heap[b]? = some (.cells C' t fr) ∧ C'.size = C.size ∧ ∀ k, C'[k]? = if o ≤ k ∧ k < o + vs.length ∧ k < C.size then vs[k - o]? else C[k]?
  other : ∀ j, j ≠ b → w'.heap[j]? = w.heap[j]?
  os : w'.os = w.os
  tape : w'.tape = w.tape
  output : w'.output = w.output
theorem setCells_put (b : Nat) (t : TypeId) (fr : Nat × Nat) : ∀ (vs : List Value) (o : Nat) (w : World) (C : Array Value), w.heap[b]? = some (.cells C t fr) → RowPut w (w.setCells b o vs) b o vs C t fr
  | [], o, w, C, h => ⟨rfl, ⟨C, h, rfl, fun k => by simp; intro h1 h2; omega⟩, fun _ _ => rfl, rfl, rfl, rfl⟩
  | v :: vs, o, w, C, h => by
    obtain ⟨h1, h2, h3⟩ := setCell_heap w b o v h
    obtain ⟨g1, ⟨C', g2, g3, g4⟩, g5, g6, g7, g8⟩ := setCells_put b t fr vs (o + 1) (w.setCell ⟨b, o, none⟩ v) _ h2
    refine ⟨g1.trans h1, ⟨C', g2, by simpa using g3, fun k => ?_⟩, fun j hj => (g5 j hj).trans (h3 j hj), g6, g7, g8⟩
    rw [g4 k]
    simp only [Array.size_setIfInBounds, List.length_cons, Array.getElem?_setIfInBounds]
    by_cases hk : o = k
    · subst hk
      rw [if_neg (by omega)]
      by_cases hs : o < C.size
      · rw [if_pos rfl, if_pos hs, if_pos (by omega)]; simp
      · rw [if_pos rfl, if_neg hs, if_neg (by omega), Array.getElem?_eq_none (by omega)]
    · by_cases hc : o + 1 ≤ k ∧ k < o + 1 + vs.length ∧ k < C.size
      · rw [if_pos hc, if_pos (by omega), show k - o = (k - (o + 1)) + 1 by omega]; simp
      · rw [if_neg hc, if_neg hk, if_neg (by omega)]
theorem allCells_iff : ∀ {l : List Value}, allCells l = true ↔ ∀ v ∈ l, v.oneCell' = true
  | [] => by simp [allCells]
  | v :: l => by simp [allCells, allCells_iff (l := l), isCell_oneCell]
theorem allCells_conc (μ : Nat → Loc) : ∀ {l : List Value}, allCells l = true → ∀ v ∈ concL μ l, v.oneCell' = true
  | [], _ => by simp [concL]
  | v :: l, h => by
    simp [allCells] at h
    intro x hx
    simp [concL] at hx
    rcases hx with rfl | hx
    · rw [← isCell_oneCell, isCell_conc]; exact h.1
    · exact allCells_conc μ h.2 x hx
theorem run_storeRow {P : Program} {w : World} {b o : Nat} {vs : List Value} {C : Array Value} {t : TypeId} {fr : Nat × Nat} (h : w.heap[b]? = some (.cells C t fr)) (hs : o + vs.length ≤ C.size)
    (hf : ∀ j, j < vs.length → w.frozen? ⟨b, o + j, none⟩ = false) (h1 : ∀ v ∈ vs, v.oneCell' = true) : ∃ w', (storeCells ⟨b, o, none⟩ vs).run P w = .ok () w' ∧ RowPut w w' b o vs C t fr := by
  refine ⟨w.setCells b o vs, ?_, setCells_put b t fr vs o w C h⟩
  have := run_storeCells_cells (P := P) b o vs 0 w (fun j hj => by
    have : o + j < C.size := by omega
    simp [World.cell?, h, this]) (by simpa using hf) h1
  simpa using this

/-! ### the abstract memory, kept -/
section
variable {P : Program} {ng : Nat} {ts : List TypeId} {N0 : Nat} {μ μ' : Nat → Loc} {σ : AW} {w w' : World}

theorem frozen_of {w w' : World} {B : Nat} (h : w'.heap[B]? = w.heap[B]?) (k : Nat) : w'.frozen? ⟨B, k, none⟩ = w.frozen? ⟨B, k, none⟩ := by simp [World.frozen?, h]
theorem BRep.mono {n n' i : Nat} {b : Blk} (h : BRep P ng ts μ n i w b) (ha : ∀ k, k < n → μ' k = μ k) (hi : i < n) (hn : n ≤ n') (hw : w'.heap[(μ i).blk]? = w.heap[(μ i).blk]?) : BRep P ng ts μ' n' i w' b := by
  have hc : ∀ v, lt n v = true → conc μ' v = conc μ v := fun v hv => conc_congr (fun k hk => ha k hk) v hv
  have hcL : ∀ l, ltL n l = true → concL μ' l = concL μ l := fun l hl => concL_congr (fun k hk => ha k hk) l hl
  cases b with
  | cells b =>
    obtain ⟨h1, h2, h2b, h3, C, tt, fr, h4, htt, h5, h6⟩ := h
    refine ⟨ltL_mono hn _ h1, by rw [ha i hi]; exact h2, by rw [ha i hi]; exact h2b, ?_, C, tt, fr, ?_, htt, ?_, ?_⟩
    · intro hf k hk1 hk2
      rw [ha i hi] at hk1 hk2 ⊢
      rw [frozen_of hw]
      exact h3 hf k hk1 hk2
    · rw [ha i hi, hw, h4]
    · rw [ha i hi, h5]
    · intro k v hk
      rw [ha i hi, hc v (ltL_getElem h1 hk)]
      exact h6 k v hk
  | map es clock =>
    obtain ⟨h1, h2⟩ := h
    refine ⟨fun x hx => ⟨lt_mono hn _ (h1 x hx).1, lt_mono hn _ (h1 x hx).2⟩, ?_⟩
    rw [ha i hi, hw, h2]
    congr 3
    apply List.map_congr_left
    intro x hx
    rw [hc _ (h1 x hx).1, hc _ (h1 x hx).2]
  | loop r =>
    obtain ⟨h1, h2, fn, as, bo, h3, h4⟩ := h
    refine ⟨ltL_mono hn _ h1, by omega, fn, as, bo, ?_, h4⟩
    rw [ha i hi, hw, h3, hcL _ h1, ha _ h2]
  | deferred t => show w'.heap[(μ' i).blk]? = _; rw [ha i hi, hw]; exact h
  | strIter s p => show w'.heap[(μ' i).blk]? = _; rw [ha i hi, hw]; exact h

def upd (μ : Nat → Loc) (i : Nat) (l : Loc) : Nat → Loc := fun k => if k = i then l else μ k
theorem upd_same (μ : Nat → Loc) (i : Nat) (l : Loc) : upd μ i l i = l := by simp [upd]
theorem upd_ne (μ : Nat → Loc) {i k : Nat} (l : Loc) (h : k ≠ i) : upd μ i l k = μ k := by simp [upd, h]

theorem push_get (w : World) (o : Obj) {B : Nat} (h : B < w.heap.size) : (w.heap.push o)[B]? = w.heap[B]? := by
  rw [Array.getElem?_push]; rw [if_neg (by omega)]

/-- a new block, in a new place -/
theorem Rep.push (h : Rep P ng ts N0 μ σ w) {i : Nat} {b : Blk} {σ' : AW} (hp : σ.push b = some (i, σ')) {ob : Obj} {ex : Nat} (hro : isRo b = false)
    (hal : ∀ c, b = .cells c → ∀ j ∈ c.al, j < σ.next ∧ ∀ bj, σ.heap.get j = some bj → ∃ cj, bj = .cells cj ∧ cj.retired = true ∧ cj.ro = false)
    (hos : w'.os = w.os) (htp : w'.tape = w.tape) (hout : w'.output = w.output) (hheap : w'.heap = w.heap.push ob)
    (hb : BRep P ng ts (upd μ σ.next ⟨w.heap.size, 0, ex⟩) (σ.next + 1) σ.next w' b) :
    i = σ.next ∧ σ'.next = σ.next + 1 ∧ Rep P ng ts N0 (upd μ σ.next ⟨w.heap.size, 0, ex⟩) σ' w' ∧ Goes μ σ w (upd μ σ.next ⟨w.heap.size, 0, ex⟩) σ' w' := by
  unfold AW.push at hp
  split at hp
  · rename_i hm
    simp only [Option.some.injEq, Prod.mk.injEq] at hp
    obtain ⟨rfl, rfl⟩ := hp
    have hget : ∀ k, (σ.heap.set σ.next b).get k = if k = σ.next then some b else σ.heap.get k := fun k => Tr.get_set _ _ _ _ (by unfold most at hm; omega)
    have hlt : ∀ k c, σ.heap.get k = some c → k < σ.next := fun k c hk => (h.blk k c hk).1
    have hagr : ∀ k, k < σ.next → upd μ σ.next ⟨w.heap.size, 0, ex⟩ k = μ k := fun k hk => upd_ne _ _ (by omega)
    have hbl : ∀ k c, σ.heap.get k = some c → (μ k).blk < w.heap.size := by
      intro k c hk
      cases hr : isRo c with
      | false => exact (h.own k c hk hr).2
      | true => exact Nat.lt_of_lt_of_le (h.ro k c hk hr) h.big
    refine ⟨rfl, rfl, ⟨?_, ?_, ?_, ?_, ?_, ?_, ?_, ?_⟩, ⟨by simp, hagr, hos, htp, hout, by rw [hheap]; simp, ?_, ?_⟩⟩
    · exact ⟨fun g hg => by rw [hagr g (Nat.lt_of_lt_of_le hg h.ngn)]; exact h.glob.out g hg⟩
    · have := h.ngn; simp; omega
    · intro k c hk
      rw [hget] at hk
      split at hk
      · rename_i hks; subst hks; simp at hk; subst hk
        exact ⟨by simp, hm, hb⟩
      · obtain ⟨h1, h2, h3⟩ := h.blk k c hk
        refine ⟨by simp; omega, h2, h3.mono hagr h1 (by simp) ?_⟩
        rw [hheap, push_get w ob (hbl k c hk)]
    · intro k c hk hr
      rw [hget] at hk
      split at hk
      · rename_i hks; subst hks
        rw [upd_same, hheap]; simp; exact h.big
      · rw [hagr k (hlt k c hk), hheap]
        have := h.own k c hk hr
        simp; omega
    · intro k c hk hr
      rw [hget] at hk
      split at hk
      · simp at hk; subst hk; rw [hro] at hr; simp at hr
      · rw [hagr k (hlt k c hk)]; exact h.ro k c hk hr
    · intro k j bk bj hk hj hrk hrj hkj he
      rw [hget] at hk hj
      split at hk
      · rename_i hks
        split at hj
        · omega
        · have := hlt j bj hj; omega
      · split at hj
        · rename_i hjs; subst hjs
          rw [upd_same, hagr k (hlt k bk hk)] at he
          have := hbl k bk hk
          simp at he; omega
        · have h1 := hagr k (hlt k bk hk)
          have h2 := hagr j (hlt j bj hj)
          rw [h1, h2] at he ⊢
          exact h.dis k j bk bj hk hj hrk hrj hkj he
    · intro j cj hj k hk
      rw [hget] at hj
      split at hj
      · rename_i hjs; subst hjs
        simp at hj
        obtain ⟨h1, h2⟩ := hal cj hj k hk
        refine ⟨h1, fun bk hbk => ?_⟩
        rw [hget, if_neg (by omega)] at hbk
        exact h2 bk hbk
      · obtain ⟨h1, h2⟩ := h.al j cj hj k hk
        refine ⟨h1, fun bk hbk => ?_⟩
        have := hlt j _ hj
        rw [hget, if_neg (by omega)] at hbk
        exact h2 bk hbk
    · rw [hheap]; have := h.big; simp; omega
    · intro B hB _
      rw [hheap, push_get w ob hB]
    · intro k c hk hr
      rw [hget] at hk
      split at hk
      · rename_i hks; subst hks; left; rw [upd_same]; exact Nat.le_refl _
      · right; exact ⟨k, c, hk, hr, by rw [hagr k (hlt k c hk)]⟩
  · simp at hp

theorem get_killAll : ∀ (l : List Nat) (h : Tr Blk), (∀ i ∈ l, i < most) → ∀ k, (killAll l h).get k = if k ∈ l then none else h.get k
  | [], h, _, k => by simp [killAll]
  | i :: l, h, hm, k => by
    simp only [killAll, List.mem_cons]
    rw [get_killAll l _ (fun j hj => hm j (by simp [hj])) k, Tr.get_del _ _ _ (by have := hm i (by simp); unfold most at this; omega)]
    by_cases h1 : k ∈ l
    · simp [h1]
    · by_cases h2 : k = i
      · simp [h2]
      · simp [h1, h2]

/-- a block of one's own, written over -/
theorem Rep.update (h : Rep P ng ts N0 μ σ w) {i : Nat} {b b' : CB} (hi : σ.heap.get i = some (.cells b)) (hro : b.ro = false) (hret : b.retired = false) (hro' : b'.ro = false) (hal : b'.al = [])
    (hos : w'.os = w.os) (htp : w'.tape = w.tape) (hout : w'.output = w.output) (hsz : w'.heap.size = w.heap.size) (hoth : ∀ j, j ≠ (μ i).blk → w'.heap[j]? = w.heap[j]?)
    (hb : CellsRep μ σ.next i b' w') : Rep P ng ts N0 μ { σ with heap := (killAll b.al σ.heap).set i (.cells b') } w' ∧ Goes μ σ w μ { σ with heap := (killAll b.al σ.heap).set i (.cells b') } w' := by
  have him := (h.blk i _ hi).2.1
  have hin := (h.blk i _ hi).1
  have halm : ∀ j ∈ b.al, j < most := fun j hj => by have := (h.al i b hi j hj).1; omega
  have hget : ∀ k, ((killAll b.al σ.heap).set i (.cells b')).get k = if k = i then some (.cells b') else if k ∈ b.al then none else σ.heap.get k := by
    intro k
    rw [Tr.get_set _ _ _ _ (by unfold most at him; omega), get_killAll _ _ halm]
  have hold : ∀ k c, ((killAll b.al σ.heap).set i (.cells b')).get k = some c → k ≠ i → σ.heap.get k = some c ∧ k ∉ b.al := by
    intro k c hk hne
    rw [hget, if_neg hne] at hk
    split at hk
    · simp at hk
    · rename_i hn; exact ⟨hk, hn⟩
  -- no other block that lives lies there
  have hsep : ∀ k c, ((killAll b.al σ.heap).set i (.cells b')).get k = some c → k ≠ i → isRo c = false → (μ k).blk ≠ (μ i).blk := by
    intro k c hk hne hr he
    obtain ⟨h1, h2⟩ := hold k c hk hne
    rcases Nat.lt_or_gt_of_ne hne with hlt | hgt
    · obtain ⟨ci, cj, e1, e2, e3, _⟩ := h.dis k i c _ h1 hi hr (by simp [isRo, hro]) hlt he
      simp at e2; subst e2
      exact h2 e3
    · obtain ⟨ci, cj, e1, e2, e3, e4, _⟩ := h.dis i k _ c hi h1 (by simp [isRo, hro]) hr hgt he.symm
      simp at e1; subst e1
      rw [hret] at e4; simp at e4
  have hsep' : ∀ k c, ((killAll b.al σ.heap).set i (.cells b')).get k = some c → k ≠ i → (μ k).blk ≠ (μ i).blk := by
    intro k c hk hne
    cases hr : isRo c with
    | false => exact hsep k c hk hne hr
    | true =>
      have := h.ro k c (hold k c hk hne).1 hr
      have := (h.own i _ hi (by simp [isRo, hro])).1
      omega
  refine ⟨⟨h.glob, h.ngn, ?_, ?_, ?_, ?_, ?_, by rw [hsz]; exact h.big⟩, ⟨Nat.le_refl _, fun _ _ => rfl, hos, htp, hout, by omega, ?_, ?_⟩⟩
  · intro k c hk
    by_cases hne : k = i
    · subst hne
      rw [hget, if_pos rfl] at hk
      simp at hk; subst hk
      exact ⟨hin, him, hb⟩
    · obtain ⟨h1, h2, h3⟩ := h.blk k c (hold k c hk hne).1
      exact ⟨h1, h2, h3.mono (fun _ _ => rfl) h1 (Nat.le_refl _) (hoth _ (hsep' k c hk hne))⟩
  · intro k c hk hr
    by_cases hne : k = i
    · subst hne
      rw [hsz]; exact h.own k _ hi (by simp [isRo, hro])
    · rw [hsz]; exact h.own k c (hold k c hk hne).1 hr
  · intro k c hk hr
    by_cases hne : k = i
    · subst hne
      rw [hget, if_pos rfl] at hk
      simp at hk; subst hk
      simp [isRo, hro'] at hr
    · exact h.ro k c (hold k c hk hne).1 hr
  · intro k j bk bj hk hj hrk hrj hkj he
    by_cases h1 : k = i
    · subst h1
      exact absurd he.symm (hsep j bj hj (by omega) hrj)
    · by_cases h2 : j = i
      · subst h2
        exact absurd he (hsep k bk hk h1 hrk)
      · exact h.dis k j bk bj (hold k bk hk h1).1 (hold j bj hj h2).1 hrk hrj hkj he
  · intro j cj hj k hk
    by_cases h1 : j = i
    · subst h1
      rw [hget, if_pos rfl] at hj
      simp at hj; subst hj
      rw [hal] at hk; simp at hk
    · obtain ⟨g1, g2⟩ := h.al j cj (hold j _ hj h1).1 k hk
      refine ⟨g1, fun bk hbk => ?_⟩
      by_cases h2 : k = i
      · subst h2
        obtain ⟨ck, e1, e2, _⟩ := g2 _ hi
        simp at e1; subst e1
        rw [hret] at e2; simp at e2
      · exact g2 bk (hold k bk hbk h2).1
  · intro B hB hn
    exact hoth B fun he => hn i _ hi (by simp [isRo, hro]) he.symm
  · intro k c hk hr
    right
    by_cases hne : k = i
    · subst hne
      exact ⟨k, _, hi, by simp [isRo, hro], rfl⟩
    · exact ⟨k, c, (hold k c hk hne).1, hr, rfl⟩
end
end Go.Proofs.YtjpepfgbilbcdaaGreatDoor.Ai
