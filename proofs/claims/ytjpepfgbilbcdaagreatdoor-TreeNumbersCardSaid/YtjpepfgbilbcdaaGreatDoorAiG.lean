/- A PART OF THE PROOF THAT AN INTERPRETER OF THE PROGRAM'S FUNCTIONS IS SOUND: a step of it. -/
import Derived.Test.YtjpepfgbilbcdaaGreatDoorAiF
namespace Go.Proofs.YtjpepfgbilbcdaaGreatDoor.Ai
open Go
set_option linter.unusedSimpArgs false

section
variable {P : Program} {ng n : Nat} {ts : List TypeId} {μ : Nat → Loc} {e : List Value} {w : World}

/-! ### parts of structs -/
theorem partV_lt {m : Option Nat} {cs : List Value} {off : Nat} {v : Value} (h : partV m cs off = some v) (hl : ltL n cs = true) : lt n v = true := by
  unfold partV at h
  split at h
  · simp at h; subst h
    simp only [lt_agg]
    exact ltL_sub hl fun v hv => List.mem_of_mem_take (List.mem_of_mem_drop hv)
  · rw [nthV_eq] at h
    exact ltL_getElem hl h
theorem partOf_some {t : TypeId} {m : Option Nat} (h : partOf P t = some m) : (m = none ∧ aggOf P t = some false ∧ szOf P t = some 1) ∨ ∃ k, m = some k ∧ aggOf P t = some true ∧ szOf P t = some k := by
  unfold partOf at h
  split at h
  · rename_i k h1 h2; simp at h; subst h; exact .inr ⟨k, rfl, h1, h2⟩
  · rename_i h1 h2; simp at h; subst h; exact .inl ⟨rfl, h1, h2⟩
  · simp at h
theorem part_sound {t : TypeId} {m : Option Nat} (ht : partOf P t = some m) {cs : List Value} {off : Nat} {v : Value} (h : partV m cs off = some v) (w : World) :
    (part t ⟨concL μ cs⟩ off).run P w = .ok (conc μ v) w := by
  rcases partOf_some ht with ⟨rfl, h1, _⟩ | ⟨k, rfl, h1, h2⟩
  · simp only [partV, nthV_eq] at h
    simp [part, run_agg h1, concL_getElem?, h]
  · simp only [partV, Option.some.injEq] at h
    subst h
    simp only [part, Sem.run_bind, run_agg h1, Result.andThen_ok, if_true, run_sz h2, Sem.run_pure, conc_agg]
    congr 2
    apply Array.ext'
    simp only [concL_eq, List.map_drop, List.map_take, List.toList_toArray, Array.toList_extract, List.extract_eq_take_drop]
    rw [List.drop_take]

/-! ### structs and rows that are filled -/
theorem cells_conc (v : Value) : (conc μ v).cells.toList = concL μ (cellsOf v) := by
  cases v with
  | agg a => cases a; simp [cellsOf, Value.cells]
  | pointer a => cases a <;> simp [cellsOf, Value.cells, concL]
  | slice a _ _ => cases a <;> simp [cellsOf, Value.cells, concL]
  | map a => cases a <;> simp [cellsOf, Value.cells, concL]
  | func f a b => cases a; cases b; simp [cellsOf, Value.cells, concL]
  | tuple a => cases a; simp [cellsOf, Value.cells, concL]
  | _ => simp [cellsOf, Value.cells, concL, conc]
theorem cellsOf_lt {v : Value} (h : lt n v = true) : ltL n (cellsOf v) = true := by
  cases v with
  | agg a => cases a; simpa [cellsOf] using h
  | _ => simp [cellsOf, ltL, h]
theorem splice_lt {cs vs r : List Value} {k : Nat} (h : spliceV cs k vs = some r) (h1 : ltL n cs = true) (h2 : ltL n vs = true) : ltL n r = true := by
  obtain ⟨_, _, h3⟩ := spliceV_some _ _ _ _ h
  rw [ltL_iff]
  intro v hv
  obtain ⟨i, hi⟩ := List.getElem?_of_mem hv
  rw [h3 i] at hi
  split at hi
  · exact ltL_getElem h2 hi
  · exact ltL_getElem h1 hi
theorem foldl_set (vs : List Value) : ∀ (cs : Array Value) (off j0 : Nat),
    ((vs.zipIdx j0).foldl (fun cs (c, j) => cs.setIfInBounds (off + j) c) cs).size = cs.size ∧
    ∀ k, ((vs.zipIdx j0).foldl (fun cs (c, j) => cs.setIfInBounds (off + j) c) cs)[k]? = if off + j0 ≤ k ∧ k < off + j0 + vs.length ∧ k < cs.size then vs[k - off - j0]? else cs[k]? := by
  induction vs with
  | nil => intro cs off j0; simp
           intro k h1 h2; omega
  | cons v vs ih =>
    intro cs off j0
    simp only [List.zipIdx_cons, List.foldl_cons]
    obtain ⟨h1, h2⟩ := ih (cs.setIfInBounds (off + j0) v) off (j0 + 1)
    refine ⟨by simpa using h1, fun k => ?_⟩
    rw [h2 k]
    simp only [Array.size_setIfInBounds, List.length_cons, Array.getElem?_setIfInBounds]
    by_cases hk : off + j0 = k
    · subst hk
      by_cases hs : off + j0 < cs.size
      · rw [if_neg (by omega), if_pos rfl, if_pos hs, if_pos (by omega)]
        simp [Nat.sub_self, show off + j0 - off - j0 = 0 by omega]
      · rw [if_neg (by omega), if_pos rfl, if_neg hs, if_neg (by omega)]
        rw [Array.getElem?_eq_none (by omega)]
    · by_cases hc : off + (j0 + 1) ≤ k ∧ k < off + (j0 + 1) + vs.length ∧ k < cs.size
      · rw [if_pos hc, if_pos (by omega)]
        rw [show k - off - j0 = (k - off - (j0 + 1)) + 1 by omega]
        simp
      · rw [if_neg hc, if_neg hk, if_neg (by omega)]
theorem fill_step {cs vs r : List Value} {off : Nat} (h : spliceV cs off vs = some r) (hb : off + vs.length ≤ cs.length) :
    ((concL μ vs).toArray.zipIdx.foldl (fun cs (c, j) => cs.setIfInBounds (off + j) c) (⟨concL μ cs⟩ : Array Value)) = ⟨concL μ r⟩ := by
  obtain ⟨_, h2, h3⟩ := spliceV_some _ _ _ _ h
  obtain ⟨g1, g2⟩ := foldl_set (concL μ vs) ⟨concL μ cs⟩ off 0
  have e : (concL μ vs).toArray.zipIdx.foldl (fun cs (c, j) => cs.setIfInBounds (off + j) c) (⟨concL μ cs⟩ : Array Value) =
      ((concL μ vs).zipIdx 0).foldl (fun cs (c, j) => cs.setIfInBounds (off + j) c) ⟨concL μ cs⟩ := by
    rw [← Array.foldl_toList]; simp
  rw [e]
  apply Array.ext'
  apply List.ext_getElem?
  intro k
  rw [Array.getElem?_toList, g2 k]
  simp only [concL_length, List.size_toArray, List.getElem?_toArray, concL_getElem?, h3 k, Nat.add_zero, Nat.sub_zero]
  by_cases hk : off ≤ k ∧ k < off + vs.length
  · rw [if_pos hk, if_pos ⟨hk.1, hk.2, by omega⟩]
  · rw [if_neg hk, if_neg (by omega)]

/-- where the parts go -/
structure PartsOK (place : Nat → Option (Nat × Nat)) (μ : Nat → Loc) (e : List Value) (ps : List (Nat × Value)) (qs : List (Nat × Nat × Opd)) : Prop where
  out : ps.length = qs.length ∧ ∀ (k i : Nat) (v : Value) (off m : Nat) (x : Opd), ps[k]? = some (i, v) → qs[k]? = some (off, m, x) → place i = some (off, m) ∧ v = conc μ (x.ev e)
theorem fill_sound {place : Nat → Option (Nat × Nat)} : ∀ (qs : List (Nat × Nat × Opd)) (ps : List (Nat × Value)) (cs r : List Value), PartsOK place μ e ps qs →
    fillV e cs qs = some r → (∀ q ∈ qs, q.2.1 ≠ 0) → Instr.fill place (⟨concL μ cs⟩ : Array Value) ps = some ⟨concL μ r⟩ := by
  intro qs
  induction qs with
  | nil =>
    intro ps cs r h hr _
    have : ps = [] := by simpa using h.out.1
    subst this
    simp [fillV] at hr; subst hr
    simp [Instr.fill]
  | cons q qs ih =>
    intro ps cs r h hr h0
    obtain ⟨off, m, x⟩ := q
    cases ps with
    | nil => have := h.out.1; simp at this
    | cons p ps =>
      obtain ⟨i, v⟩ := p
      obtain ⟨hp, hv⟩ := h.out.2 0 i v off m x rfl rfl
      simp only [fillV] at hr
      split at hr
      · rename_i hm
        simp only [Option.bind_eq_some_iff] at hr
        obtain ⟨c2, hc2, hr⟩ := hr
        have hm0 : m ≠ 0 := h0 (off, m, x) (by simp)
        obtain ⟨hb, hlen, _⟩ := spliceV_some _ _ _ _ hc2
        have hb' : off + (cellsOf (x.ev e)).length ≤ cs.length := by
          rcases hb with hb | hb
          · rw [hb] at hm; simp at hm; omega
          · exact hb
        have hcells : v.cells = (concL μ (cellsOf (x.ev e))).toArray := by
          rw [hv]; apply Array.ext'; simp [cells_conc]
        simp only [Instr.fill, hp]
        rw [if_neg (by rw [hcells]; simp [concL_length, hm]; omega), hcells, fill_step hc2 hb']
        exact ih ps c2 r ⟨by have := h.out.1; simpa using this, fun k i v off m x h1 h2 => h.out.2 (k + 1) i v off m x (by simpa using h1) (by simpa using h2)⟩ hr
          (fun q hq => h0 q (by simp [hq]))
      · simp at hr
theorem fill_lt : ∀ (qs : List (Nat × Nat × Opd)) (cs r : List Value), fillV e cs qs = some r → ltL n cs = true → (∀ q ∈ qs, lt n (q.2.2.ev e) = true) → ltL n r = true := by
  intro qs
  induction qs with
  | nil => intro cs r h hl _; simp [fillV] at h; subst h; exact hl
  | cons q qs ih =>
    intro cs r h hl hq
    obtain ⟨off, m, x⟩ := q
    simp only [fillV] at h
    split at h
    · simp only [Option.bind_eq_some_iff] at h
      obtain ⟨c2, hc2, hr⟩ := h
      exact ih _ _ hr (splice_lt hc2 hl (cellsOf_lt (hq (off, m, x) (by simp)))) fun q hq' => hq q (by simp [hq'])
    · simp at h
end
end Go.Proofs.YtjpepfgbilbcdaaGreatDoor.Ai
