/- A PART OF THE PROOF THAT AN INTERPRETER OF THE PROGRAM'S FUNCTIONS IS SOUND: a step of it. -/
import Derived.Test.YtjpepfgbilbcdaaGreatDoorAiJ
namespace Go.Proofs.YtjpepfgbilbcdaaGreatDoor.Ai
open Go
set_option linter.unusedSimpArgs false

/-! ### the abstract memory and the machine's -/
def isRo : Blk → Bool
  | .cells b => b.ro
  | _ => false
def cExit : IExit → Option Code
  | .exit i => some (.exit i)
  | .ret => some .ret
  | _ => none

structure CellsRep (μ : Nat → Loc) (n i : Nat) (b : CB) (w : World) : Prop where
  l : ltL n b.cs = true
  ex : b.exact = true → (μ i).ex = 0
  sh0 : b.exact = true → b.ro = false → (μ i).sh = 0
  fz : b.frozen = false → ∀ k, (μ i).sh ≤ k → k < (μ i).sh + b.cs.length + (μ i).ex * b.esz → w.frozen? ⟨(μ i).blk, k, none⟩ = false
  cell : ∃ C t fr, w.heap[(μ i).blk]? = some (.cells C t fr) ∧ (b.ro = false → t = b.ty) ∧ C.size = (μ i).sh + b.cs.length + (μ i).ex * b.esz ∧
    ∀ k v, b.cs[k]? = some v → C[(μ i).sh + k]? = some (conc μ v)
structure LoopRep (P : Program) (ng : Nat) (ts : List TypeId) (μ : Nat → Loc) (n i : Nat) (r : ALoop) (w : World) : Prop where
  l : ltL n r.tmps = true
  d : r.defers < n
  o : ∃ fn assign body, w.heap[(μ i).blk]? = some (.loop { state := r.state, pending := r.pending.bind cExit, fn, tmps := ⟨concL μ r.tmps⟩, params := ⟨r.params⟩, assign, body, defers := (μ r.defers).blk }) ∧
    cCode P ng ts assign = some r.assign ∧ cCode P ng ts body = some r.body
structure MapRep (μ : Nat → Loc) (n i : Nat) (es : List (Value × Value × Nat)) (clock : Nat) (w : World) : Prop where
  l : ∀ x ∈ es, lt n x.1 = true ∧ lt n x.2.1 = true
  o : w.heap[(μ i).blk]? = some (.map (es.map fun x => { key := conc μ x.1, val := conc μ x.2.1, born := x.2.2 }).toArray clock)
def BRep (P : Program) (ng : Nat) (ts : List TypeId) (μ : Nat → Loc) (n i : Nat) (w : World) : Blk → Prop
  | .cells b => CellsRep μ n i b w
  | .map es clock => MapRep μ n i es clock w
  | .loop r => LoopRep P ng ts μ n i r w
  | .deferred taken => w.heap[(μ i).blk]? = some (.deferred (if taken then none else some []))
  | .strIter s pos => w.heap[(μ i).blk]? = some (.stringIter s pos)

structure Rep (P : Program) (ng : Nat) (ts : List TypeId) (N0 : Nat) (μ : Nat → Loc) (σ : AW) (w : World) : Prop where
  glob : Glob ng μ
  ngn : ng ≤ σ.next
  blk : ∀ i b, σ.heap.get i = some b → i < σ.next ∧ i < most ∧ BRep P ng ts μ σ.next i w b
  own : ∀ i b, σ.heap.get i = some b → isRo b = false → N0 ≤ (μ i).blk ∧ (μ i).blk < w.heap.size
  ro : ∀ i b, σ.heap.get i = some b → isRo b = true → (μ i).blk < N0
  dis : ∀ i j bi bj, σ.heap.get i = some bi → σ.heap.get j = some bj → isRo bi = false → isRo bj = false → i < j → (μ i).blk = (μ j).blk →
    ∃ ci cj, bi = .cells ci ∧ bj = .cells cj ∧ i ∈ cj.al ∧ ci.retired = true ∧ (μ i).sh + ci.cs.length ≤ (μ j).sh + cj.cs.length
  al : ∀ j cj, σ.heap.get j = some (.cells cj) → ∀ i ∈ cj.al, i < j ∧ ∀ bi, σ.heap.get i = some bi → ∃ ci, bi = .cells ci ∧ ci.retired = true ∧ ci.ro = false
  big : N0 ≤ w.heap.size

/-- from one pair of memories to a later one -/
structure Goes (μ : Nat → Loc) (σ : AW) (w : World) (μ' : Nat → Loc) (σ' : AW) (w' : World) : Prop where
  next : σ.next ≤ σ'.next
  agr : ∀ i, i < σ.next → μ' i = μ i
  os : w'.os = w.os
  tape : w'.tape = w.tape
  output : w'.output = w.output
  size : w.heap.size ≤ w'.heap.size
  keep : ∀ B, B < w.heap.size → (∀ i b, σ.heap.get i = some b → isRo b = false → (μ i).blk ≠ B) → w'.heap[B]? = w.heap[B]?
  fresh : ∀ i b, σ'.heap.get i = some b → isRo b = false → w.heap.size ≤ (μ' i).blk ∨ ∃ j c, σ.heap.get j = some c ∧ isRo c = false ∧ (μ j).blk = (μ' i).blk

theorem Goes.refl (μ : Nat → Loc) (σ : AW) (w : World) : Goes μ σ w μ σ w :=
  ⟨Nat.le_refl _, fun _ _ => rfl, rfl, rfl, rfl, Nat.le_refl _, fun _ _ _ => rfl, fun i b h hr => .inr ⟨i, b, h, hr, rfl⟩⟩
theorem Goes.trans {μ μ1 μ2 : Nat → Loc} {σ σ1 σ2 : AW} {w w1 w2 : World} (h : Goes μ σ w μ1 σ1 w1) (k : Goes μ1 σ1 w1 μ2 σ2 w2) : Goes μ σ w μ2 σ2 w2 where
  next := Nat.le_trans h.next k.next
  agr i hi := (k.agr i (Nat.lt_of_lt_of_le hi h.next)).trans (h.agr i hi)
  os := k.os.trans h.os
  tape := k.tape.trans h.tape
  output := k.output.trans h.output
  size := Nat.le_trans h.size k.size
  keep B hB hn := by
    rw [k.keep B (Nat.lt_of_lt_of_le hB h.size) ?_, h.keep B hB hn]
    intro i b hi hr he
    rcases h.fresh i b hi hr with h1 | ⟨j, c, h1, h2, h3⟩
    · omega
    · exact hn j c h1 h2 (h3.trans he)
  fresh i b hi hr := by
    rcases k.fresh i b hi hr with h1 | ⟨j, c, h1, h2, h3⟩
    · exact .inl (Nat.le_trans h.size h1)
    · rcases h.fresh j c h1 h2 with h4 | ⟨j', c', h4, h5, h6⟩
      · exact .inl (by omega)
      · exact .inr ⟨j', c', h4, h5, h6.trans h3⟩

section
variable {P : Program} {ng : Nat} {ts : List TypeId} {N0 : Nat} {μ : Nat → Loc} {σ : AW} {w : World}

theorem cells?_some {i : Nat} {b : CB} : σ.cells? i = some b ↔ σ.heap.get i = some (.cells b) := by
  unfold AW.cells?
  split
  · rename_i c hc; rw [hc]; simp
  · rename_i h
    constructor
    · simp
    · intro hc; exact absurd hc (h b)
theorem Rep.cells (h : Rep P ng ts N0 μ σ w) {i : Nat} {b : CB} (hb : σ.cells? i = some b) : CellsRep μ σ.next i b w := (h.blk i _ (cells?_some.1 hb)).2.2
theorem CellsRep.at {n i : Nat} {b : CB} (h : CellsRep μ n i b w) {k : Nat} {v : Value} (hk : b.cs[k]? = some v) : w.cell? ⟨(μ i).blk, (μ i).sh + k, none⟩ = some (conc μ v) := by
  obtain ⟨C, t, fr, h1, _, h2, h3⟩ := h.cell
  simp [World.cell?, h1, h3 k v hk]
/-- a block that is not only read has its type -/
theorem CellsRep.mine {n i : Nat} {b : CB} (h : CellsRep μ n i b w) (hro : b.ro = false) : ∃ C fr, w.heap[(μ i).blk]? = some (.cells C b.ty fr) ∧ C.size = (μ i).sh + b.cs.length + (μ i).ex * b.esz ∧
    ∀ k v, b.cs[k]? = some v → C[(μ i).sh + k]? = some (conc μ v) := by
  obtain ⟨C, t, fr, h1, ht, h2, h3⟩ := h.cell
  exact ⟨C, fr, by rw [← ht hro]; exact h1, h2, h3⟩
theorem CellsRep.mk' {n i : Nat} {b : CB} (l : ltL n b.cs = true) (ex : b.exact = true → (μ i).ex = 0) (sh0 : b.exact = true → b.ro = false → (μ i).sh = 0)
    (fz : b.frozen = false → ∀ k, (μ i).sh ≤ k → k < (μ i).sh + b.cs.length + (μ i).ex * b.esz → w.frozen? ⟨(μ i).blk, k, none⟩ = false)
    (cell : ∃ C fr, w.heap[(μ i).blk]? = some (.cells C b.ty fr) ∧ C.size = (μ i).sh + b.cs.length + (μ i).ex * b.esz ∧ ∀ k v, b.cs[k]? = some v → C[(μ i).sh + k]? = some (conc μ v)) : CellsRep μ n i b w := by
  obtain ⟨C, fr, h1, h2, h3⟩ := cell
  exact ⟨l, ex, sh0, fz, C, _, fr, h1, fun _ => rfl, h2, h3⟩
theorem CellsRep.shape {n i : Nat} {b : CB} (h : CellsRep μ n i b w) : ∃ t, (b.ro = false → t = b.ty) ∧ w.shape? (μ i).blk = some (t, (μ i).sh + b.cs.length + (μ i).ex * b.esz) := by
  obtain ⟨C, t, fr, h1, ht, h2, h3⟩ := h.cell
  exact ⟨t, ht, by simp [World.shape?, h1, h2]⟩

/-! ### reading -/
theorem rd_sound (h : Rep P ng ts N0 μ σ w) {a : Addr} (ha : a.spot = none) {v : Value} (hv : σ.rd a = some v) : w.cell? (cAddr μ a) = some (conc μ v) ∧ lt σ.next v = true := by
  unfold AW.rd at hv
  split at hv
  · rename_i b hb
    rw [nthV_eq] at hv
    have hc := h.cells hb
    rw [cAddr_eta μ a ha]
    exact ⟨hc.at hv, ltL_getElem hc.l hv⟩
  · simp at hv
theorem rdN_sound (h : Rep P ng ts N0 μ σ w) {a : Addr} (ha : a.spot = none) {k : Nat} {l : List Value} (hl : σ.rdN a k = some l) :
    (loadCells (cAddr μ a) k).run P w = .ok ⟨concL μ l⟩ w ∧ ltL σ.next l = true ∧ l.length = k := by
  unfold AW.rdN at hl
  split at hl
  · rename_i b hb
    obtain ⟨h1, rfl⟩ := (cutV_some _ _ _).1 hl
    rw [dropV_eq] at h1 ⊢
    have hc := h.cells hb
    have hlen : ((b.cs.drop a.off).take k).length = k := by rw [List.length_take]; omega
    refine ⟨?_, ltL_sub hc.l fun v hv => List.mem_of_mem_drop (List.mem_of_mem_take hv), hlen⟩
    have := run_loadCells_list (P := P) w (cAddr μ a) (concL μ ((b.cs.drop a.off).take k)) (by
      intro j v hj
      rw [concL_getElem?, Option.map_eq_some_iff] at hj
      obtain ⟨x, hx, rfl⟩ := hj
      have hjk : j < k := by
        have := (List.getElem?_eq_some_iff.1 hx).1
        omega
      rw [List.getElem?_take_of_lt hjk, List.getElem?_drop] at hx
      rw [cAddr_eta μ a ha, add_mk, Nat.add_assoc]
      exact hc.at hx)
    rw [concL_length, hlen] at this
    rw [this]
  · simp at hl
theorem run_load1 {t : TypeId} {a : Addr} {v : Value} (hag : aggOf P t = some false) (h : w.cell? a = some v) : (loadVar t a).run P w = .ok v w := by
  simp [loadVar, run_agg hag, h]
theorem run_loadN {t : TypeId} {a : Addr} {k : Nat} {c : Array Value} (hag : aggOf P t = some true) (hs : szOf P t = some k) (h : (loadCells a k).run P w = .ok c w) : (loadVar t a).run P w = .ok (.agg c) w := by
  simp [loadVar, run_agg hag, run_sz hs, h]

def RSound (P : Program) (μ : Nat → Loc) (n : Nat) (e : List Value) (o : Oper) (v : Value) (w : World) : Prop :=
  (execOp (evc μ e) o).run P w = .ok (.value (conc μ v)) w ∧ lt n v = true

variable {e : List Value}
theorem sR_ld (h : Rep P ng ts N0 μ σ w) (he : ltL σ.next e = true) {o : Oper} {t : TypeId} {x : Operand} (hop : o.op = .load t x) (ht : partOf P t = some none) (hx : okOpd ng x = true)
    {v : Value} (hv : evR e σ (.ld (cOpd x)) = some v) : RSound P μ σ.next e o v w := by
  obtain ⟨_, hc, hl⟩ := opV (e := e) h.glob h.ngn he hx
  simp only [evR] at hv
  generalize (cOpd x).ev e = X at hv hc hl
  rcases partOf_some ht with ⟨_, hag, _⟩ | ⟨k, hk, _⟩
  · split at hv
    · rename_i a
      rw [lt_psome] at hl
      have hr := rd_sound h hl.2 hv
      exact ⟨by simp [execOp, hop, hc, Instr.loadAt, Instr.sureAddr, run_load1 hag hr.1], hr.2⟩
    · simp at hv
  · simp at hk
theorem sR_ldn (h : Rep P ng ts N0 μ σ w) (he : ltL σ.next e = true) {o : Oper} {t : TypeId} {k : Nat} {x : Operand} (hop : o.op = .load t x) (ht : partOf P t = some (some k)) (hx : okOpd ng x = true)
    {v : Value} (hv : evR e σ (.ldn k (cOpd x)) = some v) : RSound P μ σ.next e o v w := by
  obtain ⟨_, hc, hl⟩ := opV (e := e) h.glob h.ngn he hx
  simp only [evR] at hv
  generalize (cOpd x).ev e = X at hv hc hl
  rcases partOf_some ht with ⟨hk, _⟩ | ⟨k', hk, hag, hs⟩
  · simp at hk
  · simp at hk; subst hk
    split at hv
    · rename_i a
      rw [lt_psome] at hl
      simp only [Option.map_eq_some_iff] at hv
      obtain ⟨l, hl', rfl⟩ := hv
      have hr := rdN_sound h hl.2 hl'
      exact ⟨by simp [execOp, hop, hc, Instr.loadAt, Instr.sureAddr, run_loadN hag hs hr.1], by simpa using hr.2.1⟩
    · simp at hv
theorem sR_slA (h : Rep P ng ts N0 μ σ w) (he : ltL σ.next e = true) {o : Oper} {t el : TypeId} {k len : Nat} {x : Operand} {lo hi : Option Operand} (hop : o.op = .slice t x lo hi none)
    (h1 : P.underlying t = some (.array len el)) (h2 : szOf P el = some k) (hx : okOpd ng x = true) (hlo : ∀ y, lo = some y → okOpd ng y = true) (hhi : ∀ y, hi = some y → okOpd ng y = true)
    {v : Value} (hv : evR e σ (.slA k len (cOpd x) (lo.map cOpd) (hi.map cOpd)) = some v) : RSound P μ σ.next e o v w := by
  obtain ⟨_, hc, hl⟩ := opV (e := e) h.glob h.ngn he hx
  simp only [evR] at hv
  generalize hX : (cOpd x).ev e = X at hv hc hl
  split at hv
  · rename_i a
    simp only [Option.bind_eq_some_iff] at hv
    obtain ⟨hh', hh, l, hl', hv⟩ := hv
    split at hv
    · rename_i b hb
      split at hv
      · rename_i hex
        simp at hv; subst hv
        have hex := (h.cells hb).ex hex
        have hbs := (bounds_sound (P := P) (mx := none) (isSlice := false) (cap := len) (c := len) h.glob hlo hhi (by simp) (by simp [bound]) hh hl' (Nat.le_refl _) (by simp) (Nat.le_refl _) w).1
        simp only [if_true, Option.map_none] at hbs
        rw [lt_psome] at hl
        refine ⟨?_, ?_⟩
        · simp [execOp, hop, hc, Instr.sliceAt, run_und h1, hbs, Instr.sureAddr, run_sz h2]
          split <;> simp [hex, cAddr, hl.2, add_mk, Nat.add_assoc]
        · split <;> simp [hl.1, hl.2]
      · simp at hv
    · simp at hv
  · simp at hv
theorem exactAt_sound (h : Rep P ng ts N0 μ σ w) {i : Nat} (hi : σ.exactAt i = true) : (μ i).ex = 0 := by
  unfold AW.exactAt at hi
  split at hi
  · rename_i b hb; exact (h.cells hb).ex hi
  · simp at hi
theorem sR_slV (h : Rep P ng ts N0 μ σ w) (he : ltL σ.next e = true) {o : Oper} {t el : TypeId} {k : Nat} {x : Operand} {lo hi mx : Option Operand} (hop : o.op = .slice t x lo hi mx)
    (h1 : P.underlying t = some (.slice el)) (h2 : szOf P el = some k) (hx : okOpd ng x = true) (hlo : ∀ y, lo = some y → okOpd ng y = true) (hhi : ∀ y, hi = some y → okOpd ng y = true) (hmx : ∀ y, mx = some y → okOpd ng y = true)
    (hmh : mx ≠ none → hi ≠ none) {v : Value} (hv : evR e σ (.slV k (cOpd x) (lo.map cOpd) (hi.map cOpd) (mx.map cOpd)) = some v) : RSound P μ σ.next e o v w := by
  obtain ⟨_, hc, hl⟩ := opV (e := e) h.glob h.ngn he hx
  simp only [evR] at hv
  generalize hX : (cOpd x).ev e = X at hv hc hl
  split at hv
  · rename_i a len cap
    split at hv
    · rename_i hlc
      simp only [Option.bind_eq_some_iff] at hv
      obtain ⟨m, hm, hh', hh, l, hl', hv⟩ := hv
      have hm' : mx = none → m = cap := by
        intro hn; subst hn; simpa [bound, eq_comm] using hm
      cases a with
      | none =>
        simp at hv; subst hv
        have hbs := bounds_sound (P := P) (isSlice := true) (cap := cap) (c := cap) h.glob hlo hhi hmx hm hh hl' (Nat.le_refl _) hmh hlc w
        have hmm : (if mx = none then cap else m) = m := by
          split
          · rename_i hn; exact (hm' hn).symm
          · rfl
        rw [hmm] at hbs
        refine ⟨?_, by simp⟩
        simp [execOp, hop, hc, Instr.sliceAt, Instr.slice, run_und h1, hbs.1, run_sz h2]
      | some a =>
        simp only at hv
        split at hv
        · rename_i hcond
          simp only [Option.some.injEq] at hv
          subst hv
          rw [lt_ssome] at hl
          have hbs := bounds_sound (P := P) (isSlice := true) (cap := cap) (c := cap + (μ a.block).ex) h.glob hlo hhi hmx hm hh hl' (by omega) hmh hlc w
          have hcond' : (mx = none ∧ (l = 0 ∨ l < cap)) ∨ (μ a.block).ex = 0 := by
            simp only [Bool.or_eq_true, Bool.and_eq_true, Option.isNone_map, Option.isNone_iff_eq_none, beq_iff_eq, Nat.blt_eq] at hcond
            exact hcond.imp id (exactAt_sound h)
          refine ⟨?_, ?_⟩
          · simp only [execOp, hop, hc, conc_ssome, Instr.sliceAt, Instr.slice, Sem.run_bind, run_und h1, Result.andThen_ok, hbs.1, run_sz h2, Sem.run_pure, Option.map_some]
            congr 2
            have e1 : ∀ j, (cAddr μ a).add j = ⟨(μ a.block).blk, (μ a.block).sh + a.off + j, none⟩ := fun j => by rw [cAddr_eta μ a hl.2, add_mk]
            have e2 : ∀ j, cAddr μ ⟨a.block, a.off + j, none⟩ = ⟨(μ a.block).blk, (μ a.block).sh + a.off + j, none⟩ := fun j => by simp [cAddr, Nat.add_assoc]
            have e0 : (cAddr μ a).add 0 = cAddr μ a := by simp [Addr.add]
            rcases hcond' with ⟨hn, hl0⟩ | hex
            · have hmc := hm' hn
              subst hmc
              rw [if_pos hn]
              rcases hl0 with rfl | hlt
              · rw [Nat.zero_mul, e0]
                simp only [ite_self, Nat.sub_zero]
                by_cases hm0 : m = 0
                · simp [hm0]
                · rw [if_neg hm0]; simp [cAddr, hl.2]
              · rw [if_neg (by omega), if_neg (by omega), e1, e2]
                congr 1
                show m + (μ a.block).ex - l = m - l + (μ a.block).ex
                omega
            · have hmm : (if mx = none then cap + (μ a.block).ex else m) = m := by
                split
                · rename_i hn; rw [hm' hn]; omega
                · rfl
              rw [hmm]
              by_cases hml : m = l
              · rw [if_pos hml, if_pos hml]; simp [hex]
              · rw [if_neg hml, if_neg hml, e1, e2]
                congr 1
                show m - l = m - l + (μ a.block).ex
                omega
          · split <;> simp [hl.1, hl.2]
        · simp at hv
    · simp at hv
  · simp at hv
end
end Go.Proofs.YtjpepfgbilbcdaaGreatDoor.Ai
