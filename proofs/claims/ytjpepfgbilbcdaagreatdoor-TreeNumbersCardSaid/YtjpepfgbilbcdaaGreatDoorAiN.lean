/- A PART OF THE PROOF THAT AN INTERPRETER OF THE PROGRAM'S FUNCTIONS IS SOUND: a step of it. -/
import Derived.Test.YtjpepfgbilbcdaaGreatDoorAiM
namespace Go.Proofs.YtjpepfgbilbcdaaGreatDoor.Ai
open Go
set_option linter.unusedSimpArgs false

section
variable {P : Program} {ng : Nat} {ts : List TypeId} {N0 : Nat} {μ μ' : Nat → Loc} {σ : AW} {w w' : World} {e : List Value}

theorem newCells_rep {n : Nat} {cs : List Value} (hl : ltL n cs = true) (t : TypeId) (esz : Nat) (exact : Bool) (al : List Nat) (rest : List Value) (k : Nat) (hrest : rest.length = k * esz) (hex : exact = true → k = 0)
    (hw : w'.heap = w.heap.push (.cells (concL μ cs ++ rest).toArray t)) :
    CellsRep (upd μ n ⟨w.heap.size, 0, k⟩) (n + 1) n (newCB t esz cs exact al) w' := by
  have hcL : concL (upd μ n ⟨w.heap.size, 0, k⟩) cs = concL μ cs := concL_congr (fun i hi => upd_ne _ _ (by omega)) _ hl
  have hget : w'.heap[w.heap.size]? = some (.cells (concL μ cs ++ rest).toArray t (0, 0)) := by rw [hw]; simp
  refine ⟨ltL_mono (Nat.le_succ n) _ hl, fun he => by rw [upd_same]; exact hex he, fun _ _ => by rw [upd_same], ?_, (concL μ cs ++ rest).toArray, t, (0, 0), ?_, fun _ => rfl, ?_, ?_⟩
  · intro _ j _ _
    rw [upd_same]
    simp only [World.frozen?, hget]
    simp
  · rw [upd_same]; exact hget
  · rw [upd_same]; simp [concL_length, newCB, hrest]
  · intro j v hj
    rw [upd_same]
    have hj' : cs[j]? = some v := hj
    have hlt : j < (concL μ cs).length := by rw [concL_length]; exact (List.getElem?_eq_some_iff.1 hj').1
    simp only [Nat.zero_add, List.getElem?_toArray]
    rw [List.getElem?_append_left hlt, ← hcL, concL_getElem?, hj']
    rfl

/-- what is to be shown of an operation that makes one block -/
def NSound (P : Program) (ng : Nat) (ts : List TypeId) (μ : Nat → Loc) (n : Nat) (e : List Value) (o : Oper) (b : Blk) (f : Nat → Value) (w : World) : Prop :=
  ∃ ob, (execOp (evc μ e) o).run P w = .ok (.value (conc (upd μ n ⟨w.heap.size, 0, 0⟩) (f n))) { w with heap := w.heap.push ob } ∧ isRo b = false ∧ (∀ c, b = .cells c → c.al = []) ∧
    BRep P ng ts (upd μ n ⟨w.heap.size, 0, 0⟩) (n + 1) n { w with heap := w.heap.push ob } b ∧ lt (n + 1) (f n) = true

theorem sN_new {n : Nat} {o : Oper} {t : TypeId} {z : List Value} (hop : o.op = .alloc t) (ht : zeroCells P t = some z) {b : Blk} {f : Nat → Value} (hv : evN e (.new t z.length z) = some (b, f)) (w : World) : NSound P ng ts μ n e o b f w := by
  simp only [evN, Option.some.injEq, Prod.mk.injEq] at hv
  obtain ⟨rfl, rfl⟩ := hv
  obtain ⟨_, _, _, _, hz, _⟩ := zeroCells_some ht
  obtain ⟨v, hr, hc⟩ := zeroCells_run ht w
  refine ⟨.cells z.toArray t, ?_, rfl, fun c hc => by simp at hc; subst hc; rfl, ?_, by simp⟩
  · simp [execOp, hop, Instr.alloc, hr, newVar, newRow, hc, cAddr, upd_same]
  · refine newCells_rep (μ := μ) (ltL_mono (Nat.zero_le n) z hz) t z.length true [] [] 0 (by simp) (by simp) ?_
    simp [concL_zero μ z hz]
theorem sN_box (hg : Glob ng μ) {n : Nat} (hn : ng ≤ n) (he : ltL n e = true) {o : Oper} {t : TypeId} {k : Nat} {x : Operand} (hop : o.op = .box t x) (hx : okOpd ng x = true) {b : Blk} {f : Nat → Value} (hv : evN e (.box t k (cOpd x)) = some (b, f)) (w : World) : NSound P ng ts μ n e o b f w := by
  simp only [evN, Option.some.injEq, Prod.mk.injEq] at hv
  obtain ⟨rfl, rfl⟩ := hv
  obtain ⟨_, hc, hl⟩ := opV (e := e) hg hn he hx
  refine ⟨.cells (concL μ (cellsOf ((cOpd x).ev e))).toArray t, ?_, rfl, fun c hc => by simp at hc; subst hc; rfl, ?_, by simp⟩
  · have : (conc μ ((cOpd x).ev e)).cells = (concL μ (cellsOf ((cOpd x).ev e))).toArray := by apply Array.ext'; simp [cells_conc]
    simp [execOp, hop, Instr.box, newVar, newRow, hc, cAddr, upd_same, this]
  · exact newCells_rep (μ := μ) (cellsOf_lt hl) t k true [] [] 0 (by simp) (by simp) (by simp)
theorem flatten_getElem (z : List Value) : ∀ (k i : Nat), i < k * z.length → (List.replicate k z).flatten[i]? = z[i % z.length]? := by
  intro k
  induction k with
  | zero => intro i h; simp at h
  | succ k ih =>
    intro i h
    rw [List.replicate_succ, List.flatten_cons]
    by_cases hi : i < z.length
    · rw [List.getElem?_append_left hi, Nat.mod_eq_of_lt hi]
    · have e1 : (k + 1) * z.length = k * z.length + z.length := Nat.succ_mul _ _
      rw [List.getElem?_append_right (by omega), ih _ (by omega)]
      congr 1
      exact (Nat.mod_eq_sub_mod (by omega)).symm
theorem zeros_eq (z : List Value) (k : Nat) (hz : z.length ≠ 0) : (Array.range (k * z.length)).map (fun i => z.toArray[i % z.length]!) = ((List.replicate k z).flatten).toArray := by
  apply Array.ext'
  apply List.ext_getElem?
  intro i
  simp only [Array.toList_map, Array.toList_range, List.getElem?_map]
  by_cases hi : i < k * z.length
  · rw [List.getElem?_range hi, flatten_getElem z k i hi]
    have : i % z.length < z.length := Nat.mod_lt _ (by omega)
    simp [this]
  · rw [List.getElem?_eq_none (by simp; omega), List.getElem?_eq_none (by simp; omega)]
    rfl
theorem zeros_eq' (z : List Value) (k : Nat) (hz : z.length ≠ 0) : Array.map (fun x => z[x % z.length]?.getD default) (Array.range (k * z.length)) = ((List.replicate k z).flatten).toArray := by
  rw [← zeros_eq z k hz]
  simp
theorem range0 : Array.range 0 = #[] := rfl
theorem flatten_lt {n k : Nat} {z : List Value} (h : ltL n z = true) : ltL n (List.replicate k z).flatten = true := by
  rw [ltL_iff] at h ⊢
  intro v hv
  simp only [List.mem_flatten, List.mem_replicate] at hv
  obtain ⟨l, ⟨_, rfl⟩, hv⟩ := hv
  exact h v hv
theorem sN_mkSlice (hg : Glob ng μ) {n : Nat} (hn : ng ≤ n) (he : ltL n e = true) {o : Oper} {t el : TypeId} {z : List Value} {i : TypeInfo} {l c : Operand} (hop : o.op = .makeSlice t l c) (h1 : P.underlying t = some (.slice el)) (h2 : zeroCells P el = some z) (hz : z.length ≠ 0)
    (h3 : P.info? el = some i) (hl : okOpd ng l = true) (hcc : okOpd ng c = true) {b : Blk} {f : Nat → Value} (hv : evN e (.mkSlice el z.length i.bytes z (cOpd l) (cOpd c)) = some (b, f)) (w : World) : NSound P ng ts μ n e o b f w := by
  obtain ⟨_, hl1, _⟩ := opV (e := e) hg hn he hl
  obtain ⟨_, hc1, _⟩ := opV (e := e) hg hn he hcc
  simp only [evN] at hv
  generalize (cOpd l).ev e = L at hv hl1
  generalize (cOpd c).ev e = C at hv hc1
  split at hv
  · rename_i k1 li k2 ci
    split at hv
    · rename_i hb
      simp only [Option.some.injEq, Prod.mk.injEq] at hv
      obtain ⟨rfl, rfl⟩ := hv
      obtain ⟨_, _, _, hsz, hz0, _⟩ := zeroCells_some h2
      obtain ⟨zv, hzr, hzc⟩ := zeroCells_run h2 w
      have hw1 : IntKind.i64.wrap li = li := by unfold IntKind.wrap; simp [IntKind.bits, IntKind.signed]; omega
      have hw2 : IntKind.i64.wrap ci = ci := by unfold IntKind.wrap; simp [IntKind.bits, IntKind.signed]; omega
      have hbytes : (i.bytes : Int) * ci ≤ 281474976710656 := by rw [Int.mul_comm]; omega
      refine ⟨.cells ((List.replicate ci.toNat z).flatten).toArray el, ?_, rfl, fun c hc => by simp at hc; subst hc; rfl, ?_, by simp⟩
      · have hcond : ¬ (((ci < 0 ∨ 281474976710656 < (i.bytes : Int) * ci) ∨ li < 0) ∨ ci < li) := by omega
        by_cases hn0 : ci.toNat * z.length = 0
        · have hc0 : ci.toNat = 0 := by
            rcases Nat.mul_eq_zero.1 hn0 with h | h
            · exact h
            · exact absurd h hz
          have : ci = 0 := by omega
          subst this
          have : li = 0 := by omega
          subst this
          simp [execOp, hop, hl1, hc1, Instr.makeSlice, run_und h1, run_info h3, asInt, asIntOf, hw1, run_sz hsz, newRow, cAddr, upd_same, range0]
        · have hzz := zeros_eq' z ci.toNat hz
          simp only [execOp, hop, hl1, hc1, conc_int, Instr.makeSlice, Sem.run_bind, run_und h1, Result.andThen_ok, run_info h3, asInt, asIntOf, Sem.run_pure, hw1, hw2]
          simp only [Bool.or_eq_true, decide_eq_true_eq, gt_iff_lt]
          rw [if_neg (by simpa using hcond)]
          simp [run_sz hsz, hn0, hzr, hzc, newRow, hzz, cAddr, upd_same]
      · refine newCells_rep (μ := μ) (flatten_lt (ltL_mono (Nat.zero_le n) z hz0)) el z.length true [] [] 0 (by simp) (by simp) ?_
        rw [concL_zero μ _ (flatten_lt hz0)]; simp
    · simp at hv
  · simp at hv
theorem sN_mkMap {n : Nat} {o : Oper} {t : TypeId} (hop : o.op = .makeMap t none) {b : Blk} {f : Nat → Value} (hv : evN e .mkMap = some (b, f)) (w : World) : NSound P ng ts μ n e o b f w := by
  simp only [evN, Option.some.injEq, Prod.mk.injEq] at hv
  obtain ⟨rfl, rfl⟩ := hv
  refine ⟨.map #[] 0, ?_, rfl, by simp, ⟨by simp, ?_⟩, by simp⟩
  · simp [execOp, hop, Instr.makeMap, upd_same]
  · simp [upd_same]
theorem sN_buildSlice (hg : Glob ng μ) {n : Nat} (hn : ng ≤ n) (he : ltL n e = true) {o : Oper} {t el : TypeId} {len : Nat} {parts : Array (Nat × Operand)} {z : List Value} {qs : List (Nat × Nat × Opd)}
    (hop : o.op = .buildSlice t len parts) (h1 : P.underlying t = some (.slice el)) (h2 : zeroCells P el = some z) (hz : ¬ (z.length = 0 ∨ len * z.length > 16777216))
    (h4 : (parts.toList.mapM fun (i, x) => if i < len then some (i * z.length, z.length, cOpd x) else none) = some qs) (ho : ∀ q ∈ parts.toList, okOpd ng q.2 = true)
    {b : Blk} {f : Nat → Value} (hv : evN e (.buildSlice el z.length len (List.replicate len z).flatten qs) = some (b, f)) (w : World) : NSound P ng ts μ n e o b f w := by
  simp only [evN, Option.map_eq_some_iff, Prod.mk.injEq] at hv
  obtain ⟨cs, hcs, rfl, rfl⟩ := hv
  obtain ⟨_, _, _, hsz, hz0, _⟩ := zeroCells_some h2
  obtain ⟨zv, hzr, hzc⟩ := zeroCells_run h2 w
  have hz' : z.length ≠ 0 := fun h => hz (.inl h)
  have hf : ∀ (i : Nat) (x : Operand) (off m : Nat) (y : Opd), (if i < len then some (i * z.length, z.length, cOpd x) else none) = some (off, m, y) → (fun i => some (i * z.length, z.length)) i = some (off, m) ∧ y = cOpd x := by
    intro i x off m y hy
    split at hy <;> simp at hy
    obtain ⟨rfl, rfl, rfl⟩ := hy
    exact ⟨rfl, rfl⟩
  obtain ⟨hpo, hmem⟩ := parts_ok (e := e) (place := fun i => some (i * z.length, z.length)) hg hf ho h4
  have h5 : ∀ q ∈ qs, q.2.1 ≠ 0 := by
    intro q hq
    obtain ⟨h1', h2'⟩ := mapM_opt h4
    obtain ⟨j, hj⟩ := List.getElem?_of_mem hq
    have hlt : j < parts.toList.length := by rw [← h1']; exact (List.getElem?_eq_some_iff.1 hj).1
    obtain ⟨y, hy1, hy2⟩ := h2' j _ (List.getElem?_eq_getElem hlt)
    rw [hy2] at hj; simp at hj; subst hj
    split at hy1
    · simp at hy1; rw [← hy1.2]; exact hz'
  have hfill := fill_sound qs _ _ cs hpo hcs h5
  rw [concL_zero μ _ (flatten_lt hz0)] at hfill
  have hltc : ltL n cs = true := by
    refine fill_lt qs _ cs hcs (flatten_lt (ltL_mono (Nat.zero_le n) z hz0)) ?_
    intro q hq
    obtain ⟨p, hp, hqp⟩ := hmem q hq
    rw [hqp]
    exact opd_lt hn he (ho p hp)
  refine ⟨.cells (concL μ cs).toArray el, ?_, rfl, fun c hc => by simp at hc; subst hc; rfl, newCells_rep (μ := μ) hltc el z.length true [] [] 0 (by simp) (by simp) (by simp), by simp⟩
  have hfill' : Instr.fill (fun i => some (i * z.length, z.length)) ((List.replicate len z).flatten).toArray (Array.map (fun x => (x.1, evc μ e x.2)) parts).toList = some ⟨concL μ cs⟩ := hfill
  have hzz := zeros_eq' z len hz'
  simp only [execOp, hop, Instr.buildSlice, Sem.run_bind, run_und h1, Result.andThen_ok, run_sz hsz]
  rw [if_neg (by omega)]
  by_cases hn0 : len * z.length = 0
  · have hl0 : len = 0 := by
      rcases Nat.mul_eq_zero.1 hn0 with h | h
      · exact h
      · exact absurd h hz'
    subst hl0
    simp only [Nat.zero_mul, if_true, Sem.run_pure, Result.andThen_ok]
    simp at hfill'
    simp [hfill', newRow, cAddr, upd_same, range0]
  · rw [if_neg hn0]
    simp only [Array.toList_map] at hfill'
    simp [hzr, hzc, hzz, hfill', newRow, cAddr, upd_same]
/-- **The operations that make one block.** -/
theorem evN_sound (hg : Glob ng μ) {n : Nat} (hn : ng ≤ n) (he : ltL n e = true) {o : Oper} {q : NOp} (hc : cOp P ts o.op = some (.n q)) (ho : okOp ng o.op = true) {b : Blk} {f : Nat → Value} (hv : evN e q = some (b, f)) (w : World) : NSound P ng ts μ n e o b f w := by
  generalize hop : o.op = op at hc ho
  cases op with
  | alloc t =>
    simp only [cOp] at hc
    split at hc
    · rename_i z hz; simp at hc; subst hc; exact sN_new hop hz hv w
    · simp at hc
  | box t x =>
    simp only [cOp] at hc
    split at hc
    · rename_i k hk; simp at hc; subst hc; exact sN_box hg hn he hop (okOp_1 ho rfl) hv w
    · simp at hc
  | buildSlice t len parts =>
    have h := ok_arr ho rfl
    have h' : ∀ q ∈ parts.toList, okOpd ng q.2 = true := by
      intro q hq
      refine h q.2 ?_
      simp only [Op.operands, List.toList_toArray, List.mem_map]
      exact ⟨q, hq, rfl⟩
    simp only [cOp] at hc
    split at hc
    · rename_i el h1
      simp only [Option.bind_eq_bind, Option.bind_eq_some_iff] at hc
      obtain ⟨z, h2, hc⟩ := hc
      split at hc
      · simp at hc
      · rename_i hz
        simp only [Option.bind_eq_some_iff] at hc
        obtain ⟨qs, h4, hc⟩ := hc
        simp at hc; subst hc
        exact sN_buildSlice hg hn he hop h1 h2 hz h4 h' hv w
    · simp at hc
  | makeSlice t l c =>
    have h := okOp_2 ho rfl
    simp only [cOp] at hc
    split at hc
    · rename_i el h1
      split at hc
      · rename_i z i h2 h3
        split at hc
        · simp at hc
        · rename_i hz
          simp at hc; subst hc
          exact sN_mkSlice hg hn he hop h1 h2 hz h3 h.1 h.2 hv w
      · simp at hc
    · simp at hc
  | makeMap t r =>
    cases r with
    | none => simp [cOp] at hc; subst hc; exact sN_mkMap hop hv w
    | some r => simp [cOp] at hc
  | call c =>
    obtain ⟨callee, args, ats⟩ := c
    simp only [cOp] at hc
    cases callee with
    | builtin b => simp only at hc; unfold cBuiltin at hc; (repeat' split at hc) <;> simp at hc
    | value f => cases f <;> simp only at hc <;> (repeat' split at hc) <;> simp at hc
    | invoke x name => simp at hc
  | build t parts =>
    simp only [cOp] at hc
    split at hc
    · simp only [Option.bind_eq_bind, Option.bind_eq_some_iff] at hc
      obtain ⟨_, _, _, _, hc⟩ := hc
      split at hc <;> simp at hc
    · simp only [Option.bind_eq_bind, Option.bind_eq_some_iff] at hc
      obtain ⟨_, _, _, _, hc⟩ := hc
      split at hc <;> simp at hc
    · simp at hc
  | binOp op t x y u =>
    simp only [cOp] at hc
    split at hc
    · simp at hc
    · simp at hc
    · split at hc
      · unfold cEqOp at hc; (repeat' split at hc) <;> simp at hc
      · unfold cEqOp at hc; (repeat' split at hc) <;> simp at hc
      · simp at hc
    · simp at hc
  | field t x f =>
    simp only [cOp] at hc
    split at hc
    · split at hc
      · simp only [Option.map_eq_some_iff] at hc
        obtain ⟨_, _, hc⟩ := hc
        simp at hc
      · simp at hc
    · simp at hc
  | indexAddr t x i => simp only [cOp] at hc; split at hc <;> simp at hc
  | typeAssert x xt t ok =>
    simp only [cOp] at hc
    split at hc
    · simp at hc
    · split at hc <;> simp at hc
    · simp at hc
  | convert src dst x => simp only [cOp] at hc; (repeat' split at hc) <;> simp at hc
  | slice t x lo hi mx => simp only [cOp] at hc; (repeat' split at hc) <;> simp at hc
  | load t x => simp only [cOp] at hc; split at hc <;> simp at hc
  | store t a x => simp only [cOp] at hc; split at hc <;> simp at hc
  | makeInterface t x => simp only [cOp] at hc; split at hc <;> simp at hc
  | makeFunc f a b => simp only [cOp] at hc; split at hc <;> simp at hc
  | fieldAddr t x f => simp only [cOp] at hc; (repeat' split at hc) <;> simp at hc
  | index t x i => simp only [cOp] at hc; (repeat' split at hc) <;> simp at hc
  | lookup t x i ok => simp only [cOp] at hc; (repeat' split at hc) <;> simp at hc
  | mapUpdate t m k v => simp only [cOp] at hc; (repeat' split at hc) <;> simp at hc
  | insert t m k v => simp only [cOp] at hc; (repeat' split at hc) <;> simp at hc
  | mapEntry t m k => simp only [cOp] at hc; (repeat' split at hc) <;> simp at hc
  | _ => simp [cOp] at hc
end
end Go.Proofs.YtjpepfgbilbcdaaGreatDoor.Ai
