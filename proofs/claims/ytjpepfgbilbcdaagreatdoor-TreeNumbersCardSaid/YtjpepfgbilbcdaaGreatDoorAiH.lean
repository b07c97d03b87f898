/- A PART OF THE PROOF THAT AN INTERPRETER OF THE PROGRAM'S FUNCTIONS IS SOUND: a step of it. -/
import Derived.Test.YtjpepfgbilbcdaaGreatDoorAiG
import Derived.WalkLawsBesides
namespace Go.Proofs.YtjpepfgbilbcdaaGreatDoor.Ai
open Go
set_option linter.unusedSimpArgs false

section
variable {P : Program} {ng n : Nat} {ts : List TypeId} {μ : Nat → Loc} {e : List Value}

theorem sP_mov (hg : Glob ng μ) (hn : ng ≤ n) (he : ltL n e = true) {o : Oper} {x : Operand} (hop : o.op = .move x ∨ o.op = .assign x) (ho : okOpd ng x = true)
    {v : Value} (hv : evP e (.mov (cOpd x)) = some v) : PSound P μ n e o v := by
  intro w
  have hx := opV (e := e) hg hn he ho
  simp only [evP, Option.some.injEq] at hv
  subst hv
  rcases hop with h | h <;> exact ⟨by simp [execOp, h, hx.c], hx.l⟩
theorem sP_pick (hg : Glob ng μ) (hn : ng ≤ n) (he : ltL n e = true) {o : Oper} {c a b : Operand} (hop : o.op = .pick c a b) (hc : okOpd ng c = true) (ha : okOpd ng a = true) (hb : okOpd ng b = true)
    {v : Value} (hv : evP e (.pick (cOpd c) (cOpd a) (cOpd b)) = some v) : PSound P μ n e o v := by
  intro w
  have hx := opV (e := e) hg hn he hc
  have ha := opV (e := e) hg hn he ha
  have hb := opV (e := e) hg hn he hb
  simp only [evP] at hv
  split at hv
  · rename_i h; simp at hv; subst hv
    exact ⟨by simp [execOp, hop, hx.c, h, asBool, ha.c], ha.l⟩
  · rename_i h; simp at hv; subst hv
    exact ⟨by simp [execOp, hop, hx.c, h, asBool, hb.c], hb.l⟩
  · simp at hv
theorem cMethods_some {name : String} {t : TypeId} {f : FuncId} : ∀ {ts : List TypeId}, (cMethods P name ts).lookup t = some f →
    ∃ i m, P.info? t = some i ∧ i.methods.find? (·.name == name) = some m ∧ m.path = #[] ∧ ((m.func = some (f, true) ∧ ∃ el, P.underlying t = some (.pointer el)) ∨ (m.func = some (f, false) ∧ ∃ d, P.underlying t = some d ∧ ∀ el, d ≠ .pointer el))
  | [], h => by simp [cMethods] at h
  | u :: ts, h => by
    rw [cMethods, List.filterMap_cons] at h
    split at h
    · exact cMethods_some (ts := ts) h
    · rename_i x hx
      obtain ⟨u', g⟩ := x
      rw [List.lookup_cons] at h
      have hu : u' = u := by
        split at hx
        · split at hx
          · split at hx
            · split at hx
              · simp at hx; exact hx.1.symm
              · simp at hx
            · split at hx
              · simp at hx
              · simp at hx; exact hx.1.symm
              · simp at hx
            · simp at hx
          · simp at hx
        · simp at hx
      subst hu
      split at h
      · rename_i htu
        have htu' : t = u' := by simpa using htu
        subst htu'
        simp at h; subst h
        split at hx
        · rename_i i hi
          split at hx
          · rename_i m hm
            refine ⟨i, m, hi, hm, ?_⟩
            split at hx
            · rename_i hp hf
              split at hx
              · rename_i el hu
                simp at hx; subst hx
                exact ⟨by simpa using hp, .inl ⟨hf, el, hu⟩⟩
              · simp at hx
            · rename_i hp hf
              split at hx
              · simp at hx
              · rename_i d hnp hu
                simp at hx; subst hx
                exact ⟨by simpa using hp, .inr ⟨hf, d, hu, fun el he => hnp el he⟩⟩
              · simp at hx
            · simp at hx
          · simp at hx
        · simp at hx
      · exact cMethods_some (ts := ts) h
theorem cNames_some {nm : String} {t : TypeId} (h : (cNames P ts).contains (nm, t) = true) : ∃ f, (cMethods P nm [t]).lookup t = some f := by
  simp only [cNames, List.contains_eq_mem, List.mem_flatMap, decide_eq_true_eq] at h
  obtain ⟨u, _, h⟩ := h
  split at h
  · simp only [List.mem_filterMap] at h
    obtain ⟨m, _, h⟩ := h
    split at h
    · rename_i hs
      simp at h
      obtain ⟨rfl, rfl⟩ := h
      exact Option.isSome_iff_exists.1 hs
    · simp at h
  · simp at h
theorem nilAhead_run {name : String} {t : TypeId} {f : FuncId} (h : (cMethods P name ts).lookup t = some f) (V : Value) (k : Nat) (w : World) : (nilAhead (k + 1) t V name).run P w = .ok (some false) w := by
  obtain ⟨i, m, hi, hm, hp, hr⟩ := cMethods_some h
  simp only [nilAhead, Sem.run_bind, run_info hi, Result.andThen_ok, hm, hp, followBlind, Sem.run_pure]
  rcases hr with ⟨hf, el, hu⟩ | ⟨hf, d, hu, hd⟩
  · simp [hf]
  · simp only [hf, Sem.run_bind, run_und hu, Result.andThen_ok]
    cases d <;> first | exact absurd rfl (hd _) | simp
theorem sP_nilchk (hg : Glob ng μ) (hn : ng ≤ n) (he : ltL n e = true) {o : Oper} {x : Operand} (hop : o.op = .nilCheck x) (ho : okOpd ng x = true)
    {v : Value} (hv : evP e (.nilchk (cNames P ts) (cOpd x)) = some v) : PSound P μ n e o v := by
  intro w
  obtain ⟨_, hc, hl⟩ := opV (e := e) hg hn he ho
  simp only [evP] at hv
  generalize (cOpd x).ev e = X at hv hc hl
  split at hv <;> try (simp at hv; done)
  · rename_i nm l c
    split at hv
    · rename_i t V
      split at hv
      · rename_i hin
        simp at hv; subst hv
        refine ⟨?_, hl⟩
        obtain ⟨f, hf⟩ := cNames_some hin
        have hk := nilAhead_run hf (conc μ V) (P.types.size + Made.depth - 1) w
        rw [show P.types.size + Made.depth - 1 + 1 = P.types.size + Made.depth by unfold Made.depth; omega] at hk
        obtain ⟨c⟩ := c
        simp only [execOp, hop, hc, conc_func, cFn, concL, conc_iface]
        simp [hk, run_program]
      · simp at hv
    · simp at hv
  · rename_i h1 h2 h3 h4
    simp at hv; subst hv
    refine ⟨?_, hl⟩
    simp only [execOp, hop, hc]
    cases X with
    | pointer a => cases a with
      | none => exact absurd rfl h1
      | some a => simp
    | slice a _ _ => cases a <;> simp
    | map a => cases a <;> simp
    | nilIface => exact absurd rfl h2
    | nilFunc => exact absurd rfl h3
    | func f a b =>
      cases a; cases b
      cases f with
      | method m => exact (h4 _ _ _ rfl).elim
      | _ => simp [cFn]
    | agg a => cases a; simp
    | tuple a => cases a; simp
    | _ => simp [conc]
theorem sP_bin (hg : Glob ng μ) (hn : ng ≤ n) (he : ltL n e = true) {o : Oper} {op : BinOp} {t u : TypeId} {x y : Operand} (hop : o.op = .binOp op t x y u) (hx : okOpd ng x = true) (hy : okOpd ng y = true)
    {v : Value} (hv : evP e (.bin op (cOpd x) (cOpd y)) = some v) : PSound P μ n e o v := by
  intro w
  obtain ⟨_, hcx, hlx⟩ := opV (e := e) hg hn he hx
  obtain ⟨_, hcy, hly⟩ := opV (e := e) hg hn he hy
  simp only [evP] at hv
  generalize (cOpd x).ev e = X at hv hcx hlx
  generalize (cOpd y).ev e = Y at hv hcy hly
  have hb := bin_sound (P := P) (n := n) (μ := μ) (t := t) hv w
  refine ⟨?_, hb.2⟩
  have hgd : (eqGuard op t x y (conc μ X) (conc μ Y)).run P w = .ok () w := by
    unfold bin at hv
    split at hv
    · simp only [eqGuard, conc_int]; cases op <;> simp
    · simp only [eqGuard, conc_string]; cases op <;> simp
    · simp at hv
  simp [execOp, hop, hcx, hcy, hgd, hb.1]
theorem sP_un (hg : Glob ng μ) (hn : ng ≤ n) (he : ltL n e = true) {o : Oper} {op : UnOp} {t : TypeId} {x : Operand} (hop : o.op = .unOp op t x) (ho : okOpd ng x = true)
    {v : Value} (hv : evP e (.un op (cOpd x)) = some v) : PSound P μ n e o v := by
  intro w
  obtain ⟨_, hc, hl⟩ := opV (e := e) hg hn he ho
  simp only [evP] at hv
  generalize (cOpd x).ev e = X at hv hc hl
  split at hv
  · simp at hv; subst hv; simp [execOp, hop, hc, Op.unary, Op.intArith]
  · simp [bits] at hv; subst hv; simp [execOp, hop, hc, Op.unary, Op.intBits]
  · simp at hv; subst hv; simp [execOp, hop, hc, Op.unary]
  · simp at hv
theorem sP_conv (hg : Glob ng μ) (hn : ng ≤ n) (he : ltL n e = true) {o : Oper} {src dst : TypeId} {j k : IntKind} {x : Operand} (hop : o.op = .convert src dst x) (h1 : P.underlying src = some (.int j)) (h2 : P.underlying dst = some (.int k)) (ho : okOpd ng x = true)
    {v : Value} (hv : evP e (.conv k (cOpd x)) = some v) : PSound P μ n e o v := by
  intro w
  obtain ⟨_, hc, hl⟩ := opV (e := e) hg hn he ho
  simp only [evP] at hv
  generalize (cOpd x).ev e = X at hv hc hl
  split at hv
  · simp at hv; subst hv; simp [execOp, hop, hc, Go.convert, run_und h1, run_und h2, Conv.intToInt]
  · simp at hv
theorem sP_convStr (hg : Glob ng μ) (hn : ng ≤ n) (he : ltL n e = true) {o : Oper} {src dst : TypeId} {x : Operand} (hop : o.op = .convert src dst x) (h1 : P.underlying src = some .string) (h2 : P.underlying dst = some .string) (ho : okOpd ng x = true)
    {v : Value} (hv : evP e (.convStr (cOpd x)) = some v) : PSound P μ n e o v := by
  intro w
  obtain ⟨_, hc, hl⟩ := opV (e := e) hg hn he ho
  simp only [evP] at hv
  generalize (cOpd x).ev e = X at hv hc hl
  split at hv
  · simp at hv; subst hv; simp [execOp, hop, hc, Go.convert, run_und h1, run_und h2]
  · simp at hv
theorem sP_mkI (hg : Glob ng μ) (hn : ng ≤ n) (he : ltL n e = true) {o : Oper} {t : TypeId} {d : TypeDesc} {x : Operand} (hop : o.op = .makeInterface t x) (h1 : P.underlying t = some d) (h2 : ∀ ms, d ≠ .interface ms) (ho : okOpd ng x = true)
    {v : Value} (hv : evP e (.mkI t (cOpd x)) = some v) : PSound P μ n e o v := by
  intro w
  obtain ⟨_, hc, hl⟩ := opV (e := e) hg hn he ho
  simp [evP] at hv
  subst hv
  refine ⟨?_, by simpa using hl⟩
  simp only [execOp, hop, hc, Instr.makeInterface, Sem.run_bind, run_und h1, Result.andThen_ok]
  cases d <;> first | (exact absurd rfl (h2 _)) | simp
theorem sP_faddr (hg : Glob ng μ) (hn : ng ≤ n) (he : ltL n e = true) {o : Oper} {t : TypeId} {f k : Nat} {fs : Array Field} {fl : Field} {x : Operand} (hop : o.op = .fieldAddr t x f)
    (h1 : P.underlying t = some (.struct fs)) (h2 : fs[f]? = some fl) (h3 : szOf P fl.type = some (k + 1)) (ho : okOpd ng x = true)
    {v : Value} (hv : evP e (.faddr fl.offset (cOpd x)) = some v) : PSound P μ n e o v := by
  intro w
  obtain ⟨_, hc, hl⟩ := opV (e := e) hg hn he ho
  simp only [evP] at hv
  generalize (cOpd x).ev e = X at hv hc hl
  split at hv
  · rename_i a
    simp at hv; subst hv
    rw [lt_psome] at hl
    refine ⟨?_, by simpa using hl.1⟩
    simp [execOp, hop, hc, Instr.fieldAt, run_und h1, h2, Instr.sureAddr, fieldPlace, run_sz h3, cAddr_eta μ a hl.2, cAddr]
    simp [hl.2, add_mk, Nat.add_assoc]
  · simp at hv
theorem sP_field (hg : Glob ng μ) (hn : ng ≤ n) (he : ltL n e = true) {o : Oper} {t : TypeId} {f : Nat} {m : Option Nat} {fs : Array Field} {fl : Field} {x : Operand} (hop : o.op = .field t x f)
    (h1 : P.underlying t = some (.struct fs)) (h2 : fs[f]? = some fl) (h3 : partOf P fl.type = some m) (ho : okOpd ng x = true)
    {v : Value} (hv : evP e (.field fl.offset m (cOpd x)) = some v) : PSound P μ n e o v := by
  intro w
  obtain ⟨_, hc, hl⟩ := opV (e := e) hg hn he ho
  simp only [evP] at hv
  generalize (cOpd x).ev e = X at hv hc hl
  split at hv
  · rename_i cs
    refine ⟨?_, partV_lt hv (by simpa using hl)⟩
    simp [execOp, hop, hc, Instr.field, run_und h1, h2, asAgg, part_sound h3 hv]
  · simp at hv
theorem sP_iaddrS (hg : Glob ng μ) (hn : ng ≤ n) (he : ltL n e = true) {o : Oper} {t el : TypeId} {k : Nat} {x i : Operand} (hop : o.op = .indexAddr t x i)
    (h1 : P.underlying t = some (.slice el)) (h3 : szOf P el = some k) (hx : okOpd ng x = true) (hi : okOpd ng i = true)
    {v : Value} (hv : evP e (.iaddrS k (cOpd x) (cOpd i)) = some v) : PSound P μ n e o v := by
  intro w
  obtain ⟨_, hcx, hlx⟩ := opV (e := e) hg hn he hx
  obtain ⟨_, hci, hli⟩ := opV (e := e) hg hn he hi
  simp only [evP] at hv
  generalize (cOpd x).ev e = X at hv hcx hlx
  generalize (cOpd i).ev e = I at hv hci hli
  split at hv
  · rename_i a len c kd j
    split at hv
    · rename_i hj
      simp at hv; subst hv
      rw [lt_ssome] at hlx
      refine ⟨?_, by simpa using hlx.1⟩
      simp [execOp, hop, hcx, hci, Instr.indexAt, asIntOf, run_und h1, hj, run_sz h3, cAddr_eta μ a hlx.2, cAddr]
      simp [hlx.2, add_mk, Nat.add_assoc]
    · simp at hv
  · simp at hv
theorem sP_iaddrA (hg : Glob ng μ) (hn : ng ≤ n) (he : ltL n e = true) {o : Oper} {t el : TypeId} {k len : Nat} {x i : Operand} (hop : o.op = .indexAddr t x i)
    (h1 : P.underlying t = some (.array len el)) (h3 : szOf P el = some k) (hx : okOpd ng x = true) (hi : okOpd ng i = true)
    {v : Value} (hv : evP e (.iaddrA k len (cOpd x) (cOpd i)) = some v) : PSound P μ n e o v := by
  intro w
  obtain ⟨_, hcx, hlx⟩ := opV (e := e) hg hn he hx
  obtain ⟨_, hci, hli⟩ := opV (e := e) hg hn he hi
  simp only [evP] at hv
  generalize (cOpd x).ev e = X at hv hcx hlx
  generalize (cOpd i).ev e = I at hv hci hli
  split at hv
  · rename_i a kd j
    split at hv
    · rename_i hj
      simp at hv; subst hv
      rw [lt_psome] at hlx
      refine ⟨?_, by simpa using hlx.1⟩
      simp [execOp, hop, hcx, hci, Instr.indexAt, asIntOf, run_und h1, hj, run_sz h3, Instr.sureAddr, cAddr_eta μ a hlx.2, cAddr]
      simp [hlx.2, add_mk, Nat.add_assoc]
    · simp at hv
  · simp at hv
theorem sP_idxS (hg : Glob ng μ) (hn : ng ≤ n) (he : ltL n e = true) {o : Oper} {t : TypeId} {x i : Operand} (hop : o.op = .index t x i)
    (h1 : P.underlying t = some .string) (hx : okOpd ng x = true) (hi : okOpd ng i = true)
    {v : Value} (hv : evP e (.idxS (cOpd x) (cOpd i)) = some v) : PSound P μ n e o v := by
  intro w
  obtain ⟨_, hcx, hlx⟩ := opV (e := e) hg hn he hx
  obtain ⟨_, hci, hli⟩ := opV (e := e) hg hn he hi
  simp only [evP] at hv
  generalize (cOpd x).ev e = X at hv hcx hlx
  generalize (cOpd i).ev e = I at hv hci hli
  split at hv
  · rename_i s kd j
    split at hv
    · rename_i hj
      simp only [Option.map_eq_some_iff] at hv
      obtain ⟨b, hb, rfl⟩ := hv
      simp [execOp, hop, hcx, hci, Instr.index, asIntOf, run_und h1, hj, hb]
    · simp at hv
  · simp at hv
theorem sP_idxA (hg : Glob ng μ) (hn : ng ≤ n) (he : ltL n e = true) {o : Oper} {t el : TypeId} {k len : Nat} {m : Option Nat} {x i : Operand} (hop : o.op = .index t x i)
    (h1 : P.underlying t = some (.array len el)) (h2 : szOf P el = some k) (h3 : partOf P el = some m) (hx : okOpd ng x = true) (hi : okOpd ng i = true)
    {v : Value} (hv : evP e (.idxA k len m (cOpd x) (cOpd i)) = some v) : PSound P μ n e o v := by
  intro w
  obtain ⟨_, hcx, hlx⟩ := opV (e := e) hg hn he hx
  obtain ⟨_, hci, hli⟩ := opV (e := e) hg hn he hi
  simp only [evP] at hv
  generalize (cOpd x).ev e = X at hv hcx hlx
  generalize (cOpd i).ev e = I at hv hci hli
  split at hv
  · rename_i cs kd j
    split at hv
    · rename_i hj
      refine ⟨?_, partV_lt hv (by simpa using hlx)⟩
      simp [execOp, hop, hcx, hci, Instr.index, asIntOf, run_und h1, hj, run_sz h2, part_sound h3 hv]
    · simp at hv
  · simp at hv
theorem sP_ext (hg : Glob ng μ) (hn : ng ≤ n) (he : ltL n e = true) {o : Oper} {i : Nat} {x : Operand} (hop : o.op = .extract x i) (ho : okOpd ng x = true)
    {v : Value} (hv : evP e (.ext (cOpd x) i) = some v) : PSound P μ n e o v := by
  intro w
  obtain ⟨_, hc, hl⟩ := opV (e := e) hg hn he ho
  simp only [evP] at hv
  generalize (cOpd x).ev e = X at hv hc hl
  split at hv
  · rename_i vs
    rw [nthV_eq] at hv
    refine ⟨?_, ltL_getElem (by simpa using hl) hv⟩
    simp [execOp, hop, hc, Instr.extract, concL_getElem?, hv]
  · simp at hv
theorem evs_conc (hg : Glob ng μ) (e : List Value) : ∀ (l : List Operand), (∀ x ∈ l, okOpd ng x = true) → l.map (evc μ e) = concL μ (evs e (l.map cOpd))
  | [], _ => by simp [evs, concL]
  | x :: l, h => by simp [evs, concL, opd_conc hg e (h x (by simp)), evs_conc hg e l fun y hy => h y (by simp [hy])]
theorem evs_lt (hn : ng ≤ n) (he : ltL n e = true) : ∀ (l : List Operand), (∀ x ∈ l, okOpd ng x = true) → ltL n (evs e (l.map cOpd)) = true
  | [], _ => by simp [evs, ltL]
  | x :: l, h => by simp [evs, ltL, opd_lt hn he (h x (by simp)), evs_lt hn he l fun y hy => h y (by simp [hy])]
theorem sP_mkF (hg : Glob ng μ) (hn : ng ≤ n) (he : ltL n e = true) {o : Oper} {f : Fn} (hf : cFn μ f = f ∧ ltFn n f = true) {a b : Array Operand} (hop : o.op = .makeFunc f a b) (ha : ∀ x ∈ a.toList, okOpd ng x = true) (hb : ∀ x ∈ b.toList, okOpd ng x = true)
    {v : Value} (hv : evP e (.mkF f (a.toList.map cOpd) (b.toList.map cOpd)) = some v) : PSound P μ n e o v := by
  intro w
  simp [evP] at hv; subst hv
  refine ⟨?_, by simp [hf.2, evs_lt hn he _ ha, evs_lt hn he _ hb]⟩
  have h1 : a.map (evc μ e) = ⟨concL μ (evs e (a.toList.map cOpd))⟩ := by apply Array.ext'; simp [← evs_conc hg e _ ha]
  have h2 : b.map (evc μ e) = ⟨concL μ (evs e (b.toList.map cOpd))⟩ := by apply Array.ext'; simp [← evs_conc hg e _ hb]
  simp [execOp, hop, Instr.makeFunc, h1, h2, hf.1]
end
end Go.Proofs.YtjpepfgbilbcdaaGreatDoor.Ai
