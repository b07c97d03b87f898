/- A PART OF THE PROOF THAT AN INTERPRETER OF THE PROGRAM'S FUNCTIONS IS SOUND: a step of it. -/
import Derived.Test.YtjpepfgbilbcdaaGreatDoorAiIb
namespace Go.Proofs.YtjpepfgbilbcdaaGreatDoor.Ai
open Go
set_option linter.unusedSimpArgs false

section
variable {P : Program} {ng n : Nat} {ts : List TypeId} {μ : Nat → Loc} {e : List Value}

theorem mapM_opt {α β : Type} {f : α → Option β} : ∀ {l : List α} {r : List β}, l.mapM f = some r → r.length = l.length ∧ ∀ (k : Nat) (x : α), l[k]? = some x → ∃ y, f x = some y ∧ r[k]? = some y := by
  intro l
  induction l with
  | nil => intro r h; simp at h; subst h; simp
  | cons x l ih =>
    intro r h
    simp only [List.mapM_cons, Option.bind_eq_bind, Option.bind_eq_some_iff] at h
    obtain ⟨y, hy, r', hr', h⟩ := h
    simp at h; subst h
    obtain ⟨h1, h2⟩ := ih hr'
    refine ⟨by simp [h1], fun k z hz => ?_⟩
    cases k with
    | zero => simp at hz; subst hz; exact ⟨y, hy, by simp⟩
    | succ k => simpa using h2 k z (by simpa using hz)
theorem run_mapM {α β : Type} {f : α → Sem β} {g : α → Option β} (w : World) : ∀ {l : List α} {r : List β}, (∀ x y, x ∈ l → g x = some y → (f x).run P w = .ok y w) → l.mapM g = some r → (l.mapM f).run P w = .ok r w := by
  intro l
  induction l with
  | nil => intro r _ h; simp at h; subst h; simp
  | cons x l ih =>
    intro r hf h
    simp only [List.mapM_cons, Option.bind_eq_bind, Option.bind_eq_some_iff] at h
    obtain ⟨y, hy, r', hr', h⟩ := h
    simp at h; subst h
    simp [List.mapM_cons, hf x y (by simp) hy, ih (fun z u hz => hf z u (by simp [hz])) hr']
theorem run_amapM {α β : Type} {f : α → Sem β} {g : α → Option β} (w : World) {l : Array α} {r : List β} (hf : ∀ x y, x ∈ l.toList → g x = some y → (f x).run P w = .ok y w) (h : l.toList.mapM g = some r) : (l.mapM f).run P w = .ok r.toArray w := by
  rw [Array.mapM_eq_mapM_toList]
  simp [run_mapM w hf h]

theorem zeroCells_some {t : TypeId} {z : List Value} (h : zeroCells P t = some z) : ∃ v, zeroOf P t = some v ∧ z = cellsOf v ∧ szOf P t = some z.length ∧ ltL 0 z = true ∧ allCells z = true := by
  unfold zeroCells at h
  split at h
  · rename_i v k h1 h2
    split at h
    · rename_i hc
      simp at h; subst h
      simp at hc
      exact ⟨v, h1, rfl, by rw [h2, hc.1], cellsOf_lt (zeroOf_some h1).1, hc.2⟩
    · simp at h
  · simp at h
theorem zeroCells_run {t : TypeId} {z : List Value} (h : zeroCells P t = some z) (w : World) : ∃ v, (zeroValue t).run P w = .ok v w ∧ v.cells = z.toArray := by
  obtain ⟨v, h1, rfl, _, h3, _⟩ := zeroCells_some h
  obtain ⟨h0, hr⟩ := zeroOf_some h1
  refine ⟨v, hr w, ?_⟩
  have := cells_conc (μ := fun _ => (⟨0, 0, 0⟩ : Loc)) v
  rw [conc_zero _ v h0, concL_zero _ _ h3] at this
  apply Array.ext'
  simpa using this

theorem parts_ok (hg : Glob ng μ) {place : Nat → Option (Nat × Nat)} {parts : Array (Nat × Operand)} {qs : List (Nat × Nat × Opd)} {f : Nat × Operand → Option (Nat × Nat × Opd)}
    (hf : ∀ (i : Nat) (x : Operand) (off m : Nat) (y : Opd), f (i, x) = some (off, m, y) → place i = some (off, m) ∧ y = cOpd x) (ho : ∀ q ∈ parts.toList, okOpd ng q.2 = true) (h : parts.toList.mapM f = some qs) :
    PartsOK place μ e (parts.map fun (i, x) => (i, evc μ e x)).toList qs ∧ ∀ q ∈ qs, ∃ p ∈ parts.toList, q.2.2 = cOpd p.2 := by
  obtain ⟨h1, h2⟩ := mapM_opt h
  constructor
  · refine ⟨by simp [h1], ?_⟩
    intro k i v off m x hp hq
    simp only [Array.toList_map, List.getElem?_map, Option.map_eq_some_iff] at hp
    obtain ⟨⟨i', x'⟩, hp, he⟩ := hp
    simp at he
    obtain ⟨rfl, rfl⟩ := he
    obtain ⟨y, hy1, hy2⟩ := h2 k _ hp
    rw [hy2] at hq
    simp at hq; subst hq
    obtain ⟨g1, rfl⟩ := hf _ _ _ _ _ hy1
    exact ⟨g1, opd_conc hg e (ho _ (List.mem_of_getElem? hp))⟩
  · intro q hq
    obtain ⟨k, hk⟩ := List.getElem?_of_mem hq
    have hlt : k < parts.toList.length := by rw [← h1]; exact (List.getElem?_eq_some_iff.1 hk).1
    obtain ⟨y, hy1, hy2⟩ := h2 k _ (List.getElem?_eq_getElem hlt)
    rw [hy2] at hk; simp at hk; subst hk
    exact ⟨parts.toList[k], List.getElem_mem hlt, (hf _ _ _ _ _ hy1).2⟩

theorem sP_build (hg : Glob ng μ) (hn : ng ≤ n) (he : ltL n e = true) {o : Oper} {t : TypeId} {parts : Array (Nat × Operand)} {fs : Array Field} {z : List Value} {ns : List (Nat × Nat)} {qs : List (Nat × Nat × Opd)}
    (hop : o.op = .build t parts) (h1 : P.underlying t = some (.struct fs)) (h2 : zeroCells P t = some z) (h3 : (fs.toList.mapM fun f => (szOf P f.type).map fun n => (f.offset, n)) = some ns)
    (h4 : cParts ns parts = some qs) (h5 : ∀ q ∈ qs, q.2.1 ≠ 0) (ho : ∀ q ∈ parts.toList, okOpd ng q.2 = true) {v : Value} (hv : evP e (.build z qs) = some v) : PSound P μ n e o v := by
  intro w
  simp only [evP, Option.map_eq_some_iff] at hv
  obtain ⟨cs, hcs, rfl⟩ := hv
  obtain ⟨zv, hz, hzc⟩ := zeroCells_run h2 w
  obtain ⟨_, _, _, _, hz0, _⟩ := zeroCells_some h2
  obtain ⟨hpo, hmem⟩ := parts_ok (e := e) (place := (ns.toArray[·]?)) hg (by
    intro i x off m y hy
    simp only [Option.map_eq_some_iff, Prod.mk.injEq, Prod.exists] at hy
    obtain ⟨a, b, hab, rfl, rfl, rfl⟩ := hy
    exact ⟨by simpa using hab, rfl⟩) ho h4
  have hfill := fill_sound qs _ z cs hpo hcs h5
  rw [concL_zero μ z hz0] at hfill
  have hm : (fs.mapM fun (f : Field) => (do pure (f.offset, ← Go.sizeOf f.type) : Sem (Nat × Nat))).run P w = .ok ns.toArray w := by
    refine run_amapM w ?_ h3
    intro x y _ hy
    simp only [Option.map_eq_some_iff] at hy
    obtain ⟨k, hk, rfl⟩ := hy
    simp [run_sz hk]
  refine ⟨?_, ?_⟩
  · have hfill' : Instr.fill (fun x => ns.toArray[x]?) z.toArray (Array.map (fun x => (x.1, evc μ e x.2)) parts).toList = some ⟨concL μ cs⟩ := hfill
    simp only [execOp, hop, Instr.build, Sem.run_bind, hz, Result.andThen_ok, run_und h1, hm, hzc]
    rw [hfill']
    simp
  · rw [lt_agg]
    refine fill_lt qs z cs hcs (ltL_mono (Nat.zero_le n) z hz0) ?_
    intro q hq
    obtain ⟨p, hp, hqp⟩ := hmem q hq
    rw [hqp]
    exact opd_lt hn he (ho p hp)
theorem sP_buildA (hg : Glob ng μ) (hn : ng ≤ n) (he : ltL n e = true) {o : Oper} {t el : TypeId} {len k : Nat} {parts : Array (Nat × Operand)} {z : List Value} {qs : List (Nat × Nat × Opd)}
    (hop : o.op = .build t parts) (h1 : P.underlying t = some (.array len el)) (h2 : zeroCells P t = some z) (h3 : szOf P el = some k) (hk : k ≠ 0)
    (h4 : (parts.toList.mapM fun (i, x) => if i < len then some (i * k, k, cOpd x) else none) = some qs) (ho : ∀ q ∈ parts.toList, okOpd ng q.2 = true) {v : Value} (hv : evP e (.build z qs) = some v) : PSound P μ n e o v := by
  intro w
  simp only [evP, Option.map_eq_some_iff] at hv
  obtain ⟨cs, hcs, rfl⟩ := hv
  obtain ⟨zv, hz, hzc⟩ := zeroCells_run h2 w
  obtain ⟨_, _, _, _, hz0, _⟩ := zeroCells_some h2
  have hf : ∀ i x off m y, (if i < len then some (i * k, k, cOpd x) else none) = some (off, m, y) → (fun i => some (i * k, k)) i = some (off, m) ∧ y = cOpd x := by
    intro i x off m y hy
    split at hy <;> simp at hy
    obtain ⟨rfl, rfl, rfl⟩ := hy
    exact ⟨rfl, rfl⟩
  obtain ⟨hpo, hmem⟩ := parts_ok (e := e) (place := fun i => some (i * k, k)) hg hf ho h4
  have h5 : ∀ q ∈ qs, q.2.1 ≠ 0 := by
    intro q hq
    obtain ⟨h1', h2'⟩ := mapM_opt h4
    obtain ⟨j, hj⟩ := List.getElem?_of_mem hq
    have hlt : j < parts.toList.length := by rw [← h1']; exact (List.getElem?_eq_some_iff.1 hj).1
    obtain ⟨y, hy1, hy2⟩ := h2' j _ (List.getElem?_eq_getElem hlt)
    rw [hy2] at hj; simp at hj; subst hj
    split at hy1
    · simp at hy1; rw [← hy1.2]; exact hk
  have hfill := fill_sound qs _ z cs hpo hcs h5
  rw [concL_zero μ z hz0] at hfill
  refine ⟨?_, ?_⟩
  · have hfill' : Instr.fill (fun i => some (i * k, k)) z.toArray (Array.map (fun x => (x.1, evc μ e x.2)) parts).toList = some ⟨concL μ cs⟩ := hfill
    simp only [execOp, hop, Instr.build, Sem.run_bind, hz, Result.andThen_ok, run_und h1, run_sz h3, hzc]
    rw [hfill']
    simp
  · rw [lt_agg]
    refine fill_lt qs z cs hcs (ltL_mono (Nat.zero_le n) z hz0) ?_
    intro q hq
    obtain ⟨p, hp, hqp⟩ := hmem q hq
    rw [hqp]
    exact opd_lt hn he (ho p hp)

theorem ok_arr {op : Op} {l : Array Operand} (h : okOp ng op = true) (ho : op.operands = l) : ∀ x ∈ l.toList, okOpd ng x = true := by
  subst ho
  intro x hx
  simp only [okOp, Array.all_eq_true'] at h
  exact h x (by simpa using hx)

theorem noEscape_a : (Extern.allNextRows.lookup "internal/abi.NoEscape").isNone = true ∧ (Extern.allNextRows.lookup "").isNone = true := ⟨by kernel_rfl, by kernel_rfl⟩
theorem noEscape_b : (Extern.allGenericRows.lookup "internal/abi.NoEscape").isNone = true ∧ (Extern.allTypedRows.lookup "internal/abi.NoEscape").isNone = true := ⟨by kernel_rfl, by kernel_rfl⟩
theorem noEscape_c : Extern.allRows.lookup "internal/abi.NoEscape" = some Extern.AbiNoEscape.same := by kernel_rfl
theorem noEscape (fn : Func) (h : fn.name = "internal/abi.NoEscape") (h' : fn.origin = "") : Extern.findNext fn = none ∧ Extern.find fn = some Extern.AbiNoEscape.same := by
  constructor
  · simp [Extern.findNext, h, h', Option.isNone_iff_eq_none.1 noEscape_a.1, Option.isNone_iff_eq_none.1 noEscape_a.2]
  · simp [Extern.find, h, h', Option.isNone_iff_eq_none.1 noEscape_b.1, Option.isNone_iff_eq_none.1 noEscape_b.2, noEscape_c]
/-- **The operations that only compute.** -/
theorem evP_sound (hg : Glob ng μ) (hn : ng ≤ n) (he : ltL n e = true) {o : Oper} {q : POp} (hc : cOp P ts o.op = some (.p q)) (ho : okOp ng o.op = true) {v : Value} (hv : evP e q = some v) : PSound P μ n e o v := by
  generalize hop : o.op = op at hc ho
  cases op with
  | move x => simp [cOp] at hc; subst hc; exact sP_mov hg hn he (.inl hop) (okOp_1 ho rfl) hv
  | assign x => simp [cOp] at hc; subst hc; exact sP_mov hg hn he (.inr hop) (okOp_1 ho rfl) hv
  | pick c a b =>
    simp [cOp] at hc; subst hc
    have h := ok_arr ho (l := #[c, a, b]) rfl
    simp at h
    exact sP_pick hg hn he hop h.1 h.2.1 h.2.2 hv
  | build t parts =>
    have h := ok_arr ho rfl
    have h' : ∀ q ∈ parts.toList, okOpd ng q.2 = true := by
      intro q hq
      refine h q.2 ?_
      simp only [Op.operands, List.toList_toArray, List.mem_map]
      exact ⟨q, hq, rfl⟩
    simp only [cOp] at hc
    split at hc
    · rename_i fs z h1 h2
      simp only [Option.bind_eq_bind, Option.bind_eq_some_iff] at hc
      obtain ⟨ns, h3, ps, h4, hc⟩ := hc
      split at hc
      · rename_i h5
        simp at hc; subst hc
        exact sP_build hg hn he hop h1 h2 h3 h4 (by simpa using h5) h' hv
      · simp at hc
    · rename_i len el z h1 h2
      simp only [Option.bind_eq_bind, Option.bind_eq_some_iff] at hc
      obtain ⟨k, h3, ps, h4, hc⟩ := hc
      split at hc
      · rename_i h5
        simp at hc; subst hc
        exact sP_buildA hg hn he hop h1 h2 h3 (by simpa using h5) h4 h' hv
      · simp at hc
    · simp at hc
  | nilCheck x => simp [cOp] at hc; subst hc; exact sP_nilchk hg hn he hop (okOp_1 ho rfl) hv
  | binOp op t x y u =>
    have h := okOp_2 ho rfl
    simp only [cOp] at hc
    split at hc
    · simp at hc; subst hc; exact sP_bin hg hn he hop h.1 h.2 hv
    · simp at hc; subst hc; exact sP_bin hg hn he hop h.1 h.2 hv
    · rename_i d hd1 hd2 hd3
      have key : ∀ op, (op = .eql ∨ op = .neq) → o.op = .binOp op t x y u → cEqOp P ts op t d x y = some (.p q) → PSound P μ n e o v := by
        intro op hq hop' hc'
        unfold cEqOp at hc'
        split at hc'
        · simp only [Option.map_eq_some_iff, IOp.p.injEq] at hc'
          obtain ⟨qq, hqq, rfl⟩ := hc'
          exact sP_eqK hg hn he hop' hq hd3 hqq h.1 h.2 hv
        · split at hc' <;> simp at hc'
        all_goals try (simp at hc'; done)
        all_goals
          simp only [Option.some.injEq, IOp.p.injEq] at hc'
          rw [← hc'] at hv
        · exact sP_eqv hg hn he hop' hq hd3 (by simp [eqFit]) h.1 h.2 hv
        · exact sP_eqv hg hn he hop' hq hd3 (by simp [eqFit]) h.1 h.2 hv
        · exact sP_eqv hg hn he hop' hq hd3 (by simp [eqFit]) h.1 h.2 hv
        · by_cases hcst : (isConst x || isConst y) = true
          · rw [if_pos hcst] at hv
            exact sP_eqv hg hn he hop' hq hd3 (by simp [eqFit, hcst]) h.1 h.2 hv
          · rw [if_neg hcst] at hv
            by_cases hem : (cIfaces P ts).isEmpty = true
            · rw [if_pos hem] at hv
              exact sP_eqv hg hn he hop' hq hd3 (by simp [eqFit]) h.1 h.2 hv
            · rw [if_neg hem] at hv
              exact sP_eqI hg hn he hop' hq hd3 h.1 h.2 hv
        · exact sP_eqv hg hn he hop' hq hd3 (by simp [eqFit]) h.1 h.2 hv
      split at hc
      · exact key _ (.inl rfl) hop hc
      · exact key _ (.inr rfl) hop hc
      · simp at hc
    · simp at hc
  | unOp op t x => simp [cOp] at hc; subst hc; exact sP_un hg hn he hop (okOp_1 ho rfl) hv
  | convert src dst x =>
    simp only [cOp] at hc
    split at hc
    · rename_i h1 h2; simp at hc; subst hc; exact sP_conv hg hn he hop h1 h2 (okOp_1 ho rfl) hv
    · rename_i h1 h2; simp at hc; subst hc; exact sP_convStr hg hn he hop h1 h2 (okOp_1 ho rfl) hv
    all_goals (repeat' split at hc) <;> simp at hc
  | makeInterface t x =>
    simp only [cOp] at hc
    split at hc
    · simp at hc
    · rename_i d h2 h1; simp at hc; subst hc; exact sP_mkI hg hn he hop h1 (fun ms hm => h2 ms hm) (okOp_1 ho rfl) hv
    · simp at hc
  | makeFunc fn a b =>
    simp only [cOp] at hc
    split at hc
    · simp at hc; subst hc
      have h := ok_arr ho rfl
      exact sP_mkF hg hn he ⟨rfl, rfl⟩ hop (fun x hx => h x (by simp [Op.operands, List.mem_append]; exact .inl (by simpa using hx))) (fun x hx => h x (by simp [Op.operands]; exact .inr (by simpa using hx))) hv
    · simp at hc; subst hc
      have h := ok_arr ho rfl
      exact sP_mkF hg hn he ⟨rfl, rfl⟩ hop (fun x hx => h x (by simp [Op.operands, List.mem_append]; exact .inl (by simpa using hx))) (fun x hx => h x (by simp [Op.operands]; exact .inr (by simpa using hx))) hv
    · simp at hc
  | fieldAddr t x f =>
    simp only [cOp] at hc
    split at hc
    · rename_i fs h1
      split at hc
      · rename_i fl h2
        split at hc
        · rename_i k h3; simp at hc; subst hc; exact sP_faddr hg hn he hop h1 h2 h3 (okOp_1 ho rfl) hv
        · simp at hc
      · simp at hc
    · simp at hc
  | field t x f =>
    simp only [cOp] at hc
    split at hc
    · rename_i fs h1
      split at hc
      · rename_i fl h2
        simp only [Option.map_eq_some_iff] at hc
        obtain ⟨m, h3, hc⟩ := hc
        simp at hc; subst hc
        exact sP_field hg hn he hop h1 h2 h3 (okOp_1 ho rfl) hv
      · simp at hc
    · simp at hc
  | indexAddr t x i =>
    have h := okOp_2 ho rfl
    simp only [cOp] at hc
    split at hc
    · rename_i el h1
      simp only [Option.map_eq_some_iff] at hc
      obtain ⟨k, h3, hc⟩ := hc
      simp at hc; subst hc
      exact sP_iaddrS hg hn he hop h1 h3 h.1 h.2 hv
    · rename_i len el h1
      simp only [Option.map_eq_some_iff] at hc
      obtain ⟨k, h3, hc⟩ := hc
      simp at hc; subst hc
      exact sP_iaddrA hg hn he hop h1 h3 h.1 h.2 hv
    · simp at hc
  | index t x i =>
    have h := okOp_2 ho rfl
    simp only [cOp] at hc
    split at hc
    · rename_i h1; simp at hc; subst hc; exact sP_idxS hg hn he hop h1 h.1 h.2 hv
    · rename_i len el h1
      split at hc
      · rename_i k m h2 h3; simp at hc; subst hc; exact sP_idxA hg hn he hop h1 h2 h3 h.1 h.2 hv
      · simp at hc
    · simp at hc
  | slice t x lo hi mx =>
    have h := ok_arr ho rfl
    simp only [Op.operands] at h
    simp only [cOp] at hc
    split at hc
    · rename_i h1
      simp at hc; subst hc
      refine sP_slS hg hn he hop h1 (h x (by simp)) (fun y hy => h y (by simp [hy])) (fun y hy => h y (by simp [hy])) hv
    all_goals (repeat' split at hc) <;> simp at hc
  | typeAssert x xt t ok =>
    simp only [cOp] at hc
    split at hc
    · simp at hc
    · rename_i d h2 h1
      split at hc
      · rename_i hok
        simp only [Option.map_eq_some_iff] at hc
        obtain ⟨z, hz, hc⟩ := hc
        simp at hc; subst hc
        exact sP_tassert hg hn he hop h1 (fun ms hm => h2 ms hm) (by rw [if_pos hok]; exact ⟨z, rfl, hz⟩) (okOp_1 ho rfl) hv
      · rename_i hok
        simp at hc; subst hc
        exact sP_tassert hg hn he hop h1 (fun ms hm => h2 ms hm) (by rw [if_neg hok]) (okOp_1 ho rfl) hv
    · simp at hc
  | extract x i => simp [cOp] at hc; subst hc; exact sP_ext hg hn he hop (okOp_1 ho rfl) hv
  | call c =>
    obtain ⟨callee, args, ats⟩ := c
    have h := ok_arr ho rfl
    simp only [Op.operands, Call.operands] at h
    have h' : ∀ x ∈ args.toList, okOpd ng x = true := fun x hx => h x (by simp; exact .inr (by simpa using hx))
    simp only [cOp] at hc
    cases callee with
    | builtin b =>
      simp only at hc
      unfold cBuiltin at hc
      split at hc
      · rename_i x t ha ht
        have ha' : args = #[x] := by apply Array.ext'; simpa using ha
        have ht' : ats = #[t] := by apply Array.ext'; simpa using ht
        subst ha' ht'
        have hx := h' x (by simp)
        split at hc
        · rename_i h1; simp at hc; subst hc; exact sP_lenS hg hn he hop h1 hx hv
        · rename_i el h1; simp at hc; subst hc; exact sP_lenL hg hn he hop h1 hx hv
        · rename_i k el h1; simp at hc; subst hc; exact sP_lenC hop (.inl ⟨el, h1⟩) hv
        · simp at hc
        · rename_i a h1
          split at hc
          · rename_i k el h2; simp at hc; subst hc; exact sP_lenC hop (.inr ⟨a, el, h1, h2⟩) hv
          · simp at hc
        · simp at hc
      · (repeat' split at hc) <;> simp at hc
      · rename_i _ x y ha
        have ha' : args = #[x, y] := by apply Array.ext'; simpa using ha
        subst ha'
        simp at hc; subst hc
        exact sP_max hg hn he hop (h' x (by simp)) (h' y (by simp)) hv
      · rename_i _ x y ha
        have ha' : args = #[x, y] := by apply Array.ext'; simpa using ha
        subst ha'
        simp at hc; subst hc
        exact sP_min hg hn he hop (h' x (by simp)) (h' y (by simp)) hv
      all_goals (repeat' split at hc) <;> simp at hc
    | value f =>
      cases f with
      | func f =>
        simp only at hc
        split at hc
        · rename_i fn hfn
          split at hc
          · rename_i x hb ha
            have ha' : args = #[x] := by apply Array.ext'; simpa using ha
            subst ha'
            split at hc
            · rename_i hname
              simp at hc; subst hc
              intro w
              have hx := opV (e := e) hg hn he (h' x (by simp))
              simp only [evP, Option.some.injEq] at hv
              subst hv
              refine ⟨?_, hx.l⟩
              simp only [execOp, hop, resolve, Sem.run_bind, Act.eval, evc, Deferred.ofValue, Sem.run_pure, Result.andThen_ok, invoke, callFunc, run_program, hfn]
              rw [if_neg (by rw [hname.1]; simp)]
              simp only [hb, Option.isNone_none, if_true, Sem.run_bind, run_mark, Result.andThen_ok]
              rw [(noEscape fn hname.1 hname.2).1, (noEscape fn hname.1 hname.2).2]
              have hs : ∀ X, Extern.AbiNoEscape.same #[X] = pure X := fun _ => rfl
              simp [hs, hx.c]
            · simp at hc
          · rename_i x y hb ha
            have ha' : args = #[x, y] := by apply Array.ext'; simpa using ha
            subst ha'
            split at hc
            · rename_i hname
              simp at hc; subst hc
              intro w
              have hx := opV (e := e) hg hn he (h' x (by simp))
              have hy := opV (e := e) hg hn he (h' y (by simp))
              simp only [evP] at hv
              obtain ⟨_, hcx, _⟩ := hx
              obtain ⟨_, hcy, _⟩ := hy
              generalize (cOpd x).ev e = X at hv hcx
              generalize (cOpd y).ev e = Y at hv hcy
              split at hv
              · simp only [Option.some.injEq] at hv
                subst hv
                refine ⟨?_, by simp⟩
                simp only [execOp, hop, resolve, Sem.run_bind, Act.eval, evc, Deferred.ofValue, Sem.run_pure, Result.andThen_ok, invoke, callFunc, run_program, hfn]
                rw [if_neg (by rw [hname.1]; simp)]
                simp only [hb, Option.isNone_none, if_true, Sem.run_bind, run_mark, Result.andThen_ok]
                rw [(cmpS_find fn hname.1 hname.2).1, (cmpS_find fn hname.1 hname.2).2]
                have hs : ∀ a b, Extern.BytealgCompare.compare #[.string a, .string b] = pure (goInt (Extern.BytealgCompare.cmp a b)) := fun _ _ => rfl
                simp [hs, hcx, hcy, goInt]
              · simp at hv
            · split at hc
              · rename_i hname
                simp at hc; subst hc
                intro w
                have hx := opV (e := e) hg hn he (h' x (by simp))
                have hy := opV (e := e) hg hn he (h' y (by simp))
                simp only [evP] at hv
                obtain ⟨_, hcx, _⟩ := hx
                obtain ⟨_, hcy, _⟩ := hy
                generalize (cOpd x).ev e = X at hv hcx
                generalize (cOpd y).ev e = Y at hv hcy
                split at hv
                · simp only [Option.some.injEq] at hv
                  subst hv
                  refine ⟨?_, by simp⟩
                  simp only [execOp, hop, resolve, Sem.run_bind, Act.eval, evc, Deferred.ofValue, Sem.run_pure, Result.andThen_ok, invoke, callFunc, run_program, hfn]
                  rw [if_neg (by rw [hname.1]; simp)]
                  simp only [hb, Option.isNone_none, if_true, Sem.run_bind, run_mark, Result.andThen_ok]
                  rw [(idxB_find fn hname.1 hname.2).1, (idxB_find fn hname.1 hname.2).2]
                  simp only [List.map_toArray, List.map_cons, List.map_nil, hcx, hcy, conc_string, conc_int, Sem.run_bind, Result.andThen_ok, Sem.run_pure]
                  have e0 : ∀ A B : Value, (#[] ++ #[A, B] ++ #[] : Array Value) = #[A, B] := fun _ _ => by simp
                  rw [e0, idxB_run]
                  rfl
                · simp at hv
              · simp at hc
          · simp at hc
          · simp at hc
        · simp at hc
      | _ => simp at hc
    | invoke x name => simp at hc
  | alloc t => simp only [cOp] at hc; split at hc <;> simp at hc
  | box t x => simp only [cOp] at hc; split at hc <;> simp at hc
  | load t x => simp only [cOp] at hc; split at hc <;> simp at hc
  | store t a x => simp only [cOp] at hc; split at hc <;> simp at hc
  | makeMap t r => cases r <;> simp [cOp] at hc
  | buildSlice t len parts =>
    simp only [cOp] at hc
    split at hc
    · simp only [Option.bind_eq_bind, Option.bind_eq_some_iff] at hc
      obtain ⟨z, _, hc⟩ := hc
      split at hc
      · simp at hc
      · simp only [Option.bind_eq_some_iff] at hc
        obtain ⟨_, _, hc⟩ := hc
        simp at hc
    · simp at hc
  | makeSlice t l c => simp only [cOp] at hc; (repeat' split at hc) <;> simp at hc
  | lookup t x i ok => simp only [cOp] at hc; (repeat' split at hc) <;> simp at hc
  | mapUpdate t m k v => simp only [cOp] at hc; (repeat' split at hc) <;> simp at hc
  | insert t m k v => simp only [cOp] at hc; (repeat' split at hc) <;> simp at hc
  | mapEntry t m k => simp only [cOp] at hc; (repeat' split at hc) <;> simp at hc
  | _ => simp [cOp] at hc
end
end Go.Proofs.YtjpepfgbilbcdaaGreatDoor.Ai
