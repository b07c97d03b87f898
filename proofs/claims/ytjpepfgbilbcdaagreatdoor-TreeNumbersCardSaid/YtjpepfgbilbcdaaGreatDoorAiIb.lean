/- A PART OF THE PROOF THAT AN INTERPRETER OF THE PROGRAM'S FUNCTIONS IS SOUND: a step of it. -/
import Derived.Test.YtjpepfgbilbcdaaGreatDoorAiI
namespace Go.Proofs.YtjpepfgbilbcdaaGreatDoor.Ai
open Go
set_option linter.unusedSimpArgs false

/-! ### keys, and structs held against each other -/
section
variable {P : Program} {ng n : Nat} {ts : List TypeId} {μ : Nat → Loc} {e : List Value}

theorem cFlat_some {t : TypeId} {q : EqT} (h : cFlat P t = some q) : (P.underlying t = some .bool ∧ q = .bool) ∨ (∃ k, P.underlying t = some (.int k) ∧ q = .int) ∨ (P.underlying t = some .string ∧ q = .str) := by
  unfold cFlat at h
  split at h <;> simp at h
  · rename_i hu; exact .inl ⟨hu, h.symm⟩
  · rename_i k hu; exact .inr (.inl ⟨k, hu, h.symm⟩)
  · rename_i hu; exact .inr (.inr ⟨hu, h.symm⟩)
theorem flat_run {t : TypeId} {q : EqT} (h : cFlat P t = some q) {X Y : Value} {b : Bool} (hb : eqv q X Y = some b) (k : Nat) (w : World) :
    (Op.equalIn (k + 1) t (conc μ X) (conc μ Y)).run P w = .ok b w := by
  rcases cFlat_some h with ⟨hu, rfl⟩ | ⟨j, hu, rfl⟩ | ⟨hu, rfl⟩ <;> unfold eqv at hb <;> split at hb <;> simp_all [Op.equalIn, run_und hu]
theorem flat_now {t : TypeId} {q : EqT} (h : cFlat P t = some q) {X Y : Value} {b : Bool} (hb : eqv q X Y = some b) : ∃ d, P.underlying t = some d ∧ Instr.sameNow d (conc μ X) (conc μ Y) = some b := by
  rcases cFlat_some h with ⟨hu, rfl⟩ | ⟨j, hu, rfl⟩ | ⟨hu, rfl⟩ <;> refine ⟨_, hu, ?_⟩ <;> unfold eqv at hb <;> split at hb <;> simp_all [Instr.sameNow]

theorem eqLoop {x y : List Value} {k d : Nat} (hd : k + 1 = d) (w : World) (F : Field → Option Bool × PUnit → Sem (ForInStep (Option Bool × PUnit)))
    (hF : ∀ f r, F f r = (if f.name ≠ "_" then (do let a ← part f.type ⟨concL μ x⟩ f.offset; let b ← part f.type ⟨concL μ y⟩ f.offset; let c ← Op.equalIn d f.type a b; if (!c) = true then pure (.done (some false, ())) else pure (.yield (none, ()))) else pure (.yield (none, ())))) :
    ∀ (l : List Field) (fs : List (Nat × Option Nat × EqT)) (b : Bool), cFields P l = some fs → eqvFs fs x y = some b → (forIn l ((none, ()) : Option Bool × PUnit) F).run P w = .ok (if b then none else some false, ()) w := by
  subst hd
  intro l
  induction l with
  | nil => intro fs b h hb; simp [cFields] at h; subst h; simp [eqvFs] at hb; subst hb; simp
  | cons f l ih =>
    intro fs b h hb
    simp only [cFields] at h
    split at h
    · simp at h
    · rename_i hnm
      split at h
      · rename_i m q r hm hq hr
        simp only [Option.some.injEq] at h
        subst h
        simp only [eqvFs] at hb
        split at hb
        · rename_i a b' ha hb'
          have h1 := part_sound (μ := μ) hm ha w
          have h2 := part_sound (μ := μ) hm hb' w
          simp only [List.forIn_cons, hF, ne_eq, hnm, not_false_eq_true, if_true, Sem.run_bind, h1, h2, Result.andThen_ok]
          split at hb
          · rename_i ht
            rw [flat_run hq ht]
            simpa using ih r b hr hb
          · rename_i ht
            simp at hb; subst hb
            rw [flat_run hq ht]
            simp
          · simp at hb
        · simp at hb
      · simp at h
/-- what cKey lets: flat, or a struct of what is flat -/
theorem cKey_some {t : TypeId} {q : EqT} (h : cKey P t = some q) : cFlat P t = some q ∨ ∃ fs r, P.underlying t = some (.struct fs) ∧ P.stoodInHeld t = false ∧ P.eqGuardType P.depth t = false ∧ cFields P fs.toList = some r ∧ q = .strct r := by
  unfold cKey at h
  split at h
  · rename_i q' hq; simp at h; subst h; exact .inl hq
  · split at h
    · rename_i fs hu
      split at h
      · simp at h
      · rename_i hs
        simp only [Bool.or_eq_true, not_or, Bool.not_eq_true] at hs
        simp only [Option.map_eq_some_iff] at h
        obtain ⟨r, hr, rfl⟩ := h
        exact .inr ⟨fs, r, hu, hs.1, hs.2, hr, rfl⟩
    · simp at h
theorem strct_agg {r : List (Nat × Option Nat × EqT)} {X Y : Value} {b : Bool} (hb : eqv (.strct r) X Y = some b) : ∃ x y, X = .agg ⟨x⟩ ∧ Y = .agg ⟨y⟩ ∧ eqvFs r x y = some b := by
  unfold eqv at hb
  split at hb <;> simp_all
theorem strct_run {t : TypeId} {fs : Array Field} {r : List (Nat × Option Nat × EqT)} (hu : P.underlying t = some (.struct fs)) (hs : P.stoodInHeld t = false) (hr : cFields P fs.toList = some r)
    {X Y : Value} {b : Bool} (hb : eqv (.strct r) X Y = some b) (k : Nat) (w : World) : (Op.equalIn (k + 2) t (conc μ X) (conc μ Y)).run P w = .ok b w := by
  obtain ⟨x, y, rfl, rfl, hb⟩ := strct_agg hb
  rw [show k + 2 = (k + 1) + 1 from rfl]
  generalize hd : k + 1 = d
  simp only [Op.equalIn, Sem.run_bind, run_und hu, Result.andThen_ok, conc_agg, run_program, hs]
  rw [← Array.forIn_toList]
  simp only [Bool.false_eq_true, if_false]
  simp only [Sem.run_bind]
  rw [eqLoop (x := x) (y := y) hd w _ (fun _ _ => rfl) fs.toList r b hr hb]
  cases b <;> simp
theorem key_run {t : TypeId} {q : EqT} (h : cKey P t = some q) {X Y : Value} {b : Bool} (hb : eqv q X Y = some b) (k : Nat) (w : World) : (Op.equalIn (k + 2) t (conc μ X) (conc μ Y)).run P w = .ok b w := by
  rcases cKey_some h with h1 | ⟨fs, r, hu, hs, _, hr, rfl⟩
  · exact flat_run h1 hb (k + 1) w
  · exact strct_run hu hs hr hb k w
theorem checkFlat {t : TypeId} {q : EqT} (h : cFlat P t = some q) (em : Bool) (k : Nat) (v : Value) (w : World) : (Instr.checkKey em (k + 1) t v).run P w = .ok () w := by
  rcases cFlat_some h with ⟨hu, _⟩ | ⟨j, hu, _⟩ | ⟨hu, _⟩ <;> simp [Instr.checkKey, run_und hu]
theorem checkLoop {x : List Value} (em : Bool) {k d : Nat} (hd : k + 1 = d) (w : World) (F : Field → PUnit → Sem (ForInStep PUnit))
    (hF : ∀ f r, F f r = (if f.name ≠ "_" then (do let a ← part f.type ⟨concL μ x⟩ f.offset; Instr.checkKey em d f.type a; pure (.yield ())) else pure (.yield ()))) :
    ∀ (l : List Field) (fs : List (Nat × Option Nat × EqT)), cFields P l = some fs → (fs.all fun f => (partV f.2.1 x f.1).isSome) = true → (forIn l () F).run P w = .ok () w := by
  subst hd
  intro l
  induction l with
  | nil => intro fs h hb; simp
  | cons f l ih =>
    intro fs h hb
    simp only [cFields] at h
    split at h
    · simp at h
    · rename_i hnm
      split at h
      · rename_i m q r hm hq hr
        simp only [Option.some.injEq] at h
        subst h
        simp only [List.all_cons, Bool.and_eq_true] at hb
        obtain ⟨a, ha⟩ := Option.isSome_iff_exists.1 hb.1
        have h1 := part_sound (μ := μ) hm ha w
        simp only [List.forIn_cons, hF, ne_eq, hnm, not_false_eq_true, if_true, Sem.run_bind, h1, Result.andThen_ok]
        rw [checkFlat hq]
        simpa using ih r hr hb.2
      · simp at h
theorem checkKey_run {t : TypeId} {q : EqT} (h : cKey P t = some q) {X : Value} (hX : keyOK q X = true) (em : Bool) (k : Nat) (w : World) : (Instr.checkKey em (k + 2) t (conc μ X)).run P w = .ok () w := by
  rcases cKey_some h with h1 | ⟨fs, r, hu, hs, _, hr, rfl⟩
  · exact checkFlat h1 em (k + 1) _ w
  · unfold keyOK at hX
    split at hX
    · rename_i r' x heq
      simp only [EqT.strct.injEq] at heq
      subst heq
      rw [show k + 2 = (k + 1) + 1 from rfl]
      generalize hd : k + 1 = d
      simp only [Instr.checkKey, Sem.run_bind, run_und hu, Result.andThen_ok, conc_agg]
      rw [← Array.forIn_toList]
      rw [checkLoop (x := x) em hd w _ (fun _ _ => rfl) fs.toList r hr hX]
      simp
    · simp at hX
    · rename_i h1 _; exact absurd rfl (h1 _)

def cEnt (μ : Nat → Loc) (x : Value × Value × Nat) : MapEntry := { key := conc μ x.1, val := conc μ x.2.1, born := x.2.2 }
theorem findNow_run {t : TypeId} {q : EqT} (h : cFlat P t = some q) {d : TypeDesc} (hd : P.underlying t = some d) {K : Value} : ∀ (es : List (Value × Value × Nat)) (i : Nat) (r : Option (Nat × Value)), findK q K es i = some r →
    Instr.findNow d (conc μ K) (es.map (cEnt μ)) i = some (r.map fun x => (x.1, conc μ x.2)) := by
  intro es
  induction es with
  | nil => intro i r hr; simp [findK] at hr; subst hr; simp [Instr.findNow]
  | cons x es ih =>
    intro i r hr
    obtain ⟨k', v, c⟩ := x
    simp only [findK] at hr
    simp only [List.map_cons, Instr.findNow, cEnt]
    split at hr
    · rename_i hb
      obtain ⟨d', h1, h2⟩ := flat_now (μ := μ) h hb
      rw [hd] at h1; simp at h1; subst h1
      simp at hr; subst hr
      simp [h2]
    · rename_i hb
      obtain ⟨d', h1, h2⟩ := flat_now (μ := μ) h hb
      rw [hd] at h1; simp at h1; subst h1
      simp only [h2]
      exact ih _ _ hr
    · simp at hr
theorem findAsking_run {t : TypeId} {q : EqT} (h : cKey P t = some q) {K : Value} (w : World) : ∀ (es : List (Value × Value × Nat)) (i : Nat) (r : Option (Nat × Value)), findK q K es i = some r →
    (Instr.findAsking t (conc μ K) (es.map (cEnt μ)) i).run P w = .ok (r.map fun x => (x.1, conc μ x.2)) w := by
  intro es
  induction es with
  | nil => intro i r hr; simp [findK] at hr; subst hr; simp [Instr.findAsking]
  | cons x es ih =>
    intro i r hr
    obtain ⟨k', v, c⟩ := x
    simp only [findK] at hr
    simp only [List.map_cons, Instr.findAsking, cEnt, Op.equal, Op.maxDepth, Sem.run_bind]
    split at hr
    · rename_i hb
      rw [key_run h hb 9998 w]
      simp at hr; subst hr
      simp
    · rename_i hb
      rw [key_run h hb 9998 w]
      simpa using ih _ _ hr
    · simp at hr
theorem findNow_none {d : TypeDesc} (h : ∀ k a b, Instr.sameNow d (.agg k) b = a → a = none) {k : Array Value} : ∀ (es : List MapEntry) (i : Nat), es ≠ [] → Instr.findNow d (.agg k) es i = none := by
  intro es i hne
  cases es with
  | nil => exact absurd rfl hne
  | cons e es => simp only [Instr.findNow]; rw [h k _ e.key rfl]
theorem findKey_run {t : TypeId} {q : EqT} (h : cKey P t = some q) {K : Value} (hK : keyOK q K = true) (w : World) {es : List (Value × Value × Nat)} {r : Option (Nat × Value)} (hr : findK q K es 0 = some r) :
    (Instr.findKey t (conc μ K) (es.map (cEnt μ))).run P w = .ok (r.map fun x => (x.1, conc μ x.2)) w := by
  rcases cKey_some h with h1 | ⟨fs, r', hu, hs, _, _, rfl⟩
  · obtain ⟨d, hd⟩ : ∃ d, P.underlying t = some d := by rcases cFlat_some h1 with ⟨hu, _⟩ | ⟨j, hu, _⟩ | ⟨hu, _⟩ <;> exact ⟨_, hu⟩
    simp [Instr.findKey, run_und hd, findNow_run h1 hd es 0 r hr]
  · simp only [Instr.findKey, Sem.run_bind, run_und hu, Result.andThen_ok]
    cases es with
    | nil => simp [findK] at hr; subst hr; simp [Instr.findNow]
    | cons x es =>
      unfold keyOK at hK
      split at hK
      · rename_i r2 y heq
        have hn : Instr.findNow (.struct fs) (conc μ (.agg ⟨y⟩)) ((x :: es).map (cEnt μ)) 0 = none := by
          rw [conc_agg]; exact findNow_none (fun _ _ _ hh => by rw [← hh]; rfl) _ _ (by simp)
        rw [hn]
        exact findAsking_run h w (x :: es) 0 r hr
      · simp at hK
      · rename_i h1 _; exact absurd rfl (h1 _)
theorem findK_lt {q : EqT} {K : Value} : ∀ {es : List (Value × Value × Nat)} {i : Nat} {r : Nat × Value}, findK q K es i = some (some r) → i ≤ r.1 ∧ ∃ x, es[r.1 - i]? = some x ∧ x.2.1 = r.2
  | [], _, _, h => by simp [findK] at h
  | (k', v, c) :: es, i, r, h => by
    simp only [findK] at h
    split at h
    · simp at h; subst h; exact ⟨Nat.le_refl _, (k', v, c), by simp, rfl⟩
    · obtain ⟨h1, x, h2, h3⟩ := findK_lt h
      refine ⟨by omega, x, ?_, h3⟩
      rw [show r.1 - i = (r.1 - (i + 1)) + 1 by omega]
      simpa using h2
    · simp at h

theorem sP_eqK (hg : Glob ng μ) (hn : ng ≤ n) (he : ltL n e = true) {o : Oper} {op : BinOp} {t u : TypeId} {fs : Array Field} {q : EqT} {x y : Operand} (hop : o.op = .binOp op t x y u) (hq : op = .eql ∨ op = .neq)
    (h1 : P.underlying t = some (.struct fs)) (hk : cKey P t = some q) (hx : okOpd ng x = true) (hy : okOpd ng y = true)
    {v : Value} (hv : evP e (.eqv (isNeq op) q (cOpd x) (cOpd y)) = some v) : PSound P μ n e o v := by
  intro w
  obtain ⟨_, hcx, hlx⟩ := opV (e := e) hg hn he hx
  obtain ⟨_, hcy, hly⟩ := opV (e := e) hg hn he hy
  simp only [evP, Option.map_eq_some_iff] at hv
  generalize (cOpd x).ev e = X at hv hcx hlx
  generalize (cOpd y).ev e = Y at hv hcy hly
  obtain ⟨b, hb, rfl⟩ := hv
  refine ⟨?_, by simp⟩
  have k1 : (Op.equal t (conc μ X) (conc μ Y)).run P w = .ok b w := key_run hk hb 9998 w
  rcases cKey_some hk with hf | ⟨fs', r, hu, hs, hgu, hr, rfl⟩
  · rcases cFlat_some hf with ⟨hu, _⟩ | ⟨j, hu, _⟩ | ⟨hu, _⟩ <;> rw [h1] at hu <;> simp at hu
  · obtain ⟨x', y', rfl, rfl, _⟩ := strct_agg hb
    have k2 : (eqGuard op t x y (conc μ (.agg ⟨x'⟩)) (conc μ (.agg ⟨y'⟩))).run P w = .ok () w := by
      rcases hq with rfl | rfl <;> simp [eqGuard, conc_agg, run_program, hgu]
    have k3 : binOp .eql t (conc μ (.agg ⟨x'⟩)) (conc μ (.agg ⟨y'⟩)) = (do pure (.bool (← Op.equal t (conc μ (.agg ⟨x'⟩)) (conc μ (.agg ⟨y'⟩))))) ∧ binOp .neq t (conc μ (.agg ⟨x'⟩)) (conc μ (.agg ⟨y'⟩)) = (do pure (.bool (!(← Op.equal t (conc μ (.agg ⟨x'⟩)) (conc μ (.agg ⟨y'⟩)))))) := by
      rw [conc_agg, conc_agg]; exact ⟨rfl, rfl⟩
    rcases hq with rfl | rfl
    · simp only [execOp, hop, hcx, hcy, Sem.run_bind, k2, Result.andThen_ok, k3.1, k1, Sem.run_pure, conc_bool, isNeq]; simp
    · simp only [execOp, hop, hcx, hcy, Sem.run_bind, k2, Result.andThen_ok, k3.2, k1, Sem.run_pure, conc_bool, isNeq]; simp

theorem eqFlat_eqv {q : EqT} {X Y : Value} {b : Bool} (h : eqFlat q X Y = some b) : eqv q X Y = some b := by
  unfold eqFlat at h
  split at h <;> unfold eqv <;> simp_all
theorem cIfaces_some {t : TypeId} {q : EqT} : ∀ {ts : List TypeId}, (cIfaces P ts).lookup t = some q → cFlat P t = some q ∧ ∃ i, P.info? t = some i ∧ i.comparable = true
  | [], h => by simp [cIfaces] at h
  | u :: ts, h => by
    rw [cIfaces, List.filterMap_cons] at h
    split at h
    · exact cIfaces_some (ts := ts) h
    · rename_i x hx
      obtain ⟨u', q'⟩ := x
      split at hx
      · rename_i i q2 hi hq
        split at hx
        · rename_i hc
          simp at hx
          obtain ⟨rfl, rfl⟩ := hx
          rw [List.lookup_cons] at h
          split at h
          · rename_i htu
            have htu' : t = u := by simpa using htu
            subst htu'
            simp at h; subst h
            exact ⟨hq, i, hi, hc⟩
          · exact cIfaces_some (ts := ts) h
        · simp at hx
      · simp at hx
theorem sP_eqI (hg : Glob ng μ) (hn : ng ≤ n) (he : ltL n e = true) {o : Oper} {op : BinOp} {t u : TypeId} {ms : Array (String × TypeId)} {x y : Operand} (hop : o.op = .binOp op t x y u) (hq : op = .eql ∨ op = .neq)
    (h1 : P.underlying t = some (.interface ms)) (hx : okOpd ng x = true) (hy : okOpd ng y = true)
    {v : Value} (hv : evP e (.eqv (isNeq op) (.ifaceT (cIfaces P ts)) (cOpd x) (cOpd y)) = some v) : PSound P μ n e o v := by
  intro w
  obtain ⟨_, hcx, hlx⟩ := opV (e := e) hg hn he hx
  obtain ⟨_, hcy, hly⟩ := opV (e := e) hg hn he hy
  simp only [evP, Option.map_eq_some_iff] at hv
  generalize (cOpd x).ev e = X at hv hcx hlx
  generalize (cOpd y).ev e = Y at hv hcy hly
  obtain ⟨b, hb, rfl⟩ := hv
  refine ⟨?_, by simp⟩
  have key : ∀ d, (Op.equalIn (d + 2) t (conc μ X) (conc μ Y)).run P w = .ok b w ∧ (eqGuard op t x y (conc μ X) (conc μ Y)).run P w = .ok () w ∧
      binOp .eql t (conc μ X) (conc μ Y) = (do pure (.bool (← Op.equal t (conc μ X) (conc μ Y)))) ∧ binOp .neq t (conc μ X) (conc μ Y) = (do pure (.bool (!(← Op.equal t (conc μ X) (conc μ Y))))) := by
    intro d
    rw [show d + 2 = (d + 1) + 1 from rfl]
    unfold eqv at hb
    split at hb
    case h_20 =>
      simp at hb; subst hb
      refine ⟨?_, ?_, rfl, rfl⟩
      · generalize d + 1 = d'
        simp [Op.equalIn, run_und h1]
      · rcases hq with rfl | rfl <;> simp [eqGuard]
    case h_21 =>
      simp at hb; subst hb
      refine ⟨?_, ?_, rfl, rfl⟩
      · generalize d + 1 = d'
        simp [Op.equalIn, run_und h1]
      · rcases hq with rfl | rfl <;> simp [eqGuard]
    case h_22 =>
      rename_i l tx vx ty vy heq
      simp only [EqT.ifaceT.injEq] at heq
      subst heq
      have hgd : (eqGuard op t x y (conc μ (.iface tx vx)) (conc μ (.iface ty vy))).run P w = .ok () w := by rcases hq with rfl | rfl <;> simp [eqGuard]
      refine ⟨?_, hgd, by simp only [conc_iface]; exact ⟨rfl, rfl⟩⟩
      split at hb
      · rename_i htu
        subst htu
        split at hb
        · rename_i q hq'
          obtain ⟨hfl, i, hi, hcomp⟩ := cIfaces_some hq'
          have hr := flat_run (μ := μ) hfl (eqFlat_eqv hb) d w
          generalize d + 1 = d' at hr ⊢
          simp only [Op.equalIn, Sem.run_bind, run_und h1, Result.andThen_ok, conc_iface, ne_eq, not_true_eq_false, if_false, run_info hi, hcomp, Bool.not_true, Bool.false_eq_true]
          exact hr
        · simp at hb
      · rename_i htu
        simp at hb; subst hb
        generalize d + 1 = d'
        simp [Op.equalIn, run_und h1, htu]
    all_goals first
      | (simp at hb; done)
      | (simp_all; done)
  rcases hq with rfl | rfl
  · simp only [execOp, hop, hcx, hcy, Sem.run_bind, (key 0).2.1, Result.andThen_ok, (key 0).2.2.1, show (Op.equal t (conc μ X) (conc μ Y)).run P w = .ok b w from (key 9998).1, Sem.run_pure, conc_bool, isNeq]; simp
  · simp only [execOp, hop, hcx, hcy, Sem.run_bind, (key 0).2.1, Result.andThen_ok, (key 0).2.2.2, show (Op.equal t (conc μ X) (conc μ Y)).run P w = .ok b w from (key 9998).1, Sem.run_pure, conc_bool, isNeq]; simp

theorem cmpS_a : (Extern.allNextRows.lookup "internal/bytealg.abigen_runtime_cmpstring").isNone = true ∧ (Extern.allNextRows.lookup "").isNone = true := ⟨by kernel_rfl, by kernel_rfl⟩
theorem cmpS_b : (Extern.allGenericRows.lookup "internal/bytealg.abigen_runtime_cmpstring").isNone = true ∧ (Extern.allTypedRows.lookup "internal/bytealg.abigen_runtime_cmpstring").isNone = true := ⟨by kernel_rfl, by kernel_rfl⟩
theorem cmpS_c : Extern.allRows.lookup "internal/bytealg.abigen_runtime_cmpstring" = some Extern.BytealgCompare.compare := by kernel_rfl
theorem cmpS_find (fn : Func) (h : fn.name = "internal/bytealg.abigen_runtime_cmpstring") (h' : fn.origin = "") : Extern.findNext fn = none ∧ Extern.find fn = some Extern.BytealgCompare.compare := by
  constructor
  · simp [Extern.findNext, h, h', Option.isNone_iff_eq_none.1 cmpS_a.1, Option.isNone_iff_eq_none.1 cmpS_a.2]
  · simp [Extern.find, h, h', Option.isNone_iff_eq_none.1 cmpS_b.1, Option.isNone_iff_eq_none.1 cmpS_b.2, cmpS_c]

theorem idxB_a : (Extern.allNextRows.lookup "internal/bytealg.IndexByteString").isNone = true ∧ (Extern.allNextRows.lookup "").isNone = true := ⟨by kernel_rfl, by kernel_rfl⟩
theorem idxB_b : (Extern.allGenericRows.lookup "internal/bytealg.IndexByteString").isNone = true ∧ (Extern.allTypedRows.lookup "internal/bytealg.IndexByteString").isNone = true := ⟨by kernel_rfl, by kernel_rfl⟩
theorem idxB_c : Extern.allRows.lookup "internal/bytealg.IndexByteString" = some Extern.BytealgIndexByte.indexByte := by kernel_rfl
theorem idxB_find (fn : Func) (h : fn.name = "internal/bytealg.IndexByteString") (h' : fn.origin = "") : Extern.findNext fn = none ∧ Extern.find fn = some Extern.BytealgIndexByte.indexByte := by
  constructor
  · simp [Extern.findNext, h, h', Option.isNone_iff_eq_none.1 idxB_a.1, Option.isNone_iff_eq_none.1 idxB_a.2]
  · simp [Extern.find, h, h', Option.isNone_iff_eq_none.1 idxB_b.1, Option.isNone_iff_eq_none.1 idxB_b.2, idxB_c]
theorem idxB_run (s : ByteArray) (b : Int) (w : World) : (Extern.BytealgIndexByte.indexByte #[.string s, .int .u8 b]).run P w =
    .ok (.int .i64 (match (List.range s.size).find? fun i => s[i]! == b.toNat.toUInt8 with | some i => (i : Int) | none => -1)) w := by
  have h1 : (Extern.Bytes.bytesOf (.string s)).run P w = .ok s w := rfl
  have h2 : (Extern.Bytes.asByte (.int .u8 b)).run P w = .ok b.toNat.toUInt8 w := rfl
  rw [show Extern.BytealgIndexByte.indexByte #[.string s, .int .u8 b] = (Extern.Bytes.bytesOf (.string s) >>= fun s' => Extern.Bytes.asByte (.int .u8 b) >>= _) from rfl]
  simp only [Sem.run_bind, h1, h2, Result.andThen_ok]
  cases hf : (List.range s.size).find? (fun i => s[i]! == b.toNat.toUInt8) <;> simp [goInt]
end
end Go.Proofs.YtjpepfgbilbcdaaGreatDoor.Ai
