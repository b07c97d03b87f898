/- A PART OF THE PROOF THAT AN INTERPRETER OF THE PROGRAM'S FUNCTIONS IS SOUND: a step of it. -/
import Derived.Test.YtjpepfgbilbcdaaGreatDoorAiH
namespace Go.Proofs.YtjpepfgbilbcdaaGreatDoor.Ai
open Go
set_option linter.unusedSimpArgs false

section
variable {P : Program} {ng n : Nat} {ts : List TypeId} {μ : Nat → Loc} {e : List Value}

/-! ### bounds of slice expressions -/
theorem bound_sound (hg : Glob ng μ) {x : Option Operand} (hx : ∀ y, x = some y → okOpd ng y = true) {d y r : Nat} (h : bound e d y (x.map cOpd) = some r) (code : BoundsCode) (w : World) :
    (x = none → r = d) ∧ ∀ z, x = some z → (Instr.sliceBound (evc μ e z) y code).run P w = .ok r w ∧ r ≤ y := by
  cases x with
  | none => simp [bound] at h; simp [h]
  | some z =>
    refine ⟨by simp, ?_⟩
    intro z' hz'
    simp at hz'; subst hz'
    simp only [Option.map_some, bound] at h
    rw [opd_conc hg e (hx z rfl)]
    split at h
    · rename_i k i hk
      split at h
      · rename_i hi
        simp at h; subst h
        rw [hk]
        refine ⟨by simp [Instr.sliceBound, asIntOf, hi], by omega⟩
      · simp at h
    · simp at h
/-- the bounds as the machine reckons them; c: the capacity there -/
theorem bounds_sound (hg : Glob ng μ) {lo hi mx : Option Operand} (hlo : ∀ y, lo = some y → okOpd ng y = true) (hhi : ∀ y, hi = some y → okOpd ng y = true) (hmx : ∀ y, mx = some y → okOpd ng y = true)
    {isSlice : Bool} {len cap c m h l : Nat} (h1 : bound e cap cap (mx.map cOpd) = some m) (h2 : bound e len m (hi.map cOpd) = some h) (h3 : bound e 0 h (lo.map cOpd) = some l)
    (hc : cap ≤ c) (hex : mx ≠ none → hi ≠ none) (hlen : len ≤ cap) (w : World) :
    (Instr.sliceBounds isSlice len c (lo.map (evc μ e)) (hi.map (evc μ e)) (mx.map (evc μ e))).run P w = .ok (l, h, if mx = none then c else m) w ∧ l ≤ h ∧ h ≤ m ∧ m ≤ cap := by
  have hm : m ≤ cap := by
    cases mx with
    | none => have := (bound_sound (P := P) hg hmx h1 .index w).1 rfl; omega
    | some z => exact ((bound_sound (P := P) hg hmx h1 .index w).2 z rfl).2
  have hh : h ≤ m := by
    cases hi with
    | none =>
      have h4 := (bound_sound (P := P) hg hhi h2 .index w).1 rfl
      cases mx with
      | none => have := (bound_sound (P := P) hg hmx h1 .index w).1 rfl; omega
      | some z => exact absurd rfl (hex (by simp))
    | some z => exact ((bound_sound (P := P) hg hhi h2 .index w).2 z rfl).2
  have hl : l ≤ h := by
    cases lo with
    | none => have := (bound_sound (P := P) hg hlo h3 .index w).1 rfl; omega
    | some z => exact ((bound_sound (P := P) hg hlo h3 .index w).2 z rfl).2
  refine ⟨?_, hl, hh, hm⟩
  unfold Instr.sliceBounds
  cases mx with
  | none =>
    cases hi with
    | none =>
      have e2 := (bound_sound (P := P) hg hhi h2 .index w).1 rfl
      cases lo with
      | none => have e3 := (bound_sound (P := P) hg hlo h3 .index w).1 rfl; simp [e2, e3]
      | some z =>
        have e3 := (bound_sound (P := P) hg hlo h3 .sliceB w).2 z rfl
        subst e2
        simp [e3.1]
    | some y =>
      have e1 : m = cap := (bound_sound (P := P) hg hmx h1 .index w).1 rfl
      have key : ∀ code, (Instr.sliceBound (evc μ e y) c code).run P w = .ok h w := by
        intro code
        have hb := h2
        simp only [Option.map_some, bound] at hb
        rw [opd_conc hg e (hhi y rfl)]
        split at hb
        · rename_i k i hk
          split at hb
          · rename_i hi'
            simp at hb; subst hb
            rw [hk]
            have : 0 ≤ i ∧ i ≤ (c : Int) := by omega
            simp [Instr.sliceBound, asIntOf, this]
          · simp at hb
        · simp at hb
      cases lo with
      | none => have e3 := (bound_sound (P := P) hg hlo h3 .index w).1 rfl; simp [key, e3]
      | some z =>
        have e3 := (bound_sound (P := P) hg hlo h3 .sliceB w).2 z rfl
        simp [key, e3.1]
  | some q =>
    have key : ∀ code, (Instr.sliceBound (evc μ e q) c code).run P w = .ok m w := by
      intro code
      have hb := h1
      simp only [Option.map_some, bound] at hb
      rw [opd_conc hg e (hmx q rfl)]
      split at hb
      · rename_i k i hk
        split at hb
        · rename_i hi'
          simp at hb; subst hb
          rw [hk]
          have : 0 ≤ i ∧ i ≤ (c : Int) := by omega
          simp [Instr.sliceBound, asIntOf, this]
        · simp at hb
      · simp at hb
    cases hi with
    | none => exact absurd rfl (hex (by simp))
    | some y =>
      have e2 := (bound_sound (P := P) hg hhi h2 .slice3B w).2 y rfl
      cases lo with
      | none => have e3 := (bound_sound (P := P) hg hlo h3 .index w).1 rfl; simp [key, e2.1, e3]
      | some z =>
        have e3 := (bound_sound (P := P) hg hlo h3 .slice3C w).2 z rfl
        simp [key, e2.1, e3.1]

theorem sP_slS (hg : Glob ng μ) (hn : ng ≤ n) (he : ltL n e = true) {o : Oper} {t : TypeId} {x : Operand} {lo hi : Option Operand} (hop : o.op = .slice t x lo hi none)
    (h1 : P.underlying t = some .string) (hx : okOpd ng x = true) (hlo : ∀ y, lo = some y → okOpd ng y = true) (hhi : ∀ y, hi = some y → okOpd ng y = true)
    {v : Value} (hv : evP e (.slS (cOpd x) (lo.map cOpd) (hi.map cOpd)) = some v) : PSound P μ n e o v := by
  intro w
  obtain ⟨_, hc, hl⟩ := opV (e := e) hg hn he hx
  simp only [evP] at hv
  generalize (cOpd x).ev e = X at hv hc hl
  split at hv
  · rename_i s
    simp only [Option.bind_eq_some_iff, Option.map_eq_some_iff] at hv
    obtain ⟨h, hh, l, hl', rfl⟩ := hv
    have hb := (bounds_sound (P := P) (mx := none) (isSlice := false) (cap := s.size) (c := s.size) hg hlo hhi (by simp) (by simp [bound]) hh hl' (Nat.le_refl _) (by simp) (Nat.le_refl _) w).1
    simp only [if_true, Option.map_none] at hb
    simp [execOp, hop, hc, Instr.sliceAt, Instr.slice, run_und h1, hb]
  · simp at hv
theorem sP_max (hg : Glob ng μ) (hn : ng ≤ n) (he : ltL n e = true) {o : Oper} {ats : Array TypeId} {x y : Operand} (hop : o.op = .call { callee := .builtin .max, args := #[x, y], argTypes := ats })
    (hx : okOpd ng x = true) (hy : okOpd ng y = true) {v : Value} (hv : evP e (.max (cOpd x) (cOpd y)) = some v) : PSound P μ n e o v := by
  intro w
  obtain ⟨_, hcx, hlx⟩ := opV (e := e) hg hn he hx
  obtain ⟨_, hcy, hly⟩ := opV (e := e) hg hn he hy
  simp only [evP] at hv
  generalize (cOpd x).ev e = X at hv hcx hlx
  generalize (cOpd y).ev e = Y at hv hcy hly
  split at hv
  · simp at hv; subst hv
    simp [execOp, hop, resolve, invoke, builtin, hcx, hcy, Builtin.max_, Builtin.max2]
  · simp at hv
theorem sP_min (hg : Glob ng μ) (hn : ng ≤ n) (he : ltL n e = true) {o : Oper} {ats : Array TypeId} {x y : Operand} (hop : o.op = .call { callee := .builtin .min, args := #[x, y], argTypes := ats })
    (hx : okOpd ng x = true) (hy : okOpd ng y = true) {v : Value} (hv : evP e (.min (cOpd x) (cOpd y)) = some v) : PSound P μ n e o v := by
  intro w
  obtain ⟨_, hcx, hlx⟩ := opV (e := e) hg hn he hx
  obtain ⟨_, hcy, hly⟩ := opV (e := e) hg hn he hy
  simp only [evP] at hv
  generalize (cOpd x).ev e = X at hv hcx hlx
  generalize (cOpd y).ev e = Y at hv hcy hly
  split at hv
  · simp at hv; subst hv
    simp [execOp, hop, resolve, invoke, builtin, hcx, hcy, Builtin.min_, Builtin.min2]
  · simp at hv
theorem sP_lenS (hg : Glob ng μ) (hn : ng ≤ n) (he : ltL n e = true) {o : Oper} {t : TypeId} {x : Operand} (hop : o.op = .call { callee := .builtin .len, args := #[x], argTypes := #[t] })
    (h1 : P.underlying t = some .string) (hx : okOpd ng x = true) {v : Value} (hv : evP e (.lenS (cOpd x)) = some v) : PSound P μ n e o v := by
  intro w
  obtain ⟨_, hcx, hlx⟩ := opV (e := e) hg hn he hx
  simp only [evP] at hv
  generalize (cOpd x).ev e = X at hv hcx hlx
  split at hv
  · simp at hv; subst hv
    simp [execOp, hop, resolve, invoke, builtin, hcx, Builtin.len_, run_und h1, goInt]
  · simp at hv
theorem sP_lenL (hg : Glob ng μ) (hn : ng ≤ n) (he : ltL n e = true) {o : Oper} {t el : TypeId} {x : Operand} (hop : o.op = .call { callee := .builtin .len, args := #[x], argTypes := #[t] })
    (h1 : P.underlying t = some (.slice el)) (hx : okOpd ng x = true) {v : Value} (hv : evP e (.lenL (cOpd x)) = some v) : PSound P μ n e o v := by
  intro w
  obtain ⟨_, hcx, hlx⟩ := opV (e := e) hg hn he hx
  simp only [evP] at hv
  generalize (cOpd x).ev e = X at hv hcx hlx
  split at hv
  · rename_i a m c
    simp at hv; subst hv
    cases a <;> simp [execOp, hop, resolve, invoke, builtin, hcx, Builtin.len_, run_und h1, goInt]
  · simp at hv
theorem sP_lenC {o : Oper} {t : TypeId} {x : Operand} {k : Nat} (hop : o.op = .call { callee := .builtin .len, args := #[x], argTypes := #[t] })
    (h1 : (∃ el, P.underlying t = some (.array k el)) ∨ ∃ a el, P.underlying t = some (.pointer a) ∧ P.underlying a = some (.array k el)) {v : Value} (hv : evP e (.lenC k) = some v) : PSound P μ n e o v := by
  intro w
  simp [evP] at hv; subst hv
  rcases h1 with ⟨el, h1⟩ | ⟨a, el, h1, h2⟩
  · simp [execOp, hop, resolve, invoke, builtin, Builtin.len_, run_und h1, goInt]
  · simp [execOp, hop, resolve, invoke, builtin, Builtin.len_, run_und h1, run_und h2, goInt]
theorem zeroOf_some {t : TypeId} {z : Value} (h : zeroOf P t = some z) : lt 0 z = true ∧ ∀ w, (zeroValue t).run P w = .ok z w := by
  unfold zeroOf at h
  split at h
  · rename_i i hi
    split at h
    · rename_i v hv
      split at h
      · rename_i hl
        simp at h; subst h
        exact ⟨hl, fun w => by simp [zeroValue, run_info hi, hv]⟩
      · simp at h
    · simp at h
  · simp at h
theorem sP_tassert (hg : Glob ng μ) (hn : ng ≤ n) (he : ltL n e = true) {o : Oper} {xt t : TypeId} {d : TypeDesc} {ok : Bool} {z : Option Value} {x : Operand} (hop : o.op = .typeAssert x xt t ok)
    (h1 : P.underlying t = some d) (hd : ∀ ms, d ≠ .interface ms) (hz : if ok then ∃ y, z = some y ∧ zeroOf P t = some y else z = none) (hx : okOpd ng x = true)
    {v : Value} (hv : evP e (.tassert t z (cOpd x)) = some v) : PSound P μ n e o v := by
  intro w
  obtain ⟨_, hcx, hlx⟩ := opV (e := e) hg hn he hx
  simp only [evP] at hv
  generalize (cOpd x).ev e = X at hv hcx hlx
  have hu := run_und h1 w
  split at hv
  · rename_i u v' _
    cases ok with
    | true => simp at hz
    | false =>
      split at hv
      · rename_i hut
        simp at hv; subst hv
        refine ⟨?_, by simpa using hlx⟩
        simp only [execOp, hop, hcx, Instr.typeAssert, Sem.run_bind, hu, Result.andThen_ok, conc_iface]
        cases d <;> first | (exact absurd rfl (hd _)) | simp [hut]
      · simp at hv
  · rename_i u v' z' _
    cases ok with
    | false => simp at hz
    | true =>
      simp only [if_true] at hz
      obtain ⟨y, hy', hz⟩ := hz
      simp only [Option.some.injEq] at hy'
      subst hy'
      obtain ⟨hz0, hzr⟩ := zeroOf_some hz
      split at hv
      · rename_i hut
        simp at hv; subst hv
        refine ⟨?_, by simpa [ltL] using hlx⟩
        simp only [execOp, hop, hcx, Instr.typeAssert, Sem.run_bind, hu, Result.andThen_ok, conc_iface]
        cases d <;> first | (exact absurd rfl (hd _)) | simp [hut, concL]
      · rename_i hut
        simp at hv; subst hv
        refine ⟨?_, by simp [ltL, lt_mono (Nat.zero_le n) _ hz0]⟩
        simp only [execOp, hop, hcx, Instr.typeAssert, Sem.run_bind, hu, Result.andThen_ok, conc_iface]
        cases d <;> first | (exact absurd rfl (hd _)) | simp [hut, concL, hzr, conc_zero μ _ hz0]
  · rename_i z' _
    cases ok with
    | false => simp at hz
    | true =>
      simp only [if_true] at hz
      obtain ⟨y, hy', hz⟩ := hz
      simp only [Option.some.injEq] at hy'
      subst hy'
      obtain ⟨hz0, hzr⟩ := zeroOf_some hz
      simp at hv; subst hv
      refine ⟨?_, by simp [ltL, lt_mono (Nat.zero_le n) _ hz0]⟩
      simp only [execOp, hop, hcx, Instr.typeAssert, Sem.run_bind, hu, Result.andThen_ok, conc_nilIface]
      cases d <;> first | (exact absurd rfl (hd _)) | simp [concL, hzr, conc_zero μ _ hz0]
  · simp at hv

/-! ### '==' -/
/-- at a type whose values it looks into -/
def eqFit (c : Bool) : TypeDesc → EqT → Prop
  | .bool, .bool => True
  | .interface _, .iface => True
  | .interface _, .ifaceN => c = true
  | .slice _, .nilS | .map _ _, .nilM | .func _ _ _, .nilF => True
  | _, _ => False
/-- the cases that are looked into -/
inductive EqCase (c : Bool) : TypeDesc → EqT → Value → Value → Bool → Prop
  | bool (a b : Bool) : EqCase c .bool .bool (.bool a) (.bool b) (a == b)
  | if1 (ms t v) : EqCase c (.interface ms) .iface .nilIface (.iface t v) false
  | if2 (ms t v) : EqCase c (.interface ms) .iface (.iface t v) .nilIface false
  | in0 (ms) (h : c = true) : EqCase c (.interface ms) .ifaceN .nilIface .nilIface true
  | in1 (ms t v) : EqCase c (.interface ms) .ifaceN .nilIface (.iface t v) false
  | in2 (ms t v) : EqCase c (.interface ms) .ifaceN (.iface t v) .nilIface false
  | s0 (el a b c' d) : EqCase c (.slice el) .nilS (.slice none a b) (.slice none c' d) true
  | s1 (el a b x c' d) : EqCase c (.slice el) .nilS (.slice none a b) (.slice (some x) c' d) false
  | s2 (el a b x c' d) : EqCase c (.slice el) .nilS (.slice (some x) a b) (.slice none c' d) false
  | m0 (k el) : EqCase c (.map k el) .nilM (.map none) (.map none) true
  | m1 (k el x) : EqCase c (.map k el) .nilM (.map none) (.map (some x)) false
  | m2 (k el x) : EqCase c (.map k el) .nilM (.map (some x)) (.map none) false
  | f0 (p r vr) : EqCase c (.func p r vr) .nilF .nilFunc .nilFunc true
  | f1 (p r vr f a b) : EqCase c (.func p r vr) .nilF .nilFunc (.func f ⟨a⟩ ⟨b⟩) false
  | f2 (p r vr f a b) : EqCase c (.func p r vr) .nilF (.func f ⟨a⟩ ⟨b⟩) .nilFunc false
theorem eqCase {c : Bool} {d : TypeDesc} {E : EqT} {X Y : Value} {b : Bool} (hE : eqFit c d E) (hb : eqv E X Y = some b) : EqCase c d E X Y b := by
  unfold eqv at hb
  split at hb <;> (try simp only [Option.some.injEq, reduceCtorEq] at hb) <;> (try subst hb) <;> cases d <;> simp only [eqFit] at hE
  all_goals first
    | (constructor; done)
    | (exact .in0 _ hE)
    | (rename_i f x y _ _ _; cases x; cases y; constructor)
theorem eqv_run {c : Bool} {t : TypeId} {d : TypeDesc} {E : EqT} {X Y : Value} {b : Bool} (h1 : P.underlying t = some d) (hE : EqCase c d E X Y b) (k : Nat) (w : World) :
    (Op.equalIn (k + 1) t (conc μ X) (conc μ Y)).run P w = .ok b w := by
  cases hE <;> simp [Op.equalIn, run_und h1]
theorem eqGuard_run {op : BinOp} {t : TypeId} {d : TypeDesc} {E : EqT} {X Y : Value} {b : Bool} {x y : Operand} (hE : EqCase (isConst x || isConst y) d E X Y b) (w : World) :
    (eqGuard op t x y (conc μ X) (conc μ Y)).run P w = .ok () w := by
  cases hE
  case in0 h => simp only [Bool.or_eq_true] at h; cases op <;> cases x <;> cases y <;> simp [eqGuard, isConst] at h ⊢
  all_goals (cases op <;> simp [eqGuard])
theorem binOp_eql {c : Bool} {t : TypeId} {d : TypeDesc} {E : EqT} {X Y : Value} {b : Bool} (hE : EqCase c d E X Y b) :
    binOp .eql t (conc μ X) (conc μ Y) = (do pure (.bool (← Op.equal t (conc μ X) (conc μ Y)))) ∧ binOp .neq t (conc μ X) (conc μ Y) = (do pure (.bool (!(← Op.equal t (conc μ X) (conc μ Y))))) := by
  cases hE <;> simp only [conc_bool, conc_nilIface, conc_iface, conc_snone, conc_ssome, conc_mnone, conc_msome, conc_nilFunc, conc_func] <;> exact ⟨rfl, rfl⟩
theorem sP_eqv (hg : Glob ng μ) (hn : ng ≤ n) (he : ltL n e = true) {o : Oper} {op : BinOp} {t u : TypeId} {d : TypeDesc} {E : EqT} {x y : Operand} (hop : o.op = .binOp op t x y u) (hq : op = .eql ∨ op = .neq)
    (h1 : P.underlying t = some d) (hE : eqFit (isConst x || isConst y) d E) (hx : okOpd ng x = true) (hy : okOpd ng y = true)
    {v : Value} (hv : evP e (.eqv (isNeq op) E (cOpd x) (cOpd y)) = some v) : PSound P μ n e o v := by
  intro w
  obtain ⟨_, hcx, hlx⟩ := opV (e := e) hg hn he hx
  obtain ⟨_, hcy, hly⟩ := opV (e := e) hg hn he hy
  simp only [evP, Option.map_eq_some_iff] at hv
  generalize (cOpd x).ev e = X at hv hcx hlx
  generalize (cOpd y).ev e = Y at hv hcy hly
  obtain ⟨b, hb, rfl⟩ := hv
  refine ⟨?_, by simp⟩
  have hE := eqCase hE hb
  have k1 : (Op.equal t (conc μ X) (conc μ Y)).run P w = .ok b w := eqv_run (k := 9999) h1 hE w
  have k2 := eqGuard_run (P := P) (μ := μ) (op := op) (t := t) hE w
  have k3 := binOp_eql (μ := μ) (t := t) hE
  rcases hq with rfl | rfl
  · simp only [execOp, hop, hcx, hcy, Sem.run_bind, k2, Result.andThen_ok, k3.1, k1, Sem.run_pure, conc_bool, isNeq]; simp
  · simp only [execOp, hop, hcx, hcy, Sem.run_bind, k2, Result.andThen_ok, k3.2, k1, Sem.run_pure, conc_bool, isNeq]; simp
end
end Go.Proofs.YtjpepfgbilbcdaaGreatDoor.Ai
