/- A PART OF THE PROOF THAT AN INTERPRETER OF THE PROGRAM'S FUNCTIONS IS SOUND: a step of it. -/
import Derived.Test.YtjpepfgbilbcdaaGreatDoorAiK
namespace Go.Proofs.YtjpepfgbilbcdaaGreatDoor.Ai
open Go
set_option linter.unusedSimpArgs false

section
variable {P : Program} {ng : Nat} {ts : List TypeId} {N0 : Nat} {μ : Nat → Loc} {σ : AW} {w : World} {e : List Value}

theorem sR_cap (h : Rep P ng ts N0 μ σ w) (he : ltL σ.next e = true) {o : Oper} {t el : TypeId} {x : Operand} (hop : o.op = .call { callee := .builtin .cap, args := #[x], argTypes := #[t] })
    (h1 : P.underlying t = some (.slice el)) (hx : okOpd ng x = true) {v : Value} (hv : evR e σ (.cap (cOpd x)) = some v) : RSound P μ σ.next e o v w := by
  obtain ⟨_, hc, hl⟩ := opV (e := e) h.glob h.ngn he hx
  simp only [evR] at hv
  generalize (cOpd x).ev e = X at hv hc hl
  split at hv
  · simp at hv; subst hv
    simp [RSound, execOp, hop, resolve, invoke, builtin, hc, Builtin.cap_, run_und h1, goInt]
  · rename_i a m c
    split at hv
    · rename_i b hb
      split at hv
      · rename_i hex
        simp at hv; subst hv
        simp [RSound, execOp, hop, resolve, invoke, builtin, hc, Builtin.cap_, run_und h1, goInt, (h.cells hb).ex hex]
      · simp at hv
    · simp at hv
  · simp at hv
/-- how two pointers compare -/
def ptrEq : Value → Value → Option Bool
  | .pointer none, .pointer b => some b.isNone
  | .pointer (some _), .pointer none => some false
  | .pointer (some a), .pointer (some b) => if a.block = b.block then some (a.off == b.off) else none
  | _, _ => none
theorem equalIn_ptr {t el : TypeId} {k n : Nat} (h1 : P.underlying t = some (.pointer el)) (h2 : szOf P el = some (k + 1)) {X Y : Value} {r : Bool} (hX : lt n X = true) (hY : lt n Y = true)
    (hr : ptrEq X Y = some r) (d : Nat) (w : World) : (Op.equalIn (d + 1) t (conc μ X) (conc μ Y)).run P w = .ok r w := by
  have hu := run_und h1 w
  unfold ptrEq at hr
  split at hr
  · rename_i b
    simp only [Option.some.injEq] at hr; subst hr
    cases b <;> simp [Op.equalIn, hu]
  · simp only [Option.some.injEq] at hr; subst hr
    simp [Op.equalIn, hu]
  · rename_i a b
    split at hr
    · rename_i hab
      simp only [Option.some.injEq] at hr; subst hr
      rw [lt_psome] at hX hY
      simp [Op.equalIn, hu, run_sz h2, sameAddr, cAddr, hab, hX.2, hY.2]
      rw [Bool.eq_iff_iff]; simp
    · simp at hr
  · simp at hr
theorem sR_peq (h : Rep P ng ts N0 μ σ w) (he : ltL σ.next e = true) {o : Oper} {op : BinOp} {t u el : TypeId} {k : Nat} {x y : Operand} (hop : o.op = .binOp op t x y u) (hq : op = .eql ∨ op = .neq)
    (h1 : P.underlying t = some (.pointer el)) (h2 : szOf P el = some (k + 1)) (hx : okOpd ng x = true) (hy : okOpd ng y = true)
    {v : Value} (hv : evR e σ (.peq (isNeq op) (cOpd x) (cOpd y)) = some v) : RSound P μ σ.next e o v w := by
  obtain ⟨_, hcx, hlx⟩ := opV (e := e) h.glob h.ngn he hx
  obtain ⟨_, hcy, hly⟩ := opV (e := e) h.glob h.ngn he hy
  simp only [evR] at hv
  generalize (cOpd x).ev e = X at hv hcx hlx
  generalize (cOpd y).ev e = Y at hv hcy hly
  obtain ⟨r, hr, hvr, a, b, hXa, hYb⟩ : ∃ r, ptrEq X Y = some r ∧ v = .bool (r != isNeq op) ∧ ∃ a b, X = .pointer a ∧ Y = .pointer b := by
    split at hv
    · simp only [Option.some.injEq] at hv; subst hv; exact ⟨_, rfl, rfl, _, _, rfl, rfl⟩
    · simp only [Option.some.injEq] at hv; subst hv; exact ⟨_, rfl, rfl, _, _, rfl, rfl⟩
    · split at hv
      · rename_i hab
        simp only [Option.some.injEq] at hv; subst hv; exact ⟨_, by simp only [ptrEq, hab, if_true], rfl, _, _, rfl, rfl⟩
      · simp at hv
    · simp at hv
  subst hvr
  refine ⟨?_, by simp⟩
  have k1 : (Op.equal t (conc μ X) (conc μ Y)).run P w = .ok r w := equalIn_ptr h1 h2 hlx hly hr 9999 w
  subst hXa hYb
  have hca : ∃ a', conc μ (.pointer a) = .pointer a' := by cases a <;> simp
  have hcb : ∃ b', conc μ (.pointer b) = .pointer b' := by cases b <;> simp
  obtain ⟨a', ha'⟩ := hca
  obtain ⟨b', hb'⟩ := hcb
  rw [ha'] at k1 hcx
  rw [hb'] at k1 hcy
  have k2 : (eqGuard op t x y (.pointer a') (.pointer b')).run P w = .ok () w := by cases op <;> simp [eqGuard]
  rcases hq with rfl | rfl
  · have k3 : binOp .eql t (.pointer a') (.pointer b') = (do pure (.bool (← Op.equal t (.pointer a') (.pointer b')))) := rfl
    simp only [execOp, hop, hcx, hcy, Sem.run_bind, k2, Result.andThen_ok, k3, k1, Sem.run_pure, conc_bool, isNeq]; simp
  · have k3 : binOp .neq t (.pointer a') (.pointer b') = (do pure (.bool (!(← Op.equal t (.pointer a') (.pointer b'))))) := rfl
    simp only [execOp, hop, hcx, hcy, Sem.run_bind, k2, Result.andThen_ok, k3, k1, Sem.run_pure, conc_bool, isNeq]; simp

/-! ### bytes -/
theorem bytesOf_some : ∀ {l : List Value} {b : List UInt8}, bytesOf l = some b → b.length = l.length ∧ ∀ (k : Nat) (v : Value), l[k]? = some v → ∃ m : Int, v = .int .u8 m ∧ b[k]? = some (UInt8.ofNat m.toNat) ∧ 0 ≤ m ∧ m < 256 := by
  intro l
  induction l with
  | nil => intro b h; simp [bytesOf] at h; subst h; simp
  | cons x l ih =>
    intro b h
    simp only [bytesOf] at h
    split at h
    · rename_i c r hc hr
      simp at h; subst h
      obtain ⟨h1, h2⟩ := ih hr
      refine ⟨by simp [h1], fun k v hk => ?_⟩
      cases k with
      | zero =>
        simp at hk; subst hk
        unfold byteOf at hc
        split at hc
        · rename_i m
          split at hc
          · rename_i hr'; simp at hc; subst hc; exact ⟨m, rfl, by simp, hr'⟩
          · simp at hc
        · simp at hc
      | succ k => simpa using h2 k v (by simpa using hk)
    · simp at h
theorem run_bytesLoop (w : World) (f : Value → ByteArray → Sem (ForInStep ByteArray)) (hf : ∀ n r, f (.int .u8 n) r = pure (ForInStep.yield (r.push (UInt8.ofNat n.toNat)))) :
    ∀ (l : List Value) (b : List UInt8) (s : ByteArray), bytesOf l = some b → (forIn l s f).run P w = .ok ⟨(s.data.toList ++ b).toArray⟩ w := by
  intro l
  induction l with
  | nil => intro b s h; simp [bytesOf] at h; subst h; simp
  | cons x l ih =>
    intro b s h
    simp only [bytesOf] at h
    split at h
    · rename_i c r hc hr
      simp at h; subst h
      unfold byteOf at hc
      split at hc
      · rename_i m
        split at hc
        · simp at hc; subst hc
          have := ih r (s.push (UInt8.ofNat m.toNat)) hr
          simp only [List.forIn_cons, hf, Sem.run_bind, Sem.run_pure, Result.andThen_ok]
          rw [this]
          congr 3
          simp [ByteArray.push]
        · simp at hc
      · simp at hc
    · simp at h
theorem concL_bytes {l : List Value} {b : List UInt8} (h : bytesOf l = some b) : concL μ l = l := by
  obtain ⟨_, h2⟩ := bytesOf_some h
  apply List.ext_getElem?
  intro k
  rw [concL_getElem?]
  cases hk : l[k]? with
  | none => rfl
  | some v =>
    obtain ⟨m, rfl, _⟩ := h2 k v hk
    simp
theorem sR_b2s (h : Rep P ng ts N0 μ σ w) (he : ltL σ.next e = true) {o : Oper} {src dst el : TypeId} {x : Operand} (hop : o.op = .convert src dst x) (h1 : P.underlying src = some (.slice el)) (h2 : P.underlying dst = some .string)
    (h3 : P.underlying el = some (.int .u8)) (hx : okOpd ng x = true) {v : Value} (hv : evR e σ (.b2s (cOpd x)) = some v) : RSound P μ σ.next e o v w := by
  obtain ⟨_, hc, hl⟩ := opV (e := e) h.glob h.ngn he hx
  simp only [evR] at hv
  generalize (cOpd x).ev e = X at hv hc hl
  split at hv
  · simp at hv; subst hv
    simp [RSound, execOp, hop, hc, Go.convert, run_und h1, run_und h2, run_und h3, Conv.bytesToString]
  · rename_i a m c
    simp only [Option.bind_eq_some_iff, Option.map_eq_some_iff] at hv
    obtain ⟨l, hl', b, hb, rfl⟩ := hv
    rw [lt_ssome] at hl
    obtain ⟨hr, _, _⟩ := rdN_sound h hl.2 hl'
    refine ⟨?_, by simp⟩
    rw [concL_bytes hb] at hr
    simp only [execOp, hop, hc, Go.convert, run_und h1, run_und h2, run_und h3, Conv.bytesToString, conc_ssome, Sem.run_bind, Result.andThen_ok, hr]
    have hl2 : ∀ (f : Value → ByteArray → Sem (ForInStep ByteArray)), forIn (⟨l⟩ : Array Value) ByteArray.empty f = forIn l ByteArray.empty f := fun f => by simp
    rw [hl2]
    rw [run_bytesLoop (P := P) w _ (fun _ _ => rfl) l b .empty hb]
    simp only [Result.andThen_ok, Sem.run_pure, conc_string]
    rfl
  · simp at hv
theorem seenAt_run (h : Rep P ng ts N0 μ σ w) {i : Nat} {b : CB} (hb : σ.cells? i = some b) (a : Addr) (ha : a.block = (μ i).blk) : (Conv.seenAt a).run P w = .ok a w := by
  obtain ⟨_, _, hs⟩ := (h.cells hb).shape
  simp [Conv.seenAt, viewAt, ha, hs]
theorem sR_p2u (h : Rep P ng ts N0 μ σ w) (he : ltL σ.next e = true) {o : Oper} {src dst el : TypeId} {k : Nat} {x : Operand} (hop : o.op = .convert src dst x) (h1 : P.underlying src = some (.pointer el)) (h2 : P.underlying dst = some .unsafePointer)
    (h3 : szOf P el = some (k + 1)) (hx : okOpd ng x = true) {v : Value} (hv : evR e σ (.p2u (cOpd x)) = some v) : RSound P μ σ.next e o v w := by
  obtain ⟨_, hc, hl⟩ := opV (e := e) h.glob h.ngn he hx
  simp only [evR] at hv
  generalize (cOpd x).ev e = X at hv hc hl
  split at hv
  · simp at hv; subst hv
    simp [RSound, execOp, hop, hc, Go.convert, run_und h1, run_und h2, Conv.unsafePointer]
  · rename_i a
    split at hv
    · rename_i b hb
      split at hv
      · rename_i hoff
        simp at hv; subst hv
        rw [lt_psome] at hl
        refine ⟨?_, by simpa using hl⟩
        obtain ⟨ty', _, hs⟩ := (h.cells hb).shape
        have hsn := seenAt_run h hb (cAddr μ a) rfl
        have hs' : w.shape? (cAddr μ a).block = some (ty', (μ a.block).sh + b.cs.length + (μ a.block).ex * b.esz) := hs
        have hno : ¬ ((μ a.block).sh + b.cs.length + (μ a.block).ex * b.esz ≤ (cAddr μ a).off) := by simp [cAddr]; omega
        simp [execOp, hop, hc, Go.convert, run_und h1, run_und h2, Conv.unsafePointer, hsn, cellsIn, hs', run_sz h3, hno]
      · simp at hv
    · simp at hv
  · simp at hv
theorem sR_u2p (h : Rep P ng ts N0 μ σ w) (he : ltL σ.next e = true) {o : Oper} {src dst el : TypeId} {k : Nat} {x : Operand} (hop : o.op = .convert src dst x) (h1 : P.underlying src = some .unsafePointer) (h2 : P.underlying dst = some (.pointer el))
    (h3 : szOf P el = some (k + 1)) (h4 : liesAt P P.depth el 1 0 el 1 = true) (hx : okOpd ng x = true) {v : Value} (hv : evR e σ (.u2p el (k + 1) (cOpd x)) = some v) : RSound P μ σ.next e o v w := by
  obtain ⟨_, hc, hl⟩ := opV (e := e) h.glob h.ngn he hx
  simp only [evR] at hv
  generalize (cOpd x).ev e = X at hv hc hl
  split at hv
  · simp at hv; subst hv
    simp [RSound, execOp, hop, hc, Go.convert, run_und h1, run_und h2, Conv.unsafePointer]
  · rename_i a
    split at hv
    · rename_i b hb
      split at hv
      · rename_i hcond
        obtain ⟨hty, hex, hlen, hoff, hro⟩ := hcond
        simp at hv; subst hv
        rw [lt_psome] at hl
        refine ⟨?_, by simpa using hl⟩
        have hex0 := (h.cells hb).ex hex
        have hsh0 := (h.cells hb).sh0 hex (by simpa using hro)
        have hs : w.shape? (cAddr μ a).block = some (el, k + 1) := by
          obtain ⟨ty', hty', this⟩ := (h.cells hb).shape
          rw [hty' (by simpa using hro), hty, hlen, hex0, hsh0] at this
          simpa [cAddr] using this
        have hsn := seenAt_run h hb (cAddr μ a) rfl
        have hco : P.cellsOf el = k + 1 := by
          simp only [szOf, Option.map_eq_some_iff] at h3
          obtain ⟨i, hi, hi2⟩ := h3
          simp [Program.cellsOf, hi, hi2]
        have hva : (variablesAt (cAddr μ a) el 1).run P w = .ok true w := by
          simp [variablesAt, hs, hco]
          simp [cAddr, hsh0, hoff, h4]
        simp [execOp, hop, hc, Go.convert, run_und h1, run_und h2, Conv.unsafePointer, hsn, run_sz h3, hva]
      · simp at hv
    · simp at hv
  · simp at hv
theorem lenM_run (h : Rep P ng ts N0 μ σ w) {t kt el : TypeId} (ht : P.underlying t = some (.map kt el)) {X v : Value}
    (hv : (match X with | .map none => some (Value.int .i64 0) | .map (some r) => (match σ.heap.get r with | some (.map es _) => some (.int .i64 es.length) | _ => none) | _ => none) = some v) (u : TypeId) :
    (Builtin.len_ #[t] u #[conc μ X]).run P w = .ok v w ∧ ∃ j, v = .int .i64 j := by
  split at hv
  · simp at hv; subst hv
    refine ⟨?_, _, rfl⟩
    simp [Builtin.len_, run_und ht, goInt]
  · rename_i r
    split at hv
    · rename_i es cl hr
      simp at hv; subst hv
      have hb := (h.blk r _ hr).2.2
      refine ⟨?_, _, rfl⟩
      simp [Builtin.len_, run_und ht, goInt, getObj, Sem.run, hb.o]
    · simp at hv
  · simp at hv
theorem sR_lenM (h : Rep P ng ts N0 μ σ w) (he : ltL σ.next e = true) {o : Oper} {t kt el : TypeId} {x : Operand} (hop : o.op = .call { callee := .builtin .len, args := #[x], argTypes := #[t] })
    (ht : P.underlying t = some (.map kt el)) (hx : okOpd ng x = true) {v : Value} (hv : evR e σ (.lenM (cOpd x)) = some v) : RSound P μ σ.next e o v w := by
  obtain ⟨_, hc, hl⟩ := opV (e := e) h.glob h.ngn he hx
  simp only [evR] at hv
  generalize (cOpd x).ev e = X at hv hc hl
  have h1 := fun u => lenM_run h ht hv u
  obtain ⟨j, hj⟩ := (h1 0).2
  refine ⟨?_, by rw [hj]; simp⟩
  have h2 := fun u => (h1 u).1
  simp only [execOp, hop, resolve, Sem.run_bind, Sem.run_pure, Result.andThen_ok, invoke, builtin]
  simp [hc, h2]
  rw [hj]; simp
theorem map_ents (h : Rep P ng ts N0 μ σ w) {r : Nat} {es : List (Value × Value × Nat)} {cl : Nat} (hr : σ.heap.get r = some (.map es cl)) :
    (getObj (μ r).blk).run P w = .ok (.map (es.map (cEnt μ)).toArray cl) w ∧ ∀ x ∈ es, lt σ.next x.1 = true ∧ lt σ.next x.2.1 = true := by
  have hb := (h.blk r _ hr).2.2
  refine ⟨?_, hb.l⟩
  have ho := hb.o
  simp only [getObj, Sem.run, ho]
  rfl
theorem lookup_run {t kt el : TypeId} {q : EqT} {z : Value} (ht : P.underlying t = some (.map kt el)) (hq : cKey P kt = some q) (hz : (zeroValue el).run P w = .ok z w) {X K : Value} {es : List (Value × Value × Nat)}
    (hX : (X = .map none ∧ es = []) ∨ ∃ r cl, X = .map (some r) ∧ (getObj r).run P w = .ok (.map (es.map (cEnt μ)).toArray cl) w) (hK : keyOK q K = true) {r : Option (Nat × Value)} (hf : findK q K es 0 = some r) (ok : Bool) :
    (Instr.lookup t X (conc μ K) ok).run P w = .ok (match r with | some (_, v) => if ok then .tuple #[conc μ v, .bool true] else conc μ v | none => if ok then .tuple #[z, .bool false] else z) w := by
  have hchk := fun em => checkKey_run (μ := μ) hq hK em 9998 w
  have hfr := findKey_run (μ := μ) hq hK w hf
  rcases hX with ⟨rfl, rfl⟩ | ⟨m, cl, rfl, hm⟩
  · simp only [Instr.lookup, Sem.run_bind, run_und ht, Result.andThen_ok, Sem.run_pure, hchk]
    have hfr' : (Instr.findKey kt (conc μ K) (#[] : Array MapEntry).toList).run P w = .ok (r.map fun x => (x.1, conc μ x.2)) w := hfr
    rw [hfr']
    rcases r with _ | ⟨i, v⟩
    · simp only [Option.map_none, Result.andThen_ok, Sem.run_bind, hz, Sem.run_pure]
    · simp only [Option.map_some, Result.andThen_ok, Sem.run_bind, Sem.run_pure]
  · simp only [Instr.lookup, Sem.run_bind, run_und ht, Result.andThen_ok, Sem.run_pure, hm, hchk]
    have hfr' : (Instr.findKey kt (conc μ K) ((es.map (cEnt μ)).toArray).toList).run P w = .ok (r.map fun x => (x.1, conc μ x.2)) w := hfr
    rw [hfr']
    rcases r with _ | ⟨i, v⟩
    · simp only [Option.map_none, Result.andThen_ok, Sem.run_bind, hz, Sem.run_pure]
    · simp only [Option.map_some, Result.andThen_ok, Sem.run_bind, Sem.run_pure]
theorem sR_lookup (h : Rep P ng ts N0 μ σ w) (he : ltL σ.next e = true) {o : Oper} {t kt el : TypeId} {q : EqT} {z : Value} {ok : Bool} {x k : Operand} (hop : o.op = .lookup t x k ok)
    (ht : P.underlying t = some (.map kt el)) (hq : cKey P kt = some q) (hz : zeroOf P el = some z) (hx : okOpd ng x = true) (hk : okOpd ng k = true)
    {v : Value} (hv : evR e σ (.lookup q z ok (cOpd x) (cOpd k)) = some v) : RSound P μ σ.next e o v w := by
  obtain ⟨_, hc, hl⟩ := opV (e := e) h.glob h.ngn he hx
  obtain ⟨_, hck, hlk⟩ := opV (e := e) h.glob h.ngn he hk
  obtain ⟨hz0, hzr⟩ := zeroOf_some hz
  simp only [evR] at hv
  generalize (cOpd x).ev e = X at hv hc hl
  generalize (cOpd k).ev e = K at hv hck hlk
  -- the entries
  obtain ⟨es, hes, hv⟩ : ∃ es, ((X = .map none ∧ es = []) ∨ ∃ r cl, X = .map (some r) ∧ σ.heap.get r = some (.map es cl)) ∧
      (if keyOK q K then (match findK q K es 0 with | some (some (_, v)) => some (if ok then .tuple ⟨[v, .bool true]⟩ else v) | some none => some (if ok then .tuple ⟨[z, .bool false]⟩ else z) | none => none) else none) = some v := by
    split at hv
    · rename_i es hes
      refine ⟨es, ?_, hv⟩
      split at hes
      · simp at hes; exact .inl ⟨rfl, hes⟩
      · rename_i r
        split at hes
        · rename_i es' cl hr; simp at hes; subst hes; exact .inr ⟨r, cl, rfl, hr⟩
        · simp at hes
      · simp at hes
    · simp at hv
  have hents : (∀ x ∈ es, lt σ.next x.1 = true ∧ lt σ.next x.2.1 = true) ∧ ((conc μ X = .map none ∧ es = []) ∨ ∃ r cl, conc μ X = .map (some r) ∧ (getObj r).run P w = .ok (.map (es.map (cEnt μ)).toArray cl) w) := by
    rcases hes with ⟨rfl, rfl⟩ | ⟨r, cl, rfl, hr⟩
    · exact ⟨by simp, .inl ⟨by simp, rfl⟩⟩
    · obtain ⟨h1, h2⟩ := map_ents h hr
      exact ⟨h2, .inr ⟨_, _, by simp, h1⟩⟩
  split at hv
  · rename_i hK
    split at hv
    · rename_i r hf
      have hrun := lookup_run (μ := μ) ht hq (hzr w) hents.2 hK hf ok
      obtain ⟨_, en, hen, hen2⟩ := findK_lt hf
      simp only [Option.some.injEq] at hv
      have hlv := (hents.1 en (List.mem_of_getElem? hen)).2
      rw [hen2] at hlv
      refine ⟨?_, ?_⟩
      · simp only [execOp, hop, hc, hck, Sem.run_bind, hrun, Result.andThen_ok, Sem.run_pure]
        cases ok <;> simp at hv <;> subst hv <;> simp [concL]
      · cases ok <;> simp at hv <;> subst hv <;> simp [hlv, ltL]
    · rename_i hf
      have hrun := lookup_run (μ := μ) ht hq (hzr w) hents.2 hK hf ok
      simp only [Option.some.injEq] at hv
      refine ⟨?_, ?_⟩
      · simp only [execOp, hop, hc, hck, Sem.run_bind, hrun, Result.andThen_ok, Sem.run_pure]
        cases ok <;> simp at hv <;> subst hv <;> simp [concL, conc_zero μ _ hz0]
      · cases ok <;> simp at hv <;> subst hv <;> simp [lt_mono (Nat.zero_le _) _ hz0, ltL]
    · simp at hv
  · simp at hv
/-- **The operations that read.** -/
theorem evR_sound (h : Rep P ng ts N0 μ σ w) (he : ltL σ.next e = true) {o : Oper} {q : ROp} (hc : cOp P ts o.op = some (.r q)) (ho : okOp ng o.op = true) {v : Value} (hv : evR e σ q = some v) : RSound P μ σ.next e o v w := by
  generalize hop : o.op = op at hc ho
  cases op with
  | load t x =>
    simp only [cOp] at hc
    split at hc
    · rename_i ht; simp at hc; subst hc; exact sR_ld h he hop ht (okOp_1 ho rfl) hv
    · rename_i k ht; simp at hc; subst hc; exact sR_ldn h he hop ht (okOp_1 ho rfl) hv
    · simp at hc
  | binOp op t x y u =>
    have h' := okOp_2 ho rfl
    simp only [cOp] at hc
    split at hc
    · simp at hc
    · simp at hc
    · rename_i d hd1 hd2 hd3
      have key : ∀ op, (op = .eql ∨ op = .neq) → o.op = .binOp op t x y u → cEqOp P ts op t d x y = some (.r q) → RSound P μ σ.next e o v w := by
        intro op hq hop' hc'
        unfold cEqOp at hc'
        split at hc' <;> try (simp at hc'; done)
        rename_i el
        split at hc'
        · rename_i hs
          simp only [Option.some.injEq, IOp.r.injEq] at hc'
          rw [← hc'] at hv
          cases hsz : szOf P el with
          | none => simp [hsz] at hs
          | some k =>
            cases k with
            | zero => simp [hsz] at hs
            | succ k => exact sR_peq h he hop' hq hd3 hsz h'.1 h'.2 hv
        · simp at hc'
      split at hc
      · exact key _ (.inl rfl) hop hc
      · exact key _ (.inr rfl) hop hc
      · simp at hc
    · simp at hc
  | convert src dst x =>
    simp only [cOp] at hc
    split at hc
    · simp at hc
    · simp at hc
    · (repeat' split at hc) <;> simp at hc
    · rename_i el h1 h2
      split at hc
      · rename_i h3
        split at hc
        · simp at hc; subst hc; exact sR_b2s h he hop h1 h2 h3 (okOp_1 ho rfl) hv
        · simp at hc
      · simp at hc
    · rename_i el h1 h2
      split at hc
      · rename_i hs
        simp at hc; subst hc
        cases hsz : szOf P el with
        | none => simp [hsz] at hs
        | some k =>
          cases k with
          | zero => simp [hsz] at hs
          | succ k => exact sR_p2u h he hop h1 h2 hsz (okOp_1 ho rfl) hv
      · simp at hc
    · rename_i el h1 h2
      split at hc
      · rename_i k hsz
        split at hc
        · rename_i hl; simp at hc; subst hc; exact sR_u2p h he hop h1 h2 hsz hl (okOp_1 ho rfl) hv
        · simp at hc
      · simp at hc
    · simp at hc
  | slice t x lo hi mx =>
    have h' := ok_arr ho rfl
    simp only [Op.operands] at h'
    simp only [cOp] at hc
    split at hc
    · simp at hc
    · rename_i el h1
      split at hc
      · rename_i k h2
        split at hc
        · simp at hc
        · rename_i hmm
          simp only [Bool.or_eq_true, decide_eq_true_eq, Bool.and_eq_true, Option.isSome_iff_ne_none, Option.isNone_iff_eq_none, not_or, not_and] at hmm
          simp at hc; subst hc
          exact sR_slV h he hop h1 h2 (h' x (by simp)) (fun y hy => h' y (by simp [hy])) (fun y hy => h' y (by simp [hy])) (fun y hy => h' y (by simp [hy])) hmm.2 hv
      · simp at hc
    · rename_i len el h1
      split at hc
      · rename_i k h2; simp at hc; subst hc
        exact sR_slA h he hop h1 h2 (h' x (by simp)) (fun y hy => h' y (by simp [hy])) (fun y hy => h' y (by simp [hy])) hv
      · simp at hc
    · simp at hc
  | call c =>
    obtain ⟨callee, args, ats⟩ := c
    have h' := ok_arr ho rfl
    simp only [Op.operands, Call.operands] at h'
    have h'' : ∀ x ∈ args.toList, okOpd ng x = true := fun x hx => h' x (by simp; exact .inr (by simpa using hx))
    simp only [cOp] at hc
    cases callee with
    | builtin b =>
      simp only at hc
      unfold cBuiltin at hc
      split at hc
      · rename_i x t ha ht
        have ha' : args = #[x] := by apply Array.ext'; simpa using ha
        have ht' : ats = #[t] := by apply Array.ext'; simpa using ht
        subst ha' ht'
        split at hc
        · simp at hc
        · simp at hc
        · simp at hc
        · rename_i k el h1; simp at hc; subst hc; exact sR_lenM h he hop h1 (h'' x (by simp)) hv
        · split at hc <;> simp at hc
        · simp at hc
      · rename_i x t ha ht
        have ha' : args = #[x] := by apply Array.ext'; simpa using ha
        have ht' : ats = #[t] := by apply Array.ext'; simpa using ht
        subst ha' ht'
        split at hc
        · rename_i el h1; simp at hc; subst hc; exact sR_cap h he hop h1 (h'' x (by simp)) hv
        · simp at hc
      all_goals (repeat' split at hc) <;> simp at hc
    | value f => cases f <;> simp only at hc <;> (repeat' split at hc) <;> simp at hc
    | invoke x name => simp at hc
  | build t parts =>
    simp only [cOp] at hc
    split at hc
    · simp only [Option.bind_eq_bind, Option.bind_eq_some_iff] at hc
      obtain ⟨_, _, _, _, hc⟩ := hc
      split at hc <;> simp at hc
    · simp only [Option.bind_eq_bind, Option.bind_eq_some_iff] at hc
      obtain ⟨_, _, _, _, hc⟩ := hc
      split at hc <;> simp at hc
    · simp at hc
  | buildSlice t len parts =>
    simp only [cOp] at hc
    split at hc
    · simp only [Option.bind_eq_bind, Option.bind_eq_some_iff] at hc
      obtain ⟨z, _, hc⟩ := hc
      split at hc
      · simp at hc
      · simp only [Option.bind_eq_some_iff] at hc
        obtain ⟨_, _, hc⟩ := hc
        simp at hc
    · simp at hc
  | field t x f =>
    simp only [cOp] at hc
    split at hc
    · split at hc
      · simp only [Option.map_eq_some_iff] at hc
        obtain ⟨_, _, hc⟩ := hc
        simp at hc
      · simp at hc
    · simp at hc
  | indexAddr t x i =>
    simp only [cOp] at hc
    split at hc <;> simp at hc
  | typeAssert x xt t ok =>
    simp only [cOp] at hc
    split at hc
    · simp at hc
    · split at hc <;> simp at hc
    · simp at hc
  | makeMap t r => cases r <;> simp [cOp] at hc
  | move x => simp [cOp] at hc
  | assign x => simp [cOp] at hc
  | pick c a b => simp [cOp] at hc
  | alloc t => simp only [cOp] at hc; split at hc <;> simp at hc
  | box t x => simp only [cOp] at hc; split at hc <;> simp at hc
  | store t a x => simp only [cOp] at hc; split at hc <;> simp at hc
  | nilCheck x => simp [cOp] at hc
  | unOp op t x => simp [cOp] at hc
  | makeInterface t x => simp only [cOp] at hc; split at hc <;> simp at hc
  | makeFunc f a b => simp only [cOp] at hc; split at hc <;> simp at hc
  | makeSlice t l c => simp only [cOp] at hc; (repeat' split at hc) <;> simp at hc
  | fieldAddr t x f => simp only [cOp] at hc; (repeat' split at hc) <;> simp at hc
  | index t x i => simp only [cOp] at hc; (repeat' split at hc) <;> simp at hc
  | lookup t x i ok =>
    have h' := okOp_2 ho rfl
    simp only [cOp] at hc
    split at hc
    · rename_i kt el ht
      split at hc
      · rename_i q z hq hz; simp at hc; subst hc; exact sR_lookup h he hop ht hq hz h'.1 h'.2 hv
      · simp at hc
    · simp at hc
  | mapUpdate t m k v => simp only [cOp] at hc; (repeat' split at hc) <;> simp at hc
  | insert t m k v => simp only [cOp] at hc; (repeat' split at hc) <;> simp at hc
  | mapEntry t m k => simp only [cOp] at hc; (repeat' split at hc) <;> simp at hc
  | extract x i => simp [cOp] at hc
  | _ => simp [cOp] at hc
end
end Go.Proofs.YtjpepfgbilbcdaaGreatDoor.Ai
