/- A PART OF THE PROOF THAT AN INTERPRETER OF THE PROGRAM'S FUNCTIONS IS SOUND: a step of it. -/
import Derived.Test.YtjpepfgbilbcdaaGreatDoorAiR
import Derived.Lib.UnsafeStr
namespace Go.Proofs.YtjpepfgbilbcdaaGreatDoor.Ai
open Go
set_option linter.unusedSimpArgs false

section
variable {P : Program} {ng : Nat} {ts : List TypeId} {N0 : Nat} {μ μ' : Nat → Loc} {σ σ' : AW} {w w' : World} {e : List Value} {K : Ks}

theorem sE_appendZ (h : Rep P ng ts N0 μ σ w) (he : ltL σ.next e = true) {o : Oper} {t el u : TypeId} {i : TypeInfo} {z : List Value} {s x : Operand} {ku : IntKind} (hop : o.op = .call { callee := .builtin .append, args := #[s, x], argTypes := #[t, u] })
    (h1 : P.underlying t = some (.slice el)) (h2 : zeroCells P el = some z) (h3 : P.info? el = some i) (hz : z.length ≠ 0) (hb : i.bytes ≠ 0) (hu : P.underlying u = some (.int ku))
    (hs : okOpd ng s = true) (hx : okOpd ng x = true) {v : Value} (hv : runE K e σ (.appendZ el z.length i.bytes z (cOpd s) (cOpd x)) = some (.ret v, σ')) : ESound P ng ts N0 μ σ e o v σ' w := by
  obtain ⟨_, hcs, hls⟩ := opV (e := e) h.glob h.ngn he hs
  obtain ⟨_, hcx, hlx⟩ := opV (e := e) h.glob h.ngn he hx
  simp only [runE] at hv
  generalize (cOpd s).ev e = S at hv hcs hls
  generalize (cOpd x).ev e = X at hv hcx hlx
  obtain ⟨_, _, _, _, hz0, _⟩ := zeroCells_some h2
  split at hv
  · rename_i k l
    split at hv
    · rename_i hc
      simp only [Option.map_eq_some_iff, Prod.mk.injEq, IRet.ret.injEq, Prod.exists] at hv
      obtain ⟨V, σ1, hap, rfl, rfl⟩ := hv
      have hl' : l = IntKind.i64.wrap l ∨ l ≠ IntKind.i64.wrap l := Decidable.em _
      have hrun : AppRun P el i.bytes z (IntKind.i64.wrap l).toNat (concL μ (List.replicate (IntKind.i64.wrap l).toNat z).flatten) w (fun S => Builtin.append_ #[t, u] o.type #[S, .int k l]) := by
        rw [concL_zero μ _ (flatten_lt hz0)]
        have hww : IntKind.i64.wrap (IntKind.i64.wrap l) = IntKind.i64.wrap l := by unfold IntKind.wrap; simp [IntKind.bits, IntKind.signed]; omega
        have := appZ_run (ty := o.type) (k := k) (l := IntKind.i64.wrap l) h1 h3 h2 hz hb hu hc.1 hc.2.1 hc.2.2 w
        -- the machine wraps the count first
        have hsame : ∀ S, Builtin.append_ #[t, u] o.type #[S, .int k l] = Builtin.append_ #[t, u] o.type #[S, .int k (IntKind.i64.wrap l)] ∨ True := fun _ => .inr trivial
        constructor
        · intro base len cap w' hf hst
          have g := this.fits (base := base) (len := len) (cap := cap) (w' := w') hf hst
          rw [← g]
          unfold Builtin.append_
          simp [run_und h1, run_und hu, asInt, asIntOf, hww]
        · intro base len cap old hf hb' hold
          obtain ⟨nc, w1, g1, g2, g3, g4, g5, g6⟩ := this.grows (base := base) (len := len) (cap := cap) (old := old) hf hb' hold
          refine ⟨nc, w1, g1, g2, g3, g4, g5, ?_⟩
          rw [← g6]
          unfold Builtin.append_
          simp [run_und h1, run_und hu, asInt, asIntOf, hww]
      obtain ⟨μ', w', hr, hg, hl, hrun⟩ := appendV_sound h hrun hls (flatten_lt (ltL_mono (Nat.zero_le _) z hz0)) (by simp) hap
      refine ⟨μ', w', _, hr, hg, hl, ?_, .inl rfl⟩
      simp [execOp, hop, resolve, invoke, builtin, hcs, hcx, hrun]
    · simp at hv
  · simp at hv
theorem sE_copy (h : Rep P ng ts N0 μ σ w) (he : ltL σ.next e = true) {o : Oper} {t el u : TypeId} {k : Nat} {d s : Operand} (hop : o.op = .call { callee := .builtin .copy, args := #[d, s], argTypes := #[t, u] })
    (h1 : P.underlying t = some (.slice el)) (h2 : szOf P el = some k) (hd : okOpd ng d = true) (hs : okOpd ng s = true) {v : Value} (hv : runE K e σ (.copy k (cOpd d) (cOpd s)) = some (.ret v, σ')) : ESound P ng ts N0 μ σ e o v σ' w := by
  obtain ⟨_, hcs, hls⟩ := opV (e := e) h.glob h.ngn he hs
  obtain ⟨_, hcd, hld⟩ := opV (e := e) h.glob h.ngn he hd
  simp only [runE] at hv
  generalize (cOpd s).ev e = S at hv hcs hls
  generalize (cOpd d).ev e = D at hv hcd hld
  split at hv
  · rename_i base dl dc
    split at hv
    · rename_i n hn
      simp only [Option.bind_eq_some_iff] at hv
      obtain ⟨cs, hcs', hv⟩ := hv
      obtain ⟨hsrc, hnl, hnn⟩ := srcV_sound h hls hcs'
      have hlen := lenV_sound (P := P) (μ := μ) hn w
      have hsrc0 := hsrc w rfl
      split at hv
      · rename_i a
        simp only [Option.map_eq_some_iff, Prod.mk.injEq, IRet.ret.injEq] at hv
        obtain ⟨σ1, hw, rfl, rfl⟩ := hv
        rw [lt_ssome] at hld
        obtain ⟨w', hrun, hrep, hgo⟩ := wrN_sound h hw hnl
        refine ⟨μ, w', .value (.int .i64 (Nat.min n dl)), hrep, hgo, by simp, ?_, .inl (by simp)⟩
        rw [← cAddr_eta μ a hld.2] at hrun
        simp [execOp, hop, resolve, invoke, builtin, hcs, hcd, Builtin.copy_, run_und h1, run_sz h2, hlen, hsrc0, hrun, goInt]
      · simp only [Option.some.injEq, Prod.mk.injEq, IRet.ret.injEq] at hv
        obtain ⟨rfl, rfl⟩ := hv
        refine ⟨μ, w, .value (.int .i64 (Nat.min n dl)), h, Goes.refl _ _ _, by simp, ?_, .inl (by simp)⟩
        simp [execOp, hop, resolve, invoke, builtin, hcs, hcd, Builtin.copy_, run_und h1, run_sz h2, hlen, hsrc0, goInt]
    · simp at hv
  · simp at hv
theorem sE_sdata (h : Rep P ng ts N0 μ σ w) (he : ltL σ.next e = true) {o : Oper} {ats : Array TypeId} {x : Operand} (hop : o.op = .call { callee := .builtin .unsafeSliceData, args := #[x], argTypes := ats })
    (hx : okOpd ng x = true) {v : Value} (hv : runE K e σ (.sdata (cOpd x)) = some (.ret v, σ')) : ESound P ng ts N0 μ σ e o v σ' w := by
  obtain ⟨_, hcx, hlx⟩ := opV (e := e) h.glob h.ngn he hx
  simp only [runE] at hv
  generalize (cOpd x).ev e = X at hv hcx hlx
  split at hv
  · simp only [Option.some.injEq, Prod.mk.injEq, IRet.ret.injEq] at hv
    obtain ⟨rfl, rfl⟩ := hv
    refine ⟨μ, w, .value (.pointer none), h, Goes.refl _ _ _, by simp, ?_, .inl (by simp)⟩
    have := Lib.run_unsafeSliceData_nil (P := P) w ats o.type
    simp [execOp, hop, resolve, invoke, builtin, hcx, this]
  · rename_i a m c
    split at hv
    · simp at hv
    · rename_i hc
      simp only [Option.some.injEq, Prod.mk.injEq, IRet.ret.injEq] at hv
      obtain ⟨rfl, rfl⟩ := hv
      rw [lt_ssome] at hlx
      refine ⟨μ, w, .value (.pointer (some (cAddr μ a))), h, Goes.refl _ _ _, by simpa using hlx, ?_, .inl (by simp)⟩
      have := Lib.run_unsafeSliceData_row (P := P) w ats o.type (cAddr μ a) m (c + (μ a.block).ex) (by omega)
      simp [execOp, hop, resolve, invoke, builtin, hcx, this]
  · simp at hv
theorem liesAt_row {P : Program} {e : TypeId} (hc : P.cellsOf e = 1) (count off n : Nat) (hn : off + n ≤ count) : liesAt P P.depth e count off e n = true := by
  obtain ⟨k, hk⟩ : ∃ k, P.depth = k + 1 := ⟨2 * (P.types.size + Made.depth) + 1, by unfold Program.depth; omega⟩
  rw [hk]
  simp only [liesAt, Bool.or_eq_true]
  left
  rw [hk]
  simp [rowAt, hc, hn, sameLayout, Nat.mod_one]
theorem freeze_heap (w : World) (b o n : Nat) (hn : n ≠ 0) {C : Array Value} {t : TypeId} {fr : Nat × Nat} (h : w.heap[b]? = some (.cells C t fr)) :
    (∃ fr', (w.freeze ⟨b, o, none⟩ n).heap[b]? = some (.cells C t fr')) ∧ (w.freeze ⟨b, o, none⟩ n).heap.size = w.heap.size ∧ (∀ j, j ≠ b → (w.freeze ⟨b, o, none⟩ n).heap[j]? = w.heap[j]?) ∧
    (w.freeze ⟨b, o, none⟩ n).os = w.os ∧ (w.freeze ⟨b, o, none⟩ n).tape = w.tape ∧ (w.freeze ⟨b, o, none⟩ n).output = w.output := by
  unfold World.freeze
  rw [if_neg hn]
  obtain ⟨lo, hi⟩ := fr
  refine ⟨?_, by simp, ?_, rfl, rfl, rfl⟩
  · simp only [Array.getElem?_modify, h]
    exact ⟨_, by simp; rfl⟩
  · intro j hj
    simp only [Array.getElem?_modify]
    rw [if_neg (by omega)]
theorem sE_ustr (h : Rep P ng ts N0 μ σ w) (he : ltL σ.next e = true) {o : Oper} {pt el : TypeId} {ats : Array TypeId} {x n : Operand} (hop : o.op = .call { callee := .builtin .unsafeString, args := #[x, n], argTypes := ats }) (ha : ats[0]? = some pt)
    (h1 : P.underlying pt = some (.pointer el)) (h2 : szOf P el = some 1) (hx : okOpd ng x = true) (hn : okOpd ng n = true) {v : Value} (hv : runE K e σ (.ustr el (cOpd x) (cOpd n)) = some (.ret v, σ')) : ESound P ng ts N0 μ σ e o v σ' w := by
  obtain ⟨_, hcx, hlx⟩ := opV (e := e) h.glob h.ngn he hx
  obtain ⟨_, hcn, hln⟩ := opV (e := e) h.glob h.ngn he hn
  have hmax : IntKind.i64.max = 9223372036854775807 := rfl
  have hco : P.cellsOf el = 1 := by
    simp only [szOf, Option.map_eq_some_iff] at h2
    obtain ⟨i, hi, hi2⟩ := h2
    simp [Program.cellsOf, hi, hi2]
  simp only [runE] at hv
  generalize (cOpd x).ev e = X at hv hcx hlx
  generalize (cOpd n).ev e = N at hv hcn hln
  split at hv
  · rename_i p k m
    split at hv
    · rename_i hm
      subst hm
      simp only [Option.some.injEq, Prod.mk.injEq, IRet.ret.injEq] at hv
      obtain ⟨rfl, rfl⟩ := hv
      refine ⟨μ, w, .value (.string .empty), h, Goes.refl _ _ _, by simp, ?_, .inl (by simp)⟩
      have hrun : ∀ q : Option Addr, (Builtin.unsafeString_ ats o.type #[.pointer q, .int k 0]).run P w = .ok (.string .empty) w := by
        intro q
        have hdef := (show Builtin.unsafeString_ ats o.type #[.pointer q, .int k 0] = (asInt (.int k 0) >>= _) from rfl)
        rw [hdef]
        cases q <;> simp [asInt, asIntOf, ha, hmax]
      cases p with
      | none => simp [execOp, hop, resolve, invoke, builtin, hcx, hcn, hrun none]
      | some a => simp [execOp, hop, resolve, invoke, builtin, hcx, hcn, hrun (some (cAddr μ a))]
    · rename_i hm
      split at hv
      · simp at hv
      · rename_i hmb
        split at hv
        · rename_i a
          split at hv
          · rename_i b l hb hl
            split at hv
            · simp at hv
            · rename_i hc
              simp only [Bool.or_eq_true, bne_iff_ne, ne_eq, not_or, Decidable.not_not, Bool.not_eq_true] at hc
              obtain ⟨⟨hro, hret⟩, hty⟩ := hc
              simp only [Option.map_eq_some_iff, Prod.mk.injEq, IRet.ret.injEq] at hv
              obtain ⟨bs, hbs, rfl, rfl⟩ := hv
              rw [lt_psome] at hlx
              have hi := cells?_some.1 hb
              have hcr := h.cells hb
              obtain ⟨C, fr, hC1, hC2, hC3⟩ := hcr.mine (by simpa using hro)
              obtain ⟨_, _, hll⟩ := rdN_sound h hlx.2 hl
              obtain ⟨hbl, hbv⟩ := bytesOf_some hbs
              have hlb : ∀ j y, l[j]? = some y → b.cs[a.off + j]? = some y := by
                intro j y hj
                unfold AW.rdN at hl
                rw [hb] at hl
                simp only at hl
                obtain ⟨g1, g2⟩ := (cutV_some _ _ _).1 hl
                rw [dropV_eq] at g1 g2
                have hjl : j < l.length := (List.getElem?_eq_some_iff.1 hj).1
                rw [g2, List.getElem?_take_of_lt (by omega), List.getElem?_drop] at hj
                exact hj
              have hcs : a.off + m.toNat ≤ b.cs.length := by
                unfold AW.rdN at hl
                rw [hb] at hl
                simp only at hl
                obtain ⟨g1, g2⟩ := (cutV_some _ _ _).1 hl
                rw [dropV_eq] at g1
                simp at g1
                omega
              have hml : m.toNat = bs.length := by omega
              have hrunb : (loadBytes (cAddr μ a) .empty m.toNat).run P w = .ok ⟨⟨bs⟩⟩ w := by
                rw [hml]
                have := Lib.run_loadBytes (P := P) w bs (cAddr μ a) .empty (by
                  intro j y hj
                  have hjl : j < l.length := by have := (List.getElem?_eq_some_iff.1 hj).1; omega
                  obtain ⟨q, hq1, hq2⟩ := hbv j _ (List.getElem?_eq_getElem hjl)
                  have hq3 := hlb j _ (List.getElem?_eq_getElem hjl)
                  have hcell := hcr.at hq3
                  rw [hq1] at hcell
                  rw [cAddr_eta μ a hlx.2, add_mk, Nat.add_assoc, hcell]
                  rw [hj] at hq2
                  simp only [Option.some.injEq] at hq2
                  rw [hq2.1, conc_int]
                  congr 2
                  have h5 : (UInt8.ofNat q.toNat).toNat = q.toNat := by
                    rw [UInt8.toNat_ofNat']; omega
                  omega)
                rw [this]
                simp [show ByteArray.empty.data = #[] from rfl]
              have hva : (variablesAt (cAddr μ a) el m.toNat).run P w = .ok true w := by
                obtain ⟨ty', hty', hs⟩ := hcr.shape
                rw [hty' (by simpa using hro)] at hs
                have hs' : w.shape? (cAddr μ a).block = some (el, (μ a.block).sh + b.cs.length + (μ a.block).ex * b.esz) := by rw [← hty]; exact hs
                simp only [variablesAt, Sem.run_bind, run_program, Result.andThen_ok, run_shape, hs', hco, Nat.div_one, Sem.run_pure]
                rw [liesAt_row hco _ _ _ (by simp [cAddr]; omega)]
              have hm0 : m.toNat ≠ 0 := by omega
              obtain ⟨⟨fr', f1⟩, f2, f3, f4, f5, f6⟩ := freeze_heap w (μ a.block).blk ((μ a.block).sh + a.off) m.toNat hm0 hC1
              rw [← cAddr_eta μ a hlx.2] at f1 f2 f3 f4 f5 f6
              obtain ⟨hrep, hgo⟩ := h.update (b' := { b with frozen := true, al := [] }) hi hro hret hro rfl f4 f5 f6 f2 f3 ⟨hcr.l, hcr.ex, hcr.sh0, by simp, C, _, fr', f1, fun _ => rfl, hC2, hC3⟩
              refine ⟨μ, _, .value (.string ⟨⟨bs⟩⟩), hrep, hgo, by simp, ?_, .inl (by simp)⟩
              have hrun : (Builtin.unsafeString_ ats o.type #[.pointer (some (cAddr μ a)), .int k m]).run P w = .ok (.string ⟨⟨bs⟩⟩) (w.freeze (cAddr μ a) m.toNat) := by
                have hdef := (show Builtin.unsafeString_ ats o.type #[.pointer (some (cAddr μ a)), .int k m] = (asInt (.int k m) >>= _) from rfl)
                rw [hdef]
                have hm1 : ¬ m < 0 := by omega
                have hm2 : ¬ (9223372036854775807 < m) := by omega
                simp [asInt, asIntOf, ha, hmax, hm, hm1, hm2, elemOf, run_und h1, hva, hrunb]
              simp [execOp, hop, resolve, invoke, builtin, hcx, hcn, hrun]
          · simp at hv
        · simp at hv
  · simp at hv
end
end Go.Proofs.YtjpepfgbilbcdaaGreatDoor.Ai
