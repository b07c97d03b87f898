/- A PART OF THE PROOF THAT AN INTERPRETER OF THE PROGRAM'S FUNCTIONS IS SOUND: a step of it. -/
import Derived.Test.YtjpepfgbilbcdaaGreatDoorAiQ
namespace Go.Proofs.YtjpepfgbilbcdaaGreatDoor.Ai
open Go
set_option linter.unusedSimpArgs false

section
variable {P : Program} {ng : Nat} {ts : List TypeId} {N0 : Nat} {μ μ' : Nat → Loc} {σ σ' : AW} {w w' : World} {e : List Value} {K : Ks}

theorem strCells_zero (s : ByteArray) : ltL 0 (strCells s) = true := by
  rw [ltL_iff]
  intro v hv
  simp only [strCells, List.mem_map] at hv
  obtain ⟨b, _, rfl⟩ := hv
  simp
theorem srcV_sound (h : Rep P ng ts N0 μ σ w) {k n : Nat} {X : Value} (hX : lt σ.next X = true) {new : List Value} (hs : srcV σ k X n = some new) :
    (∀ w1, w1.heap = w.heap → (Builtin.firstCells k n (conc μ X)).run P w1 = .ok ⟨concL μ new⟩ w1) ∧ ltL σ.next new = true ∧ new.length = n * k := by
  unfold srcV at hs
  split at hs
  · split at hs
    · rename_i h0; simp at hs; subst hs; subst h0
      exact ⟨fun w1 _ => by simp [Builtin.firstCells, concL], by simp [ltL], by simp⟩
    · simp at hs
  · rename_i a len cap
    rw [lt_ssome] at hX
    have hs' := hs
    unfold AW.rdN at hs'
    split at hs'
    · rename_i b hb
      obtain ⟨h1, h2, h3, _⟩ := firstCells_slice (cap := cap + (μ a.block).ex) h hX.2 hb hs'
      refine ⟨?_, h2, h3⟩
      intro w1 hw1
      have := h1 w1 hw1
      simpa [Builtin.firstCells] using this
    · simp at hs'
  · rename_i s
    split at hs
    · rename_i hc
      obtain ⟨rfl, hn⟩ := hc
      simp at hs; subst hs
      refine ⟨?_, ltL_sub (ltL_mono (Nat.zero_le _) _ (strCells_zero s)) fun v hv => List.mem_of_mem_take hv, ?_⟩
      · intro w1 _
        simp only [conc_string, Builtin.firstCells, Sem.run_pure]
        congr 1
        apply Array.ext'
        rw [concL_take, concL_zero μ _ (strCells_zero s)]
        simp [strCells, ByteArray.data_extract, List.map_take]
      · simp [strCells]
        have : s.data.size = s.size := rfl
        omega
    · simp at hs
  · simp at hs
theorem lenV_sound {X : Value} {n : Nat} (hn : lenV X = some n) (w1 : World) : (Builtin.lenOf (conc μ X)).run P w1 = .ok n w1 := by
  unfold lenV at hn
  split at hn
  · rename_i a m c; simp at hn; subst hn; cases a <;> simp [Builtin.lenOf]
  · simp at hn; subst hn; simp [Builtin.lenOf]
  · simp at hn

theorem sE_append (h : Rep P ng ts N0 μ σ w) (he : ltL σ.next e = true) {o : Oper} {t el u : TypeId} {i : TypeInfo} {z : List Value} {s x : Operand} (hop : o.op = .call { callee := .builtin .append, args := #[s, x], argTypes := #[t, u] })
    (h1 : P.underlying t = some (.slice el)) (h2 : zeroCells P el = some z) (h3 : P.info? el = some i) (hz : z.length ≠ 0) (hb : i.bytes ≠ 0) (hu : P.underlying u = some .string ∨ ∃ e', P.underlying u = some (.slice e'))
    (hs : okOpd ng s = true) (hx : okOpd ng x = true) {v : Value} {k b : Nat} (hk : k = z.length) (hbb : b = i.bytes) (hv : runE K e σ (.append el k b z (cOpd s) (cOpd x)) = some (.ret v, σ')) : ESound P ng ts N0 μ σ e o v σ' w := by
  subst hk hbb
  obtain ⟨_, hcs, hls⟩ := opV (e := e) h.glob h.ngn he hs
  obtain ⟨_, hcx, hlx⟩ := opV (e := e) h.glob h.ngn he hx
  simp only [runE] at hv
  generalize (cOpd s).ev e = S at hv hcs hls
  generalize (cOpd x).ev e = X at hv hcx hlx
  split at hv
  · rename_i n hn
    simp only [Option.bind_eq_some_iff, Option.map_eq_some_iff, Prod.mk.injEq, IRet.ret.injEq, Prod.exists] at hv
    obtain ⟨new, hnew, V, σ1, hap, rfl, rfl⟩ := hv
    obtain ⟨hsrc, hnl, hnn⟩ := srcV_sound h hlx hnew
    have hin : AppIn P t el u i z (conc μ X) n (concL μ new) w := ⟨h1, h3, h2, hz, hb, hu, fun w1 => lenV_sound hn w1, hsrc⟩
    obtain ⟨μ', w', hr, hg, hl, hrun⟩ := appendV_sound h (hin.run (ty := o.type)) hls hnl hnn hap
    refine ⟨μ', w', _, hr, hg, hl, ?_, .inl rfl⟩
    simp [execOp, hop, resolve, invoke, builtin, hcs, hcx, hrun]
  · simp at hv

/-! ### append(s, make([]T, n)...) -/
theorem appZ_run {t el u ty : TypeId} {i : TypeInfo} {z : List Value} {k : IntKind} {l : Int} (ht : P.underlying t = some (.slice el)) (hi : P.info? el = some i) (hz : zeroCells P el = some z) (z0 : z.length ≠ 0) (b0 : i.bytes ≠ 0)
    {ku : IntKind} (hu : P.underlying u = some (.int ku)) (h0 : 0 ≤ l) (hl : l ≤ 140737488355328) (hlb : l * i.bytes ≤ 140737488355328) (w : World) :
    AppRun P el i.bytes z l.toNat (List.replicate l.toNat z).flatten w (fun S => Builtin.append_ #[t, u] ty #[S, .int k l]) := by
  obtain ⟨_, _, _, hsz, hz0, _⟩ := zeroCells_some hz
  have hwr : IntKind.i64.wrap l = l := by unfold IntKind.wrap; simp [IntKind.bits, IntKind.signed]; omega
  have hl0 : ¬ l < 0 := by omega
  have hl1 : ¬ (281474976710656 < l * (i.bytes : Int)) := by omega
  have happ : ∀ w1, ∃ zv, (zeroValue el).run P w1 = .ok zv w1 ∧ zv.cells = z.toArray := fun w1 => zeroCells_run hz w1
  have hzc : ∀ (zv : Value) (m : Nat), zv.cells = z.toArray → Builtin.zeroCells zv.cells m = ((List.replicate m z).flatten).toArray := by
    intro zv m h
    unfold Builtin.zeroCells
    rw [h]
    simpa using zeros_eq z m z0
  have hn0 : l.toNat * z.length = 0 → l.toNat = 0 := fun h => (Nat.mul_eq_zero.1 h).resolve_right z0
  constructor
  · intro base len cap w' hf hst
    obtain ⟨zv, hzr, hzv⟩ := happ w
    by_cases hn : l.toNat * z.length = 0
    · have hn' := hn0 hn
      rw [hn'] at hst hf
      have hl00 : l = 0 := by omega
      subst hl00
      unfold Builtin.append_
      cases base with
      | none =>
        simp only at hst; subst hst
        simp [run_und ht, run_und hu, run_sz hsz, run_info hi, asInt, asIntOf, hwr, hf]
        omega
      | some a =>
        simp [storeCells] at hst; subst hst
        simp [run_und ht, run_und hu, run_sz hsz, run_info hi, asInt, asIntOf, hwr, storeCells]
        omega
    · unfold Builtin.append_
      cases base with
      | none =>
        simp only at hst; subst hst
        simp [run_und ht, run_und hu, run_sz hsz, run_info hi, asInt, asIntOf, hwr, hl0, hl1, hf, hn, hzr]
      | some a =>
        simp only at hst
        simp [run_und ht, run_und hu, run_sz hsz, run_info hi, asInt, asIntOf, hwr, hl0, hl1, hf, hn, hzr, hzc zv _ hzv, hst]
  · intro base len cap old hf hb hold
    obtain ⟨nc, hncd⟩ : ∃ nc, (Question.appendCap (len + l.toNat) cap el).cut (w.tape w.drawn (Question.appendCap (len + l.toNat) cap el)) = nc := ⟨_, rfl⟩
    have hnc : len + l.toNat ≤ nc := by rw [← hncd]; show _ ≤ len + l.toNat + _; omega
    have hfor : (Question.appendCap (len + l.toNat) cap el).forced = false := rfl
    obtain ⟨zv, hzr, hzv⟩ := happ w.drew
    have hol := hold w.drew rfl
    refine ⟨nc, w.drew.alloc (.cells (old ++ (List.replicate l.toNat z).flatten ++ (List.replicate (nc - (len + l.toNat)) z).flatten).toArray el), hnc, rfl, rfl, rfl, rfl, ?_⟩
    have hnsc : ¬ (Builtin.nextslicecap (len + l.toNat) cap * i.bytes > 281474976710656) := by
      have h1 := nextslicecap_le (m := len + l.toNat) (c := cap) (by omega)
      have h2 : Builtin.nextslicecap (len + l.toNat) cap * i.bytes ≤ (2 * (len + l.toNat) + 768) * i.bytes := Nat.mul_le_mul_right _ h1
      omega
    have hneed : ¬ (9223372036854775807 < ((len : Int) + l.toNat)) := by
      have h3 : (2 * (len + l.toNat) + 768) * 1 ≤ (2 * (len + l.toNat) + 768) * i.bytes := Nat.mul_le_mul_left _ (by omega)
      omega
    have hneed' : ¬ (9223372036854775807 < ((len : Int) + max l 0)) := by omega
    unfold Builtin.append_
    by_cases hn : l.toNat * z.length = 0
    · have hn' := hn0 hn
      have hl00 : l = 0 := by omega
      subst hl00
      simp at hf hncd hfor hnc hnsc hneed
      have hf2 : ¬ len ≤ cap := by omega
      have hnsc2 : ¬ (281474976710656 < Builtin.nextslicecap len cap * i.bytes) := by omega
      have hneed2 : ¬ (9223372036854775807 < (len : Int)) := by omega
      simp [run_und ht, run_und hu, run_sz hsz, run_info hi, asInt, asIntOf, hwr, hf2, hnsc2, b0, hfor, hncd, hol, hzr, hzc zv _ hzv, newRow, hneed2]
    · simp [run_und ht, run_und hu, run_sz hsz, run_info hi, asInt, asIntOf, hwr, hl0, hl1, hf, hnsc, b0, hfor, hncd, hol, hzr, hzc zv _ hzv, newRow, hn, hneed, hneed']
end
end Go.Proofs.YtjpepfgbilbcdaaGreatDoor.Ai
