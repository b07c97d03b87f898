/- A PART OF THE PROOF: a step of the proof that the law's code does what its contracts say, by an interpreter of the program's functions that is proved to be sound. -/
import Derived.Test.YtnpoloachkcadaaGreatDoorTrA
import Derived.Test.YtnpoloachkcadaaGreatDoorPv3
import Derived.ChangeArms
import Derived.DataReads
namespace Go.Proofs.YtnpoloachkcadaaGreatDoor.Ai
open Go
set_option linter.unusedSimpArgs false
set_option linter.unusedVariables false
set_option linter.unusedSectionVars false
/-! ### arguments that are formulas -/
/-- how a formula lies in memory -/
structure FmT (P : Program) (tO : TypeId) : Prop where
  u27 : ∃ fs : Array Field, P.underlying 27 = some (.struct fs) ∧ fs.size = 3 ∧ fs.toList.map (·.type) = [tO, 9, 25] ∧ (∃ f, fs[0]? = some f ∧ f.type = tO ∧ f.offset = 0) ∧ (∃ f, fs[1]? = some f ∧ f.type = 9 ∧ f.offset = 1) ∧ (∃ f, fs[2]? = some f ∧ f.type = 25 ∧ f.offset = 2)
  uO : P.underlying tO = some (.int .u8)
  u9 : P.underlying 9 = some .string
  u25 : P.underlying 25 = some (.slice 27)
  c27 : P.cellsOf 27 = 3
  cO : P.cellsOf tO = 1
  c9 : P.cellsOf 9 = 1
  c25 : P.cellsOf 25 = 1
  b27 : 0 < P.bytesOf 27
section
variable {H : Type} {enc : TypeId × Value → H} {P : Program} {ng : Nat} {ts : List TypeId} {W : World} {tO : TypeId}
/-- these cells open as these values, whatever is in sight already -/
def OpenAny (P : Program) (ng : Nat) (ts : List TypeId) (W : World) (vs : List Value) (ps : List PV) : Prop :=
  ∀ σ μ I, Op P ng ts W σ μ I → Opens P ng ts W σ μ I vs ps
theorem OpenAny.nil : OpenAny P ng ts W [] [] := fun σ μ I h => ⟨σ, μ, I, [], h, .refl, rfl, by simp [RdL], rfl⟩
theorem OpenAny.append {vs ws : List Value} {ps qs : List PV} (h : OpenAny P ng ts W vs ps) (k : OpenAny P ng ts W ws qs) : OpenAny P ng ts W (vs ++ ws) (ps ++ qs) := by
  intro σ μ I ho
  obtain ⟨σ1, μ1, I1, us1, o1, l1, c1, r1, t1⟩ := h σ μ I ho
  obtain ⟨σ2, μ2, I2, us2, o2, l2, c2, r2, t2⟩ := k σ1 μ1 I1 o1
  refine ⟨σ2, μ2, I2, us1 ++ us2, o2, l1.trans l2, ?_, (r1.mono l2.i (Eta.le_refl _)).append r2, ltL_append.2 ⟨ltL_mono l2.n _ t1, t2⟩⟩
  rw [concL_app, c2, concL_congr l2.m us1 t1, c1]
theorem OpenAny.lit {u : Value} (h : lt 0 u = true) : OpenAny P ng ts W [u] [.lit u] := fun σ μ I ho =>
  ⟨σ, μ, I, [u], ho, .refl, by simp [concL, conc_zero _ _ h], by simp only [RdL]; exact ⟨rd_mk h, trivial⟩, by simp [ltL, lt_mono (Nat.zero_le _) _ h]⟩
theorem Addr.add_none {b o : Nat} (j : Nat) : (⟨b, o, none⟩ : Addr).add j = ⟨b, o + j, none⟩ := by
  unfold Addr.add
  split
  · rename_i h; subst h; rfl
  · rfl
theorem cells3 {w : World} {a : Addr} {row : List Value} (hs : a.spot = none) (h : w.cells? 0 a 3 = some row) : ∃ C t fr, w.heap[a.block]? = some (.cells C t fr) ∧ row = (C.toList.drop a.off).take 3 ∧ a.off + 3 ≤ C.size := by
  obtain ⟨b, o, s⟩ := a
  simp only at hs; subst hs
  unfold World.cells? at h
  rw [if_pos (Nat.zero_le _)] at h
  have e : List.range 3 = [0, 1, 2] := rfl
  rw [e] at h
  simp only [List.mapM_cons, List.mapM_nil, Option.bind_eq_bind, Option.bind_eq_some_iff] at h
  obtain ⟨v0, h0, r0, ⟨v1, h1, r1, ⟨v2, h2, r2, h3, h4⟩, h5⟩, h6⟩ := h
  simp at h3 h4 h5 h6
  subst h3 h4 h5 h6
  obtain ⟨C, t, fr, hC, g0⟩ := cell_at (W := w) (a := ⟨b, o, none⟩) rfl h0
  obtain ⟨C1, t1, fr1, hC1, g1⟩ := cell_at (W := w) (a := ⟨b, o, none⟩) rfl h1
  obtain ⟨C2, t2, fr2, hC2, g2⟩ := cell_at (W := w) (a := ⟨b, o, none⟩) rfl h2
  simp only at hC hC1 hC2 g0 g1 g2
  rw [hC] at hC1 hC2
  simp only [Option.some.injEq, Obj.cells.injEq] at hC1 hC2
  obtain ⟨rfl, _⟩ := hC1
  obtain ⟨rfl, _⟩ := hC2
  have q0 := Array.getElem?_eq_some_iff.1 g0
  have q1 := Array.getElem?_eq_some_iff.1 g1
  have q2 := Array.getElem?_eq_some_iff.1 g2
  obtain ⟨l2, e2⟩ := q2
  obtain ⟨l1, e1⟩ := q1
  obtain ⟨l0, e0⟩ := q0
  refine ⟨C, t, fr, hC, ?_, by show o + 3 ≤ C.size; omega⟩
  show [v0, v1, v2] = (C.toList.drop o).take 3
  have d0 := List.drop_eq_getElem_cons (l := C.toList) (i := o) (by simp; omega)
  have d1 := List.drop_eq_getElem_cons (l := C.toList) (i := o + 1) (by simp; omega)
  have d2 := List.drop_eq_getElem_cons (l := C.toList) (i := o + 1 + 1) (by simp; omega)
  rw [d0, d1, d2]
  simp only [List.take_succ_cons, List.take_zero, Array.getElem_toList]
  rw [← e0, ← e1, ← e2]
  rfl
theorem rows_flat (l : List Value) : ∀ n, (((List.range n).map fun i => (l.drop (i * 3)).take 3).flatten) = l.take (n * 3)
  | 0 => by simp
  | n + 1 => by
    rw [List.range_succ, List.map_append, List.flatten_append, rows_flat l n]
    simp only [List.map_cons, List.map_nil, List.flatten_cons, List.flatten_nil, List.append_nil]
    rw [show (n + 1) * 3 = n * 3 + 3 by omega, List.take_add]
theorem rows_open : ∀ {rows : List (List Value)}, (∀ r ∈ rows, ∃ f : Fm, f.ok ∧ f.opsOK ∧ OpenAny P ng ts W r (fC f)) → ∃ gs : List Fm, gs.length = rows.length ∧ oks gs ∧ opsOKs gs ∧ OpenAny P ng ts W rows.flatten (fL gs)
  | [], _ => ⟨[], rfl, trivial, trivial, by simpa [fL] using OpenAny.nil⟩
  | r :: rows, h => by
    obtain ⟨f, h1, h2, h3⟩ := h r (by simp)
    obtain ⟨gs, g1, g2, g3, g4⟩ := rows_open (rows := rows) fun x hx => h x (by simp [hx])
    exact ⟨f :: gs, by simp [g1], ⟨h1, g2⟩, ⟨h2, g3⟩, by simp only [List.flatten_cons, fL]; exact h3.append g4⟩
theorem oks_takeR {ks : List Fm} (h : opsOKs ks) (i : Nat) : opsOKs (ks.take i) := by
  induction ks generalizing i with
  | nil => simp [opsOKs]
  | cons x ks ih => cases i with
    | zero => simp [opsOKs]
    | succ i => exact ⟨h.1, ih h.2 i⟩
theorem mem_weights {P : Program} {t : TypeId} {H : Type} {d : DataW H} {m : Nat} (hm : m ∈ d.weights P t) : ∀ {l : List (DataW H)}, d ∈ l → m ∈ DataW.weightsAll P t l
  | [], h => by simp at h
  | x :: l, h => by
    simp only [DataW.weightsAll, List.mem_append]
    rcases List.mem_cons.1 h with rfl | h
    · exact .inl hm
    · exact .inr (mem_weights hm h)
theorem kids_open (T : FmT P tO) (hb : ∃ (b : Nat) (C : Array Value) (t : TypeId) (fr : Nat × Nat), W.heap[b]? = some (.cells C t fr)) {fuel : Nat} (ih : ∀ n, n < fuel → ∀ cs x, DataW.trod enc P W 0 (fun _ => true) true n 27 cs = some x → (∀ m ∈ x.1.weights P 27, m ≤ reachBytes) → ∃ f : Fm, f.ok ∧ f.opsOK ∧ OpenAny P ng ts W cs (fC f))
    {v : Value} {x : DataW H × List MemPlace} (h : DataW.trod enc P W 0 (fun _ => true) true fuel 25 [v] = some x) (hw : ∀ m ∈ x.1.weights P 25, m ≤ reachBytes) : ∃ ks : List Fm, ks.length < 2 ^ 50 ∧ oks ks ∧ opsOKs ks ∧ OpenAny P ng ts W [v] [.sz (fL ks) ks.length] := by
  rcases DataW.trod_slice T.u25 h with ⟨h1, _⟩ | ⟨a, len, cap, elems, rest, n, rfl, h1, hx, _, hlc, hcap, hel, hE, hR, _⟩
  · simp at h1; subst h1
    refine ⟨[], by simp, trivial, trivial, fun σ μ I ho => ⟨σ, μ, I, [.slice none 0 0], ho, .refl, by simp [concL, conc], by simp only [RdL]; exact ⟨by simp [Rd], trivial⟩, by simp [ltL, lt]⟩⟩
  · simp at h1; subst h1
    have hreach : reachBytes < 2 ^ 50 := by decide
    by_cases hc0 : cap = 0
    · have hl0 : len = 0 := by omega
      subst hc0 hl0
      refine ⟨[], by simp, trivial, trivial, fun σ μ I ho => ?_⟩
      obtain ⟨b0, C, t, fr, hC⟩ := hb
      obtain ⟨o1, l1⟩ := ho.skip ⟨a.block, 0, 0⟩
      obtain ⟨o2, l2⟩ := o1.add (blk := b0) (off := 0) (us := []) rfl ⟨C, t, fr, hC, by simp, fun k v hk => by simp at hk⟩
      refine ⟨_, _, _, [.slice (some ⟨σ.next, a.off, a.spot⟩) 0 0], o2, l1.trans l2, ?_, ?_, ?_⟩
      · have hμ : upd (upd μ σ.next ⟨a.block, 0, 0⟩) σ.bump.next ⟨b0, 0, 0⟩ σ.next = ⟨a.block, 0, 0⟩ := by
          rw [l2.m σ.next (Nat.lt_succ_self _), upd_same]
        simp only [concL, conc, cAddr, hμ, Nat.zero_add, Nat.add_zero]
      · simp only [RdL, Rd]
        exact ⟨.inl ⟨rfl, .inr ⟨_, σ.bump.next, [], rfl, Nat.le_succ _, by simp [Img.set]⟩⟩, trivial⟩
      · simp [ltL, lt]; exact Nat.lt_succ_of_lt (Nat.lt_succ_self _)
    · -- the rows
      have hrow : ∀ i, i < cap → ∃ row x', W.cells? 0 (a.add (i * 3)) 3 = some row ∧ DataW.trod enc P W 0 (fun _ => true) true n 27 row = some x' ∧ ∀ m ∈ x'.1.weights P 27, m ≤ reachBytes := by
        intro i hi
        rw [T.c27] at hE
        obtain ⟨hr1, hr2⟩ := hR rfl
        rw [T.c27] at hr2
        by_cases hil : i < len
        · have h2 := hE i hil
          rw [List.getElem?_eq_getElem (by omega), Option.bind_eq_some_iff] at h2
          obtain ⟨row, h3, h4⟩ := h2
          exact ⟨row, _, h3, h4, fun m hm => hw m (by
            rw [hx]; simp only [DataW.weights, T.u25, List.mem_cons, List.mem_append]
            exact .inr (.inl (mem_weights hm (List.mem_map_of_mem (List.getElem_mem _)))))⟩
        · have h2 := hr2 (i - len) (by omega)
          rw [List.getElem?_eq_getElem (by omega), Option.bind_eq_some_iff] at h2
          obtain ⟨row, h3, h4⟩ := h2
          rw [show len + (i - len) = i by omega] at h3
          exact ⟨row, _, h3, h4, fun m hm => hw m (by
            rw [hx]; simp only [DataW.weights, T.u25, List.mem_cons, List.mem_append]
            exact .inr (.inr (mem_weights hm (List.mem_map_of_mem (List.getElem_mem _)))))⟩
      have hsp : a.spot = none := by
        obtain ⟨row, _, h3, _, _⟩ := hrow 0 (by omega)
        unfold World.cells? at h3
        rw [if_pos (Nat.zero_le _)] at h3
        have e : List.range 3 = [0, 1, 2] := rfl
        rw [e] at h3
        simp only [List.mapM_cons, Option.bind_eq_bind, Option.bind_eq_some_iff] at h3
        obtain ⟨v0, h0, _⟩ := h3
        have := World.cell?_spot h0
        simpa [Addr.add] using this
      obtain ⟨b, o, s⟩ := a
      simp only at hsp; subst hsp
      obtain ⟨row0, _, h30, _, _⟩ := hrow 0 (by omega)
      rw [Addr.add_none] at h30
      obtain ⟨C, t, fr, hC, _, _⟩ := cells3 rfl h30
      simp only at hC
      have hrow2 : ∀ i, i < cap → ((C.toList.drop o).drop (i * 3)).take 3 = ((C.toList.drop o).drop (i * 3)).take 3 ∧ o + i * 3 + 3 ≤ C.size ∧ ∃ x', DataW.trod enc P W 0 (fun _ => true) true n 27 (((C.toList.drop o).drop (i * 3)).take 3) = some x' ∧ ∀ m ∈ x'.1.weights P 27, m ≤ reachBytes := by
        intro i hi
        obtain ⟨row, x', h3, h4, h5⟩ := hrow i hi
        rw [Addr.add_none] at h3
        obtain ⟨C', t', fr', hC', he, hs⟩ := cells3 rfl h3
        simp only at hC' he hs
        rw [hC] at hC'
        simp only [Option.some.injEq, Obj.cells.injEq] at hC'
        obtain ⟨rfl, _⟩ := hC'
        refine ⟨rfl, hs, x', ?_, h5⟩
        rw [List.drop_drop, ← he]; exact h4
      obtain ⟨gs, g1, g2, g3, g4⟩ := rows_open (P := P) (ng := ng) (ts := ts) (W := W) (rows := (List.range cap).map fun i => ((C.toList.drop o).drop (i * 3)).take 3) (by
        intro r hr
        simp only [List.mem_map, List.mem_range] at hr
        obtain ⟨i, hi, rfl⟩ := hr
        obtain ⟨_, _, x', hx', hx2⟩ := hrow2 i hi
        exact ih n (Nat.lt_succ_self _) _ _ hx' hx2)
      rw [rows_flat] at g4
      simp at g1
      have hsz := (hrow2 (cap - 1) (by omega)).2.1
      have htl : (gs.take len).length = len := by rw [List.length_take]; omega
      have hlw : len < 2 ^ 50 := by
        have := hw ((elems.length + rest.length) * P.bytesOf 27) (by rw [hx]; simp only [DataW.weights, T.u25, List.length_map, List.mem_cons, true_or])
        have h2 : elems.length + rest.length ≤ (elems.length + rest.length) * P.bytesOf 27 := Nat.le_mul_of_pos_right _ T.b27
        omega
      refine ⟨gs.take len, by rw [htl]; exact hlw, oks_take g2 len, oks_takeR g3 len, fun σ μ I ho => ?_⟩
      obtain ⟨σ1, μ1, I1, us, o1, l1, c1, r1, t1⟩ := g4 σ μ I ho
      have hul : us.length = cap * 3 := by
        have := congrArg List.length c1
        rw [concL_len, List.length_take, List.length_drop] at this
        simp at this; omega
      obtain ⟨o2, l2⟩ := o1.add (blk := b) (off := o) (us := us) t1 ⟨C, t, fr, hC, by omega, fun k v hk => by
        have h1 : (concL μ1 us)[k]? = some (conc μ1 v) := by rw [concL_eq, List.getElem?_map, hk]; rfl
        rw [c1, List.getElem?_take] at h1
        split at h1
        · rw [List.getElem?_drop] at h1; simpa using h1
        · simp at h1⟩
      refine ⟨_, _, _, [.slice (some ⟨σ1.next, 0, none⟩) len cap], o2, l1.trans l2, ?_, ?_, ?_⟩
      · simp [concL, conc, cAddr, upd_same]
      · simp only [RdL, Rd]
        refine ⟨.inr ⟨σ1.next, 0, cap, us, us.take (len * 3), us.drop (len * 3), by rw [htl], by rw [htl]; exact hlc, by simp [Img.set], by simp, ?_⟩, trivial⟩
        have hfl : fL (gs.take len) = (fL gs).take (len * 3) := by
          have e := fL_app (gs.take len) (gs.drop len)
          rw [List.take_append_drop] at e
          rw [e, show len * 3 = (fL (gs.take len)).length by rw [fL_len, htl], List.take_left]
        rw [hfl]
        exact (r1.take _).mono l2.i (Eta.le_refl _)
      · simp [ltL, lt]
theorem fm_open (T : FmT P tO) (hb : ∃ (b : Nat) (C : Array Value) (t : TypeId) (fr : Nat × Nat), W.heap[b]? = some (.cells C t fr)) : ∀ (fuel : Nat) (cs : List Value) (x : DataW H × List MemPlace), DataW.trod enc P W 0 (fun _ => true) true fuel 27 cs = some x → (∀ m ∈ x.1.weights P 27, m ≤ reachBytes) → ∃ f : Fm, f.ok ∧ f.opsOK ∧ OpenAny P ng ts W cs (fC f) := by
  intro fuel
  induction fuel using Nat.strongRecOn with
  | ind fuel ih =>
    intro cs x h hw
    obtain ⟨fs, hu, hfs, hty, ⟨f0, a0, a1, a2⟩, ⟨f1, b0, b1, b2⟩, ⟨f2, c0, c1, c2⟩⟩ := T.u27
    obtain ⟨xs, n, rfl, hx, hl, hxl, hf⟩ := DataW.trod_struct hu h
    rw [T.c27] at hl
    obtain ⟨v0, v1, v2, rfl⟩ : ∃ a b c, cs = [a, b, c] := by
      match cs, hl with
      | [a, b, c], _ => exact ⟨a, b, c, rfl⟩
    have g0 := hf 0 f0 a0
    have g1 := hf 1 f1 b0
    have g2 := hf 2 f2 c0
    rw [a1, a2, T.cO, List.getElem?_eq_getElem (by omega)] at g0
    rw [b1, b2, T.c9, List.getElem?_eq_getElem (by omega)] at g1
    rw [c1, c2, T.c25, List.getElem?_eq_getElem (by omega)] at g2
    simp only [List.drop_zero, List.drop_succ_cons, List.take_succ_cons, List.take_zero] at g0 g1 g2
    obtain ⟨x0, x1, x2, rfl⟩ : ∃ a b c, xs = [a, b, c] := by
      match xs, hxl.trans hfs with
      | [a, b, c], _ => exact ⟨a, b, c, rfl⟩
    simp only [List.getElem_cons_zero, List.getElem_cons_succ] at g0 g1 g2
    obtain ⟨o, hv0, _, hwf⟩ := DataW.trod_int T.uO g0
    obtain ⟨s, hv1, hx1, hs⟩ := DataW.trod_string T.u9 g1
    have hwx : ∀ m, m ∈ x1.1.weights P 9 ∨ m ∈ x2.1.weights P 25 → m ≤ reachBytes := fun m hm => hw m (by
      rw [hx]
      simp only [DataW.weights, hu, hty, List.map_cons, List.map_nil, DataW.weightsEach, List.mem_append]
      rcases hm with hm | hm
      · exact .inr (.inl hm)
      · exact .inr (.inr (.inl hm)))
    have hsz : s.size ≤ reachBytes := by
      have := hwx s.data.toList.length (.inl (by rw [hx1]; simp [DataW.weights]))
      rwa [ba_size] at this
    simp at hv0 hv1
    subst hv0 hv1
    have hreach : reachBytes < 2 ^ 50 := by decide
    obtain ⟨ks, k1, k2, k3, k4⟩ := kids_open (ng := ng) (ts := ts) T hb (fuel := n) (fun m hm cs x hx hy => ih m (by omega) cs x hx hy) g2 (fun m hm => hwx m (.inr hm))
    have ho : 0 ≤ o ∧ o < 256 := by
      simp [Lit.wf, IntKind.min, IntKind.max, IntKind.signed, IntKind.bits] at hwf
      omega
    refine ⟨.mk o.toNat s ks, ⟨by omega, k1, k2⟩, ⟨by omega, k3⟩, ?_⟩
    have e : fC (.mk o.toNat s ks) = [.lit (.int .u8 o)] ++ ([.lit (.string s)] ++ [.sz (fL ks) ks.length]) := by
      simp only [fC, List.cons_append, List.nil_append]
      rw [Int.toNat_of_nonneg ho.1]
    rw [e]
    exact (OpenAny.lit (by simp [lt])).append ((OpenAny.lit (by simp [lt])).append k4)
end
end Go.Proofs.YtnpoloachkcadaaGreatDoor.Ai

namespace Go.Proofs.YtnpoloachkcadaaGreatDoor.Ai
open Go
set_option linter.unusedSimpArgs false
set_option linter.unusedVariables false
set_option linter.unusedSectionVars false
/-! ### Cmp is an order -/
/-- what three signs of an order have in common -/
def TR (a b c : Int) : Prop := (a ≤ 0 → b ≤ 0 → c ≤ 0 ∧ (a < 0 ∨ b < 0 → c < 0)) ∧ (0 ≤ a → 0 ≤ b → 0 ≤ c ∧ (0 < a ∨ 0 < b → 0 < c))
theorem TR.or {a b c a' b' c' : Int} (h : TR a b c) (k : a = 0 → b = 0 → c = 0 → TR a' b' c') : TR (orZ a a') (orZ b b') (orZ c c') := by
  have e : ∀ x y : Int, (x = 0 ∧ orZ x y = y) ∨ (x ≠ 0 ∧ orZ x y = x) := by
    intro x y
    unfold orZ
    by_cases hx : x = 0
    · exact .inl ⟨hx, by simp [neB_iff, hx]⟩
    · exact .inr ⟨hx, by simp [neB_iff, hx]⟩
  rcases e a a' with ⟨h1, e1⟩ | ⟨h1, e1⟩ <;> rcases e b b' with ⟨h2, e2⟩ | ⟨h2, e2⟩ <;> rcases e c c' with ⟨h3, e3⟩ | ⟨h3, e3⟩ <;> rw [e1, e2, e3]
  · exact k h1 h2 h3
  all_goals (unfold TR at *; omega)
theorem cmpZ_tr (a b c : Int) : TR (cmpZ a b) (cmpZ b c) (cmpZ a c) := by
  unfold cmpZ TR
  simp only [ltB_iff]
  repeat' split
  all_goals simp <;> omega
theorem cmpB_tr : ∀ a b c : List UInt8, TR (Go.Lib.compareBytes a b) (Go.Lib.compareBytes b c) (Go.Lib.compareBytes a c)
  | [], [], [] => by simp [Go.Lib.compareBytes, TR]
  | [], [], _ :: _ => by simp [Go.Lib.compareBytes, TR]
  | [], _ :: _, [] => by simp [Go.Lib.compareBytes, TR]
  | _ :: _, [], [] => by simp [Go.Lib.compareBytes, TR]
  | _ :: _, _ :: _, [] => by simp only [Go.Lib.compareBytes, TR]; omega
  | [], _ :: _, _ :: _ => by simp only [Go.Lib.compareBytes, TR]; omega
  | _ :: _, [], _ :: _ => by simp [Go.Lib.compareBytes, TR]
  | a :: as, b :: bs, c :: cs => by
    have ih := cmpB_tr as bs cs
    simp only [Go.Lib.compareBytes, UInt8.lt_iff_toNat_lt]
    unfold TR at *
    repeat' split
    all_goals first | omega | simp_all
theorem cmpB_eq : ∀ {a b : List UInt8}, Go.Lib.compareBytes a b = 0 → a = b
  | [], [], _ => rfl
  | [], _ :: _, h => by simp [Go.Lib.compareBytes] at h
  | _ :: _, [], h => by simp [Go.Lib.compareBytes] at h
  | a :: as, b :: bs, h => by
    simp only [Go.Lib.compareBytes, UInt8.lt_iff_toNat_lt] at h
    split at h
    · simp at h
    · split at h
      · simp at h
      · have : a = b := UInt8.toNat_inj.1 (by omega)
        rw [this, cmpB_eq h]
theorem cmpZ_eq {a b : Int} (h : cmpZ a b = 0) : a = b := by
  unfold cmpZ at h
  simp only [ltB_iff] at h
  split at h
  · simp at h
  · split at h
    · simp at h
    · omega
theorem orZ_eq {a b : Int} (h : orZ a b = 0) : a = 0 ∧ b = 0 := by
  unfold orZ at h
  by_cases ha : a = 0
  · simp only [neB_iff, ha, ne_eq, not_true_eq_false, if_false] at h
    exact ⟨ha, h⟩
  · simp only [neB_iff, ne_eq, ha, not_false_eq_true, if_true] at h
theorem cmpS_eq {a b : ByteArray} (h : cmpS a b = 0) : a = b := by
  have := cmpB_eq h
  obtain ⟨⟨a⟩⟩ := a; obtain ⟨⟨b⟩⟩ := b
  simp at this; subst this; rfl
mutual
theorem cmp_tr : ∀ f g h : Fm, TR (f.cmp g) (g.cmp h) (f.cmp h)
  | .mk o n ks, .mk o' n' ks', .mk o2 n2 ks2 => by
    simp only [Fm.cmp]
    refine TR.or ?_ ?_
    · exact (cmpZ_tr _ _ _).or fun _ _ _ => TR.or (cmpB_tr _ _ _) fun _ _ _ => cmpZ_tr _ _ _
    · intro h1 h2 _
      have e1 := cmpZ_eq (orZ_eq (orZ_eq h1).2).2
      have e2 := cmpZ_eq (orZ_eq (orZ_eq h2).2).2
      exact cmps_tr ks ks' ks2 (by omega) (by omega)
theorem cmps_tr : ∀ a b c : List Fm, a.length = b.length → b.length = c.length → TR (cmps a b) (cmps b c) (cmps a c)
  | [], [], [], _, _ => by simp [cmps, TR]
  | x :: a, y :: b, z :: c, h1, h2 => by
    simp only [cmps]
    exact (cmp_tr x y z).or fun _ _ _ => cmps_tr a b c (by simpa using h1) (by simpa using h2)
  | [], _ :: _, _, h1, _ => by simp at h1
  | _ :: _, [], _, h1, _ => by simp at h1
  | [], [], _ :: _, _, h2 => by simp at h2
  | _ :: _, _ :: _, [], _, h2 => by simp at h2
end
mutual
theorem cmp_eq : ∀ f g : Fm, f.cmp g = 0 → f = g
  | .mk o n ks, .mk o' n' ks', h => by
    simp only [Fm.cmp] at h
    obtain ⟨h1, h2⟩ := orZ_eq h
    obtain ⟨h3, h4⟩ := orZ_eq h1
    obtain ⟨h5, h6⟩ := orZ_eq h4
    have e1 := cmpZ_eq h3
    have e2 := cmpS_eq h5
    have e3 := cmpZ_eq h6
    have e4 := cmps_eq ks ks' (by omega) h2
    have : o = o' := by omega
    rw [this, e2, e4]
theorem cmps_eq : ∀ a b : List Fm, a.length = b.length → cmps a b = 0 → a = b
  | [], [], _, _ => rfl
  | x :: a, y :: b, h1, h => by
    simp only [cmps] at h
    obtain ⟨h2, h3⟩ := orZ_eq h
    rw [cmp_eq x y h2, cmps_eq a b (by simpa using h1) h3]
  | [], _ :: _, h1, _ => by simp at h1
  | _ :: _, [], h1, _ => by simp at h1
end
theorem orZ_zero {a b : Int} (ha : a = 0) (hb : b = 0) : orZ a b = 0 := by
  subst ha hb
  simp [orZ]
theorem cmpB_refl : ∀ a : List UInt8, Go.Lib.compareBytes a a = 0
  | [] => rfl
  | a :: as => by simp only [Go.Lib.compareBytes, UInt8.lt_iff_toNat_lt, Nat.lt_irrefl, if_false]; exact cmpB_refl as
theorem cmpZ_refl (a : Int) : cmpZ a a = 0 := by
  unfold cmpZ
  simp only [ltB_iff]
  rw [if_neg (by omega), if_neg (by omega)]
mutual
theorem cmp_refl : ∀ f : Fm, f.cmp f = 0
  | .mk o n ks => by
    simp only [Fm.cmp]
    exact orZ_zero (orZ_zero (cmpZ_refl _) (orZ_zero (cmpB_refl _) (cmpZ_refl _))) (cmps_refl ks)
theorem cmps_refl : ∀ a : List Fm, cmps a a = 0
  | [] => by simp [cmps]
  | x :: a => by
    simp only [cmps]
    exact orZ_zero (cmp_refl x) (cmps_refl a)
end
/-! ### what weighs little has few parts -/
mutual
theorem size_wt : ∀ (f : Fm) (d : Nat), f.wt d ≤ 2147483647 → f.size ≤ f.wt d
  | .mk o n ks, d, h => by
    simp only [Fm.wt, Fm.size] at h ⊢
    split at h
    · omega
    · rename_i hd
      rw [if_neg hd]
      have := sizes_wt ks (d + 1) (1 + n.size) h
      omega
theorem sizes_wt : ∀ (ks : List Fm) (d n : Nat), wts d n ks ≤ 2147483647 → n + sizes ks ≤ wts d n ks
  | [], d, n, h => by simp [wts, sizes]
  | k :: ks, d, n, h => by
    simp only [wts, sizes] at h ⊢
    split at h
    · rename_i hn
      rw [if_pos hn]
      have h1 := sizes_wt ks d (n + k.wt d) h
      have h2 := size_wt k d (by omega)
      omega
    · omega
end
theorem much3 {f g h : Fm} (hm : muchN 0 [f, g, h] ≤ 1048576) : f.size ≤ 1048576 ∧ g.size ≤ 1048576 ∧ h.size ≤ 1048576 := by
  simp only [muchN] at hm
  rw [if_pos (by omega)] at hm
  split at hm
  · split at hm
    · have h1 := size_wt f 0 (by omega)
      have h2 := size_wt g 0 (by omega)
      have h3 := size_wt h 0 (by omega)
      omega
    · omega
  · omega
end Go.Proofs.YtnpoloachkcadaaGreatDoor.Ai

namespace Go.Proofs.YtnpoloachkcadaaGreatDoor.Ai
open Go
set_option linter.unusedVariables false
set_option linter.unusedSectionVars false
set_option maxRecDepth 10000
/-! ### TreeRow, the whole body -/
theorem sgn (a : Int) : (a < 0 ∧ ltB a 0 = true ∧ leB a 0 = true ∧ eqB a 0 = false ∧ ltB 0 a = false ∧ leB 0 a = false ∧ neB a 0 = true) ∨
    (a = 0 ∧ ltB a 0 = false ∧ leB a 0 = true ∧ eqB a 0 = true ∧ ltB 0 a = false ∧ leB 0 a = true ∧ neB a 0 = false) ∨
    (0 < a ∧ ltB a 0 = false ∧ leB a 0 = false ∧ eqB a 0 = false ∧ ltB 0 a = true ∧ leB 0 a = true ∧ neB a 0 = true) := by
  rcases Int.lt_trichotomy a 0 with h | h | h
  · exact .inl ⟨h, ltB_t h, leB_t (by omega), eqB_f (by omega), ltB_f (by omega), leB_f (by omega), neB_t (by omega)⟩
  · exact .inr (.inl ⟨h, ltB_f (by omega), leB_t (by omega), eqB_t h, ltB_f (by omega), leB_t (by omega), neB_f (by omega)⟩)
  · exact .inr (.inr ⟨h, ltB_f (by omega), leB_f (by omega), eqB_f (by omega), ltB_t h, leB_t (by omega), neB_t (by omega)⟩)
section
variable {C : Ctx} (hm : C.P.follows .mixedOrders = true) (hC : TabOK C.P C.ng C.ts Tryz.tab) {itS : Nat → ByteArray} (hI : ∀ i : Nat, i < 2 ^ 40 → PFun C 91 [.lit (.int .i64 (i : Nat))] (.lit (.string (itS i)))) (hIs : ∀ i : Nat, i < 2 ^ 40 → (itS i).size ≤ 20)
include hm hC hI hIs
theorem row_top (hG0 : C.G 0 = some kidsC) (hw : PFun C 14 [] (.lit (.bool true))) (f g h : Fm) (of : f.ok) (og : g.ok) (oh : h.ok) (pf : f.opsOK) (pg : g.opsOK) (ph : h.opsOK) : PTop C Tryz.tab 10 [fP f, fP g, fP h] (.lit (.bool true)) := by
  have hmu := much_ok hm hC [f, g, h] ⟨of, og, oh, trivial⟩ (by simp)
  by_cases hmm : 1048576 < muchN 0 [f, g, h]
  · rw [yes_t hmm] at hmu
    clear hmm
    obtain ⟨o1, n1, k1⟩ := f
    obtain ⟨o2, n2, k2⟩ := g
    obtain ⟨o3, n3, k3⟩ := h
    simp only [fC, fL, List.cons_append, List.nil_append, List.length_cons, List.length_nil, Nat.reduceAdd] at hmu
    refine PTop.body (show Tryz.tab.get 10 = some Tryz.c10 from rfl) ?_
    simp only [Tryz.c10, startP, List.length_cons, List.length_nil, Nat.reduceAdd, Nat.reduceSub, List.replicate, List.cons_append, List.nil_append, fP, fC]
    repeat (refine PRun.wpn rfl ?_; simp only [wp, wo_nil, wo_p, wo_n, wo_call, onO_s, onN_s, ble0, ble_self, ble_succ, pv_t, pv_bool, put_some, pevP, pevN, getP, setP, evsP, boxP, PW.push, PW.none, Option.map_some, Nat.zero_le, true_and, Nat.reduceAdd, Nat.zero_add, resPs, resP, tupP])
    refine .refl (PFun.to (hw) rfl (POps.wp ?_))
    simp only [wo_nil, wo_p, onO_s, pv_t, put_some, pevP, getP, setP]
    repeat (refine PRun.wpn rfl ?_; simp only [wp, wo_r, wo_n, wo_call, onO_s, onN_s, ble0, pv_t, ov_nil, ov_cons, ov_int, ov_str, ov_nilS, put_some, pevR, pevN, getP, setP, evsP, fillP, spliceP, overP, look, PW.cs?, PW.push, cut0, cutS, List.length_cons, List.length_nil, List.drop_zero, Option.map_some, Option.bind_some, Nat.zero_le, true_and, Bool.and_true, ↓reduceIte, reduceCtorEq, ltL, lt, Nat.reduceAdd, Nat.reduceEqDiff, Nat.zero_add, List.length_cons, List.length_nil])
    refine Gh.frz 3 rfl rfl rfl ?_
    simp only [List.drop_zero, ↓reduceIte, reduceCtorEq, Nat.reduceEqDiff, frzL, frzP, frzO, frzH, Nat.le_refl]
    refine .refl (PFun.to (hmu) rfl (POps.wp ?_))
    simp only [wo_nil, wo_p, onO_s, pv_t, put_some, pevP, getP, setP]
    repeat (refine PRun.wpn rfl ?_; simp only [wp, wo_nil, wo_p, onO_s, pv_t, put_some, pevP, getP, setP, or_true, true_and, ↓reduceIte, reduceCtorEq])
    exact .refl ⟨_, rfl, .refl _⟩
  obtain ⟨s1, s2, s3⟩ := much3 (Nat.le_of_not_lt hmm)
  rw [yes_f hmm] at hmu
  have ca := cmp_ok hm hC f.size f g (Nat.le_refl _) (by omega) (by omega)
  have cb := cmp_ok hm hC g.size g h (Nat.le_refl _) (by omega) (by omega)
  have cc := cmp_ok hm hC f.size f h (Nat.le_refl _) (by omega) (by omega)
  have htr := cmp_tr f g h
  have heq : f.cmp g = 0 → f = g := cmp_eq f g
  have z1 := size_ok hm hC f.size f (Nat.le_refl _) (by omega)
  have z2 := depth_ok hm hC f.size f (Nat.le_refl _) (by omega)
  have z3 := right_ok hm hC hG0 f of pf (by omega)
  have z4 := names_ok hm hC hI hIs f (by omega)
  clear hmm s1 s2 s3
  by_cases hfg : f = g
  · subst hfg
    have haa := cmp_refl f
    rw [haa] at ca htr
    have hbc : True := trivial
    generalize f.cmp h = b at *
    generalize f.size = sz at *
    generalize f.depth = dp at *
    generalize rightE futB f = rt at *
    generalize f.names itS = nms at *
    obtain ⟨o1, n1, k1⟩ := f
    obtain ⟨o3, n3, k3⟩ := h
    simp only [fP, fC, fL, List.cons_append, List.nil_append, List.length_cons, List.length_nil, Nat.reduceAdd] at hmu ca cb cc z1 z2 z3 z4
    refine PTop.body (show Tryz.tab.get 10 = some Tryz.c10 from rfl) ?_
    simp only [Tryz.c10, startP, List.length_cons, List.length_nil, Nat.reduceAdd, Nat.reduceSub, List.replicate, List.cons_append, List.nil_append, fP, fC]
    repeat (refine PRun.wpn rfl ?_; simp only [wp, wo_nil, wo_p, wo_n, wo_call, onO_s, onN_s, ble0, ble_self, ble_succ, pv_t, pv_bool, put_some, pevP, pevN, getP, setP, evsP, boxP, PW.push, PW.none, Option.map_some, Nat.zero_le, true_and, Nat.reduceAdd, Nat.zero_add, resPs, resP, tupP])
    refine .refl (PFun.to (hw) rfl (POps.wp ?_))
    simp only [wo_nil, wo_p, onO_s, pv_t, put_some, pevP, getP, setP]
    repeat (refine PRun.wpn rfl ?_; simp only [wp, wo_r, wo_n, wo_call, onO_s, onN_s, ble0, pv_t, ov_nil, ov_cons, ov_int, ov_str, ov_nilS, put_some, pevR, pevN, getP, setP, evsP, fillP, spliceP, overP, look, PW.cs?, PW.push, cut0, cutS, List.length_cons, List.length_nil, List.drop_zero, Option.map_some, Option.bind_some, Nat.zero_le, true_and, Bool.and_true, ↓reduceIte, reduceCtorEq, ltL, lt, Nat.reduceAdd, Nat.reduceEqDiff, Nat.zero_add, List.length_cons, List.length_nil])
    refine Gh.frz 3 rfl rfl rfl ?_
    simp only [List.drop_zero, ↓reduceIte, reduceCtorEq, Nat.reduceEqDiff, frzL, frzP, frzO, frzH, Nat.le_refl]
    refine .refl (PFun.to (hmu) rfl (POps.wp ?_))
    simp only [wo_nil, wo_p, onO_s, pv_t, put_some, pevP, getP, setP]
    repeat (refine PRun.wpn rfl ?_; simp only [wp, wo_nil, wo_p, wo_r, wo_call, onO_s, pv_t, put_some, pevP, pevR, getP, setP, evsP, look, PW.cs?, cut0, cutS, List.drop_zero, Option.map_some, Option.bind_some, Nat.zero_le, true_and, ↓reduceIte, reduceCtorEq, Nat.reduceEqDiff, Bool.false_eq_true])
    refine .refl (PFun.to (ca) rfl (POps.wp ?_))
    simp only [wo_nil, wo_p, onO_s, pv_t, put_some, pevP, getP, setP]
    repeat (refine PRun.wpn rfl ?_; simp only [wp, wo_r, wo_call, onO_s, pv_t, put_some, pevR, getP, setP, evsP, look, PW.cs?, cut0, cutS, List.drop_zero, Option.map_some, Option.bind_some, Nat.zero_le, true_and, ↓reduceIte, Nat.reduceEqDiff])
    refine .refl (PFun.to (cb) rfl (POps.wp ?_))
    simp only [wo_nil, wo_p, onO_s, pv_t, put_some, pevP, getP, setP]
    repeat (refine PRun.wpn rfl ?_; simp only [wp, wo_r, wo_call, onO_s, pv_t, put_some, pevR, getP, setP, evsP, look, PW.cs?, cut0, cutS, List.drop_zero, Option.map_some, Option.bind_some, Nat.zero_le, true_and, ↓reduceIte, reduceCtorEq])
    refine .refl (PFun.to (cc) rfl (POps.wp ?_))
    simp only [wo_nil, wo_p, onO_s, pv_t, put_some, pevP, getP, setP]
    obtain ⟨_, g1, g2, g3, g4, g5, g6⟩ | ⟨_, g1, g2, g3, g4, g5, g6⟩ | ⟨_, g1, g2, g3, g4, g5, g6⟩ := sgn 0
    · omega
    rotate_left
    · omega
    obtain ⟨_, b1, b2, b3, b4, b5, b6⟩ | ⟨_, b1, b2, b3, b4, b5, b6⟩ | ⟨_, b1, b2, b3, b4, b5, b6⟩ := sgn b
    all_goals
      repeat (refine PRun.wpn rfl ?_; simp only [wp, wo_nil, wo_p, wo_r, wo_call, wo_g, beq_self_eq_true, onO_s, onG_t, onG_f, wanted_g, wantB_b, wantB_u, b_ft, pv_t, pv_int, pv_bool, put_some, bi_eql, bi_neq, bi_lss, bi_leq, bi_gtr, bi_geq, pevP, pevR, getP, setP, evsP, look, PW.cs?, cut0, cutS, List.drop_zero, Option.map_some, Option.bind_some, Nat.zero_le, true_and, ↓reduceIte, reduceCtorEq, Bool.false_eq_true, b1, b2, b3, b4, b5, g1, g2, g6])
      refine .refl (PFun.to (z4) rfl (POps.wp ?_))
      simp only [wo_nil, wo_p, onO_s, pv_t, put_some, pevP, getP, setP]
      repeat (refine PRun.wpn rfl ?_; simp only [wp, wo_r, wo_call, onO_s, pv_t, put_some, pevR, getP, setP, evsP, look, PW.cs?, cut0, cutS, List.drop_zero, Option.map_some, Option.bind_some, Nat.zero_le, true_and, ↓reduceIte, Nat.reduceEqDiff])
      refine .refl (PFun.to (z4) rfl (POps.wp ?_))
      simp only [wo_nil, wo_p, onO_s, pv_t, put_some, pevP, getP, setP]
      repeat (refine PRun.wpn rfl ?_; simp only [wp])
      refine PDraw.stage (Nat.zero_le _) rfl ?_
      try dsimp only
      simp only [beq_self_eq_true, wanted_g, wantB_b, onX_s, onXG_t, onXI_s, rdX_e, ltN, ltD_s, onD_s, onDG_t, wx_nil, wx_cons, wx_p, wx_r, wx_g, wd_cons, wd_e, wd_g, pv_t, put_some, bi_eql, pevP, pevR, getP, setP, nthO, look, PW.cs?, cut0, cutS, baseP, ROp.base, List.length_cons, List.length_nil, List.drop_zero, Option.map_some, Option.bind_some, Bool.and_true, ↓reduceIte, reduceCtorEq, Nat.reduceAdd, Nat.reduceEqDiff, Option.isSome_some, Nat.zero_add, List.length_cons, List.length_nil, eqB_t rfl]
      refine PDE.pure z1 rfl ?_
      refine PDraw.stage (Nat.zero_le _) rfl ?_
      try dsimp only
      simp only [beq_self_eq_true, wanted_g, wantB_b, onD_s, onDG_t, wx_nil, wd_cons, wd_e, wd_g, put_some, getP, setP, nthO]
      refine PDE.pure z1 rfl ?_
      refine PDraw.stage (Nat.zero_le _) rfl ?_
      try dsimp only
      simp only [beq_self_eq_true, wanted_g, wantB_b, onX_s, onXG_t, onXI_s, rdX_e, ltN, ltD_s, onD_s, onDG_t, wx_nil, wx_cons, wx_p, wx_r, wx_g, wd_cons, wd_e, wd_g, pv_t, put_some, bi_eql, pevP, pevR, getP, setP, nthO, look, PW.cs?, cut0, cutS, baseP, ROp.base, List.length_cons, List.length_nil, List.drop_zero, Option.map_some, Option.bind_some, Bool.and_true, ↓reduceIte, reduceCtorEq, Nat.reduceAdd, Nat.reduceEqDiff, Option.isSome_some, Nat.zero_add, List.length_cons, List.length_nil, eqB_t rfl]
      refine PDE.pure z2 rfl ?_
      refine PDraw.stage (Nat.zero_le _) rfl ?_
      try dsimp only
      simp only [beq_self_eq_true, wanted_g, wantB_b, onD_s, onDG_t, wx_nil, wd_cons, wd_e, wd_g, put_some, getP, setP, nthO]
      refine PDE.pure z2 rfl ?_
      refine PDraw.stage (Nat.zero_le _) rfl ?_
      try dsimp only
      simp only [beq_self_eq_true, wanted_g, wantB_b, onX_s, onXG_t, onXI_s, rdX_e, ltN, ltD_s, onD_s, onDG_t, wx_nil, wx_cons, wx_p, wx_r, wx_g, wd_cons, wd_e, wd_g, pv_t, put_some, bi_eql, pevP, pevR, getP, setP, nthO, look, PW.cs?, cut0, cutS, baseP, ROp.base, List.length_cons, List.length_nil, List.drop_zero, Option.map_some, Option.bind_some, Bool.and_true, ↓reduceIte, reduceCtorEq, Nat.reduceAdd, Nat.reduceEqDiff, Option.isSome_some, Nat.zero_add, List.length_cons, List.length_nil, eqB_t rfl]
      refine PDE.pure z3 rfl ?_
      refine PDraw.stage (Nat.zero_le _) rfl ?_
      try dsimp only
      simp only [beq_self_eq_true, wanted_g, wantB_b, onD_s, onDG_t, wx_nil, wd_cons, wd_e, wd_g, put_some, getP, setP, nthO]
      refine PDE.pure z3 rfl ?_
      refine PDraw.last (Nat.zero_le _) rfl ?_
      try dsimp only
      simp only [beq_self_eq_true, wanted_g, wantB_b, onX_s, onXG_t, onXI_s, wx_nil, wx_cons, wx_p, wx_g, pv_t, put_some, bi_eql, pevP, getP, setP, nthO, Option.map_some, eqB_t rfl]
      repeat (refine PRun.wpn rfl ?_; simp only [wp, or_true, true_and, reduceCtorEq])
      exact .refl ⟨_, rfl, .refl _⟩
  · have hne : ¬ f.cmp g = 0 := fun h => hfg (heq h)
    clear heq hfg z1 z2 z3 z4
    generalize f.cmp g = a at *
    generalize g.cmp h = b at *
    generalize f.cmp h = c at *
    obtain ⟨o1, n1, k1⟩ := f
    obtain ⟨o2, n2, k2⟩ := g
    obtain ⟨o3, n3, k3⟩ := h
    simp only [fP, fC, fL, List.cons_append, List.nil_append, List.length_cons, List.length_nil, Nat.reduceAdd] at hmu ca cb cc
    refine PTop.body (show Tryz.tab.get 10 = some Tryz.c10 from rfl) ?_
    simp only [Tryz.c10, startP, List.length_cons, List.length_nil, Nat.reduceAdd, Nat.reduceSub, List.replicate, List.cons_append, List.nil_append, fP, fC]
    repeat (refine PRun.wpn rfl ?_; simp only [wp, wo_nil, wo_p, wo_n, wo_call, onO_s, onN_s, ble0, ble_self, ble_succ, pv_t, pv_bool, put_some, pevP, pevN, getP, setP, evsP, boxP, PW.push, PW.none, Option.map_some, Nat.zero_le, true_and, Nat.reduceAdd, Nat.zero_add, resPs, resP, tupP])
    refine .refl (PFun.to (hw) rfl (POps.wp ?_))
    simp only [wo_nil, wo_p, onO_s, pv_t, put_some, pevP, getP, setP]
    repeat (refine PRun.wpn rfl ?_; simp only [wp, wo_r, wo_n, wo_call, onO_s, onN_s, ble0, pv_t, ov_nil, ov_cons, ov_int, ov_str, ov_nilS, put_some, pevR, pevN, getP, setP, evsP, fillP, spliceP, overP, look, PW.cs?, PW.push, cut0, cutS, List.length_cons, List.length_nil, List.drop_zero, Option.map_some, Option.bind_some, Nat.zero_le, true_and, Bool.and_true, ↓reduceIte, reduceCtorEq, ltL, lt, Nat.reduceAdd, Nat.reduceEqDiff, Nat.zero_add, List.length_cons, List.length_nil])
    refine Gh.frz 3 rfl rfl rfl ?_
    simp only [List.drop_zero, ↓reduceIte, reduceCtorEq, Nat.reduceEqDiff, frzL, frzP, frzO, frzH, Nat.le_refl]
    refine .refl (PFun.to (hmu) rfl (POps.wp ?_))
    simp only [wo_nil, wo_p, onO_s, pv_t, put_some, pevP, getP, setP]
    repeat (refine PRun.wpn rfl ?_; simp only [wp, wo_nil, wo_p, wo_r, wo_call, onO_s, pv_t, put_some, pevP, pevR, getP, setP, evsP, look, PW.cs?, cut0, cutS, List.drop_zero, Option.map_some, Option.bind_some, Nat.zero_le, true_and, ↓reduceIte, reduceCtorEq, Nat.reduceEqDiff, Bool.false_eq_true])
    refine .refl (PFun.to (ca) rfl (POps.wp ?_))
    simp only [wo_nil, wo_p, onO_s, pv_t, put_some, pevP, getP, setP]
    repeat (refine PRun.wpn rfl ?_; simp only [wp, wo_r, wo_call, onO_s, pv_t, put_some, pevR, getP, setP, evsP, look, PW.cs?, cut0, cutS, List.drop_zero, Option.map_some, Option.bind_some, Nat.zero_le, true_and, ↓reduceIte, Nat.reduceEqDiff])
    refine .refl (PFun.to (cb) rfl (POps.wp ?_))
    simp only [wo_nil, wo_p, onO_s, pv_t, put_some, pevP, getP, setP]
    repeat (refine PRun.wpn rfl ?_; simp only [wp, wo_r, wo_call, onO_s, pv_t, put_some, pevR, getP, setP, evsP, look, PW.cs?, cut0, cutS, List.drop_zero, Option.map_some, Option.bind_some, Nat.zero_le, true_and, ↓reduceIte, reduceCtorEq])
    refine .refl (PFun.to (cc) rfl (POps.wp ?_))
    simp only [wo_nil, wo_p, onO_s, pv_t, put_some, pevP, getP, setP]
    obtain ⟨a0, a1, a2, a3, a4, a5, a6⟩ | ⟨a0, a1, a2, a3, a4, a5, a6⟩ | ⟨a0, a1, a2, a3, a4, a5, a6⟩ := sgn a <;> obtain ⟨b0, b1, b2, b3, b4, b5, b6⟩ | ⟨b0, b1, b2, b3, b4, b5, b6⟩ | ⟨b0, b1, b2, b3, b4, b5, b6⟩ := sgn b <;> obtain ⟨c0, c1, c2, c3, c4, c5, c6⟩ | ⟨c0, c1, c2, c3, c4, c5, c6⟩ | ⟨c0, c1, c2, c3, c4, c5, c6⟩ := sgn c
    all_goals first
      | (exfalso; unfold TR at htr; omega)
      | skip
    all_goals
      repeat (refine PRun.wpn rfl ?_; simp only [wp, wo_nil, wo_p, wo_g, beq_self_eq_true, onO_s, onG_t, onG_f, wanted_g, wantB_b, wantB_u, b_tf, b_ft, pv_t, pv_int, pv_bool, put_some, bi_eql, bi_neq, bi_lss, bi_leq, bi_gtr, bi_geq, pevP, getP, setP, Option.map_some, or_true, true_and, ↓reduceIte, reduceCtorEq, Bool.false_eq_true, a1, a2, a4, a5, a6, b2, b5, c1, c3, c4])
      exact .refl ⟨_, rfl, .refl _⟩
end
end Go.Proofs.YtnpoloachkcadaaGreatDoor.Ai
