/- A PART OF THE PROOF: a step of the proof that the law's code does what its contracts say, by an interpreter of the program's functions that is proved to be sound. -/
import Derived.Test.YtnpoloachkcadaaGreatDoorTqA
import Derived.Test.YtnpoloachkcadaaGreatDoorPv3
import Derived.ChangeArms
import Derived.DataReads
namespace Go.Proofs.YtnpoloachkcadaaGreatDoor.Ai
open Go
set_option linter.unusedSimpArgs false
set_option linter.unusedVariables false
set_option linter.unusedSectionVars false
/-! ### arguments that are formulas -/
/-- how a formula lies in memory -/
structure FmT (P : Program) (tO : TypeId) : Prop where
  u27 : ∃ fs : Array Field, P.underlying 27 = some (.struct fs) ∧ fs.size = 3 ∧ fs.toList.map (·.type) = [tO, 9, 25] ∧ (∃ f, fs[0]? = some f ∧ f.type = tO ∧ f.offset = 0) ∧ (∃ f, fs[1]? = some f ∧ f.type = 9 ∧ f.offset = 1) ∧ (∃ f, fs[2]? = some f ∧ f.type = 25 ∧ f.offset = 2)
  uO : P.underlying tO = some (.int .u8)
  u9 : P.underlying 9 = some .string
  u25 : P.underlying 25 = some (.slice 27)
  c27 : P.cellsOf 27 = 3
  cO : P.cellsOf tO = 1
  c9 : P.cellsOf 9 = 1
  c25 : P.cellsOf 25 = 1
  b27 : 0 < P.bytesOf 27
section
variable {H : Type} {enc : TypeId × Value → H} {P : Program} {ng : Nat} {ts : List TypeId} {W : World} {tO : TypeId}
/-- these cells open as these values, whatever is in sight already -/
def OpenAny (P : Program) (ng : Nat) (ts : List TypeId) (W : World) (vs : List Value) (ps : List PV) : Prop :=
  ∀ σ μ I, Op P ng ts W σ μ I → Opens P ng ts W σ μ I vs ps
theorem OpenAny.nil : OpenAny P ng ts W [] [] := fun σ μ I h => ⟨σ, μ, I, [], h, .refl, rfl, by simp [RdL], rfl⟩
theorem OpenAny.append {vs ws : List Value} {ps qs : List PV} (h : OpenAny P ng ts W vs ps) (k : OpenAny P ng ts W ws qs) : OpenAny P ng ts W (vs ++ ws) (ps ++ qs) := by
  intro σ μ I ho
  obtain ⟨σ1, μ1, I1, us1, o1, l1, c1, r1, t1⟩ := h σ μ I ho
  obtain ⟨σ2, μ2, I2, us2, o2, l2, c2, r2, t2⟩ := k σ1 μ1 I1 o1
  refine ⟨σ2, μ2, I2, us1 ++ us2, o2, l1.trans l2, ?_, (r1.mono l2.i (Eta.le_refl _)).append r2, ltL_append.2 ⟨ltL_mono l2.n _ t1, t2⟩⟩
  rw [concL_app, c2, concL_congr l2.m us1 t1, c1]
theorem OpenAny.lit {u : Value} (h : lt 0 u = true) : OpenAny P ng ts W [u] [.lit u] := fun σ μ I ho =>
  ⟨σ, μ, I, [u], ho, .refl, by simp [concL, conc_zero _ _ h], by simp only [RdL]; exact ⟨rd_mk h, trivial⟩, by simp [ltL, lt_mono (Nat.zero_le _) _ h]⟩
theorem Addr.add_none {b o : Nat} (j : Nat) : (⟨b, o, none⟩ : Addr).add j = ⟨b, o + j, none⟩ := by
  unfold Addr.add
  split
  · rename_i h; subst h; rfl
  · rfl
theorem cells3 {w : World} {a : Addr} {row : List Value} (hs : a.spot = none) (h : w.cells? 0 a 3 = some row) : ∃ C t fr, w.heap[a.block]? = some (.cells C t fr) ∧ row = (C.toList.drop a.off).take 3 ∧ a.off + 3 ≤ C.size := by
  obtain ⟨b, o, s⟩ := a
  simp only at hs; subst hs
  unfold World.cells? at h
  rw [if_pos (Nat.zero_le _)] at h
  have e : List.range 3 = [0, 1, 2] := rfl
  rw [e] at h
  simp only [List.mapM_cons, List.mapM_nil, Option.bind_eq_bind, Option.bind_eq_some_iff] at h
  obtain ⟨v0, h0, r0, ⟨v1, h1, r1, ⟨v2, h2, r2, h3, h4⟩, h5⟩, h6⟩ := h
  simp at h3 h4 h5 h6
  subst h3 h4 h5 h6
  obtain ⟨C, t, fr, hC, g0⟩ := cell_at (W := w) (a := ⟨b, o, none⟩) rfl h0
  obtain ⟨C1, t1, fr1, hC1, g1⟩ := cell_at (W := w) (a := ⟨b, o, none⟩) rfl h1
  obtain ⟨C2, t2, fr2, hC2, g2⟩ := cell_at (W := w) (a := ⟨b, o, none⟩) rfl h2
  simp only at hC hC1 hC2 g0 g1 g2
  rw [hC] at hC1 hC2
  simp only [Option.some.injEq, Obj.cells.injEq] at hC1 hC2
  obtain ⟨rfl, _⟩ := hC1
  obtain ⟨rfl, _⟩ := hC2
  have q0 := Array.getElem?_eq_some_iff.1 g0
  have q1 := Array.getElem?_eq_some_iff.1 g1
  have q2 := Array.getElem?_eq_some_iff.1 g2
  obtain ⟨l2, e2⟩ := q2
  obtain ⟨l1, e1⟩ := q1
  obtain ⟨l0, e0⟩ := q0
  refine ⟨C, t, fr, hC, ?_, by show o + 3 ≤ C.size; omega⟩
  show [v0, v1, v2] = (C.toList.drop o).take 3
  have d0 := List.drop_eq_getElem_cons (l := C.toList) (i := o) (by simp; omega)
  have d1 := List.drop_eq_getElem_cons (l := C.toList) (i := o + 1) (by simp; omega)
  have d2 := List.drop_eq_getElem_cons (l := C.toList) (i := o + 1 + 1) (by simp; omega)
  rw [d0, d1, d2]
  simp only [List.take_succ_cons, List.take_zero, Array.getElem_toList]
  rw [← e0, ← e1, ← e2]
  rfl
theorem rows_flat (l : List Value) : ∀ n, (((List.range n).map fun i => (l.drop (i * 3)).take 3).flatten) = l.take (n * 3)
  | 0 => by simp
  | n + 1 => by
    rw [List.range_succ, List.map_append, List.flatten_append, rows_flat l n]
    simp only [List.map_cons, List.map_nil, List.flatten_cons, List.flatten_nil, List.append_nil]
    rw [show (n + 1) * 3 = n * 3 + 3 by omega, List.take_add]
theorem rows_open : ∀ {rows : List (List Value)}, (∀ r ∈ rows, ∃ f : Fm, f.ok ∧ f.opsOK ∧ OpenAny P ng ts W r (fC f)) → ∃ gs : List Fm, gs.length = rows.length ∧ oks gs ∧ opsOKs gs ∧ OpenAny P ng ts W rows.flatten (fL gs)
  | [], _ => ⟨[], rfl, trivial, trivial, by simpa [fL] using OpenAny.nil⟩
  | r :: rows, h => by
    obtain ⟨f, h1, h2, h3⟩ := h r (by simp)
    obtain ⟨gs, g1, g2, g3, g4⟩ := rows_open (rows := rows) fun x hx => h x (by simp [hx])
    exact ⟨f :: gs, by simp [g1], ⟨h1, g2⟩, ⟨h2, g3⟩, by simp only [List.flatten_cons, fL]; exact h3.append g4⟩
theorem oks_takeR {ks : List Fm} (h : opsOKs ks) (i : Nat) : opsOKs (ks.take i) := by
  induction ks generalizing i with
  | nil => simp [opsOKs]
  | cons x ks ih => cases i with
    | zero => simp [opsOKs]
    | succ i => exact ⟨h.1, ih h.2 i⟩
theorem mem_weights {P : Program} {t : TypeId} {H : Type} {d : DataW H} {m : Nat} (hm : m ∈ d.weights P t) : ∀ {l : List (DataW H)}, d ∈ l → m ∈ DataW.weightsAll P t l
  | [], h => by simp at h
  | x :: l, h => by
    simp only [DataW.weightsAll, List.mem_append]
    rcases List.mem_cons.1 h with rfl | h
    · exact .inl hm
    · exact .inr (mem_weights hm h)
theorem kids_open (T : FmT P tO) (hb : ∃ (b : Nat) (C : Array Value) (t : TypeId) (fr : Nat × Nat), W.heap[b]? = some (.cells C t fr)) {fuel : Nat} (ih : ∀ n, n < fuel → ∀ cs x, DataW.trod enc P W 0 (fun _ => true) true n 27 cs = some x → (∀ m ∈ x.1.weights P 27, m ≤ reachBytes) → ∃ f : Fm, f.ok ∧ f.opsOK ∧ OpenAny P ng ts W cs (fC f))
    {v : Value} {x : DataW H × List MemPlace} (h : DataW.trod enc P W 0 (fun _ => true) true fuel 25 [v] = some x) (hw : ∀ m ∈ x.1.weights P 25, m ≤ reachBytes) : ∃ ks : List Fm, ks.length < 2 ^ 50 ∧ oks ks ∧ opsOKs ks ∧ OpenAny P ng ts W [v] [.sz (fL ks) ks.length] := by
  rcases DataW.trod_slice T.u25 h with ⟨h1, _⟩ | ⟨a, len, cap, elems, rest, n, rfl, h1, hx, _, hlc, hcap, hel, hE, hR, _⟩
  · simp at h1; subst h1
    refine ⟨[], by simp, trivial, trivial, fun σ μ I ho => ⟨σ, μ, I, [.slice none 0 0], ho, .refl, by simp [concL, conc], by simp only [RdL]; exact ⟨by simp [Rd], trivial⟩, by simp [ltL, lt]⟩⟩
  · simp at h1; subst h1
    have hreach : reachBytes < 2 ^ 50 := by decide
    by_cases hc0 : cap = 0
    · have hl0 : len = 0 := by omega
      subst hc0 hl0
      refine ⟨[], by simp, trivial, trivial, fun σ μ I ho => ?_⟩
      obtain ⟨b0, C, t, fr, hC⟩ := hb
      obtain ⟨o1, l1⟩ := ho.skip ⟨a.block, 0, 0⟩
      obtain ⟨o2, l2⟩ := o1.add (blk := b0) (off := 0) (us := []) rfl ⟨C, t, fr, hC, by simp, fun k v hk => by simp at hk⟩
      refine ⟨_, _, _, [.slice (some ⟨σ.next, a.off, a.spot⟩) 0 0], o2, l1.trans l2, ?_, ?_, ?_⟩
      · have hμ : upd (upd μ σ.next ⟨a.block, 0, 0⟩) σ.bump.next ⟨b0, 0, 0⟩ σ.next = ⟨a.block, 0, 0⟩ := by
          rw [l2.m σ.next (Nat.lt_succ_self _), upd_same]
        simp only [concL, conc, cAddr, hμ, Nat.zero_add, Nat.add_zero]
      · simp only [RdL, Rd]
        exact ⟨.inl ⟨rfl, .inr ⟨_, σ.bump.next, [], rfl, Nat.le_succ _, by simp [Img.set]⟩⟩, trivial⟩
      · simp [ltL, lt]; exact Nat.lt_succ_of_lt (Nat.lt_succ_self _)
    · -- the rows
      have hrow : ∀ i, i < cap → ∃ row x', W.cells? 0 (a.add (i * 3)) 3 = some row ∧ DataW.trod enc P W 0 (fun _ => true) true n 27 row = some x' ∧ ∀ m ∈ x'.1.weights P 27, m ≤ reachBytes := by
        intro i hi
        rw [T.c27] at hE
        obtain ⟨hr1, hr2⟩ := hR rfl
        rw [T.c27] at hr2
        by_cases hil : i < len
        · have h2 := hE i hil
          rw [List.getElem?_eq_getElem (by omega), Option.bind_eq_some_iff] at h2
          obtain ⟨row, h3, h4⟩ := h2
          exact ⟨row, _, h3, h4, fun m hm => hw m (by
            rw [hx]; simp only [DataW.weights, T.u25, List.mem_cons, List.mem_append]
            exact .inr (.inl (mem_weights hm (List.mem_map_of_mem (List.getElem_mem _)))))⟩
        · have h2 := hr2 (i - len) (by omega)
          rw [List.getElem?_eq_getElem (by omega), Option.bind_eq_some_iff] at h2
          obtain ⟨row, h3, h4⟩ := h2
          rw [show len + (i - len) = i by omega] at h3
          exact ⟨row, _, h3, h4, fun m hm => hw m (by
            rw [hx]; simp only [DataW.weights, T.u25, List.mem_cons, List.mem_append]
            exact .inr (.inr (mem_weights hm (List.mem_map_of_mem (List.getElem_mem _)))))⟩
      have hsp : a.spot = none := by
        obtain ⟨row, _, h3, _, _⟩ := hrow 0 (by omega)
        unfold World.cells? at h3
        rw [if_pos (Nat.zero_le _)] at h3
        have e : List.range 3 = [0, 1, 2] := rfl
        rw [e] at h3
        simp only [List.mapM_cons, Option.bind_eq_bind, Option.bind_eq_some_iff] at h3
        obtain ⟨v0, h0, _⟩ := h3
        have := World.cell?_spot h0
        simpa [Addr.add] using this
      obtain ⟨b, o, s⟩ := a
      simp only at hsp; subst hsp
      obtain ⟨row0, _, h30, _, _⟩ := hrow 0 (by omega)
      rw [Addr.add_none] at h30
      obtain ⟨C, t, fr, hC, _, _⟩ := cells3 rfl h30
      simp only at hC
      have hrow2 : ∀ i, i < cap → ((C.toList.drop o).drop (i * 3)).take 3 = ((C.toList.drop o).drop (i * 3)).take 3 ∧ o + i * 3 + 3 ≤ C.size ∧ ∃ x', DataW.trod enc P W 0 (fun _ => true) true n 27 (((C.toList.drop o).drop (i * 3)).take 3) = some x' ∧ ∀ m ∈ x'.1.weights P 27, m ≤ reachBytes := by
        intro i hi
        obtain ⟨row, x', h3, h4, h5⟩ := hrow i hi
        rw [Addr.add_none] at h3
        obtain ⟨C', t', fr', hC', he, hs⟩ := cells3 rfl h3
        simp only at hC' he hs
        rw [hC] at hC'
        simp only [Option.some.injEq, Obj.cells.injEq] at hC'
        obtain ⟨rfl, _⟩ := hC'
        refine ⟨rfl, hs, x', ?_, h5⟩
        rw [List.drop_drop, ← he]; exact h4
      obtain ⟨gs, g1, g2, g3, g4⟩ := rows_open (P := P) (ng := ng) (ts := ts) (W := W) (rows := (List.range cap).map fun i => ((C.toList.drop o).drop (i * 3)).take 3) (by
        intro r hr
        simp only [List.mem_map, List.mem_range] at hr
        obtain ⟨i, hi, rfl⟩ := hr
        obtain ⟨_, _, x', hx', hx2⟩ := hrow2 i hi
        exact ih n (Nat.lt_succ_self _) _ _ hx' hx2)
      rw [rows_flat] at g4
      simp at g1
      have hsz := (hrow2 (cap - 1) (by omega)).2.1
      have htl : (gs.take len).length = len := by rw [List.length_take]; omega
      have hlw : len < 2 ^ 50 := by
        have := hw ((elems.length + rest.length) * P.bytesOf 27) (by rw [hx]; simp only [DataW.weights, T.u25, List.length_map, List.mem_cons, true_or])
        have h2 : elems.length + rest.length ≤ (elems.length + rest.length) * P.bytesOf 27 := Nat.le_mul_of_pos_right _ T.b27
        omega
      refine ⟨gs.take len, by rw [htl]; exact hlw, oks_take g2 len, oks_takeR g3 len, fun σ μ I ho => ?_⟩
      obtain ⟨σ1, μ1, I1, us, o1, l1, c1, r1, t1⟩ := g4 σ μ I ho
      have hul : us.length = cap * 3 := by
        have := congrArg List.length c1
        rw [concL_len, List.length_take, List.length_drop] at this
        simp at this; omega
      obtain ⟨o2, l2⟩ := o1.add (blk := b) (off := o) (us := us) t1 ⟨C, t, fr, hC, by omega, fun k v hk => by
        have h1 : (concL μ1 us)[k]? = some (conc μ1 v) := by rw [concL_eq, List.getElem?_map, hk]; rfl
        rw [c1, List.getElem?_take] at h1
        split at h1
        · rw [List.getElem?_drop] at h1; simpa using h1
        · simp at h1⟩
      refine ⟨_, _, _, [.slice (some ⟨σ1.next, 0, none⟩) len cap], o2, l1.trans l2, ?_, ?_, ?_⟩
      · simp [concL, conc, cAddr, upd_same]
      · simp only [RdL, Rd]
        refine ⟨.inr ⟨σ1.next, 0, cap, us, us.take (len * 3), us.drop (len * 3), by rw [htl], by rw [htl]; exact hlc, by simp [Img.set], by simp, ?_⟩, trivial⟩
        have hfl : fL (gs.take len) = (fL gs).take (len * 3) := by
          have e := fL_app (gs.take len) (gs.drop len)
          rw [List.take_append_drop] at e
          rw [e, show len * 3 = (fL (gs.take len)).length by rw [fL_len, htl], List.take_left]
        rw [hfl]
        exact (r1.take _).mono l2.i (Eta.le_refl _)
      · simp [ltL, lt]
theorem fm_open (T : FmT P tO) (hb : ∃ (b : Nat) (C : Array Value) (t : TypeId) (fr : Nat × Nat), W.heap[b]? = some (.cells C t fr)) : ∀ (fuel : Nat) (cs : List Value) (x : DataW H × List MemPlace), DataW.trod enc P W 0 (fun _ => true) true fuel 27 cs = some x → (∀ m ∈ x.1.weights P 27, m ≤ reachBytes) → ∃ f : Fm, f.ok ∧ f.opsOK ∧ OpenAny P ng ts W cs (fC f) := by
  intro fuel
  induction fuel using Nat.strongRecOn with
  | ind fuel ih =>
    intro cs x h hw
    obtain ⟨fs, hu, hfs, hty, ⟨f0, a0, a1, a2⟩, ⟨f1, b0, b1, b2⟩, ⟨f2, c0, c1, c2⟩⟩ := T.u27
    obtain ⟨xs, n, rfl, hx, hl, hxl, hf⟩ := DataW.trod_struct hu h
    rw [T.c27] at hl
    obtain ⟨v0, v1, v2, rfl⟩ : ∃ a b c, cs = [a, b, c] := by
      match cs, hl with
      | [a, b, c], _ => exact ⟨a, b, c, rfl⟩
    have g0 := hf 0 f0 a0
    have g1 := hf 1 f1 b0
    have g2 := hf 2 f2 c0
    rw [a1, a2, T.cO, List.getElem?_eq_getElem (by omega)] at g0
    rw [b1, b2, T.c9, List.getElem?_eq_getElem (by omega)] at g1
    rw [c1, c2, T.c25, List.getElem?_eq_getElem (by omega)] at g2
    simp only [List.drop_zero, List.drop_succ_cons, List.take_succ_cons, List.take_zero] at g0 g1 g2
    obtain ⟨x0, x1, x2, rfl⟩ : ∃ a b c, xs = [a, b, c] := by
      match xs, hxl.trans hfs with
      | [a, b, c], _ => exact ⟨a, b, c, rfl⟩
    simp only [List.getElem_cons_zero, List.getElem_cons_succ] at g0 g1 g2
    obtain ⟨o, hv0, _, hwf⟩ := DataW.trod_int T.uO g0
    obtain ⟨s, hv1, hx1, hs⟩ := DataW.trod_string T.u9 g1
    have hwx : ∀ m, m ∈ x1.1.weights P 9 ∨ m ∈ x2.1.weights P 25 → m ≤ reachBytes := fun m hm => hw m (by
      rw [hx]
      simp only [DataW.weights, hu, hty, List.map_cons, List.map_nil, DataW.weightsEach, List.mem_append]
      rcases hm with hm | hm
      · exact .inr (.inl hm)
      · exact .inr (.inr (.inl hm)))
    have hsz : s.size ≤ reachBytes := by
      have := hwx s.data.toList.length (.inl (by rw [hx1]; simp [DataW.weights]))
      rwa [ba_size] at this
    simp at hv0 hv1
    subst hv0 hv1
    have hreach : reachBytes < 2 ^ 50 := by decide
    obtain ⟨ks, k1, k2, k3, k4⟩ := kids_open (ng := ng) (ts := ts) T hb (fuel := n) (fun m hm cs x hx hy => ih m (by omega) cs x hx hy) g2 (fun m hm => hwx m (.inr hm))
    have ho : 0 ≤ o ∧ o < 256 := by
      simp [Lit.wf, IntKind.min, IntKind.max, IntKind.signed, IntKind.bits] at hwf
      omega
    refine ⟨.mk o.toNat s ks, ⟨by omega, k1, k2⟩, ⟨by omega, k3⟩, ?_⟩
    have e : fC (.mk o.toNat s ks) = [.lit (.int .u8 o)] ++ ([.lit (.string s)] ++ [.sz (fL ks) ks.length]) := by
      simp only [fC, List.cons_append, List.nil_append]
      rw [Int.toNat_of_nonneg ho.1]
    rw [e]
    exact (OpenAny.lit (by simp [lt])).append ((OpenAny.lit (by simp [lt])).append k4)
end
end Go.Proofs.YtnpoloachkcadaaGreatDoor.Ai

namespace Go.Proofs.YtnpoloachkcadaaGreatDoor.Ai
open Go
set_option linter.unusedSimpArgs false
set_option linter.unusedVariables false
set_option linter.unusedSectionVars false
/-! ### Cmp is an order -/
/-- what three signs of an order have in common -/
def TR (a b c : Int) : Prop := (a ≤ 0 → b ≤ 0 → c ≤ 0 ∧ (a < 0 ∨ b < 0 → c < 0)) ∧ (0 ≤ a → 0 ≤ b → 0 ≤ c ∧ (0 < a ∨ 0 < b → 0 < c))
theorem TR.or {a b c a' b' c' : Int} (h : TR a b c) (k : a = 0 → b = 0 → c = 0 → TR a' b' c') : TR (orZ a a') (orZ b b') (orZ c c') := by
  have e : ∀ x y : Int, (x = 0 ∧ orZ x y = y) ∨ (x ≠ 0 ∧ orZ x y = x) := by
    intro x y
    unfold orZ
    by_cases hx : x = 0
    · exact .inl ⟨hx, by simp [neB_iff, hx]⟩
    · exact .inr ⟨hx, by simp [neB_iff, hx]⟩
  rcases e a a' with ⟨h1, e1⟩ | ⟨h1, e1⟩ <;> rcases e b b' with ⟨h2, e2⟩ | ⟨h2, e2⟩ <;> rcases e c c' with ⟨h3, e3⟩ | ⟨h3, e3⟩ <;> rw [e1, e2, e3]
  · exact k h1 h2 h3
  all_goals (unfold TR at *; omega)
theorem cmpZ_tr (a b c : Int) : TR (cmpZ a b) (cmpZ b c) (cmpZ a c) := by
  unfold cmpZ TR
  simp only [ltB_iff]
  repeat' split
  all_goals simp <;> omega
theorem cmpB_tr : ∀ a b c : List UInt8, TR (Go.Lib.compareBytes a b) (Go.Lib.compareBytes b c) (Go.Lib.compareBytes a c)
  | [], [], [] => by simp [Go.Lib.compareBytes, TR]
  | [], [], _ :: _ => by simp [Go.Lib.compareBytes, TR]
  | [], _ :: _, [] => by simp [Go.Lib.compareBytes, TR]
  | _ :: _, [], [] => by simp [Go.Lib.compareBytes, TR]
  | _ :: _, _ :: _, [] => by simp only [Go.Lib.compareBytes, TR]; omega
  | [], _ :: _, _ :: _ => by simp only [Go.Lib.compareBytes, TR]; omega
  | _ :: _, [], _ :: _ => by simp [Go.Lib.compareBytes, TR]
  | a :: as, b :: bs, c :: cs => by
    have ih := cmpB_tr as bs cs
    simp only [Go.Lib.compareBytes, UInt8.lt_iff_toNat_lt]
    unfold TR at *
    repeat' split
    all_goals first | omega | simp_all
theorem cmpB_eq : ∀ {a b : List UInt8}, Go.Lib.compareBytes a b = 0 → a = b
  | [], [], _ => rfl
  | [], _ :: _, h => by simp [Go.Lib.compareBytes] at h
  | _ :: _, [], h => by simp [Go.Lib.compareBytes] at h
  | a :: as, b :: bs, h => by
    simp only [Go.Lib.compareBytes, UInt8.lt_iff_toNat_lt] at h
    split at h
    · simp at h
    · split at h
      · simp at h
      · have : a = b := UInt8.toNat_inj.1 (by omega)
        rw [this, cmpB_eq h]
theorem cmpZ_eq {a b : Int} (h : cmpZ a b = 0) : a = b := by
  unfold cmpZ at h
  simp only [ltB_iff] at h
  split at h
  · simp at h
  · split at h
    · simp at h
    · omega
theorem orZ_eq {a b : Int} (h : orZ a b = 0) : a = 0 ∧ b = 0 := by
  unfold orZ at h
  by_cases ha : a = 0
  · simp only [neB_iff, ha, ne_eq, not_true_eq_false, if_false] at h
    exact ⟨ha, h⟩
  · simp only [neB_iff, ne_eq, ha, not_false_eq_true, if_true] at h
theorem cmpS_eq {a b : ByteArray} (h : cmpS a b = 0) : a = b := by
  have := cmpB_eq h
  obtain ⟨⟨a⟩⟩ := a; obtain ⟨⟨b⟩⟩ := b
  simp at this; subst this; rfl
mutual
theorem cmp_tr : ∀ f g h : Fm, TR (f.cmp g) (g.cmp h) (f.cmp h)
  | .mk o n ks, .mk o' n' ks', .mk o2 n2 ks2 => by
    simp only [Fm.cmp]
    refine TR.or ?_ ?_
    · exact (cmpZ_tr _ _ _).or fun _ _ _ => TR.or (cmpB_tr _ _ _) fun _ _ _ => cmpZ_tr _ _ _
    · intro h1 h2 _
      have e1 := cmpZ_eq (orZ_eq (orZ_eq h1).2).2
      have e2 := cmpZ_eq (orZ_eq (orZ_eq h2).2).2
      exact cmps_tr ks ks' ks2 (by omega) (by omega)
theorem cmps_tr : ∀ a b c : List Fm, a.length = b.length → b.length = c.length → TR (cmps a b) (cmps b c) (cmps a c)
  | [], [], [], _, _ => by simp [cmps, TR]
  | x :: a, y :: b, z :: c, h1, h2 => by
    simp only [cmps]
    exact (cmp_tr x y z).or fun _ _ _ => cmps_tr a b c (by simpa using h1) (by simpa using h2)
  | [], _ :: _, _, h1, _ => by simp at h1
  | _ :: _, [], _, h1, _ => by simp at h1
  | [], [], _ :: _, _, h2 => by simp at h2
  | _ :: _, _ :: _, [], _, h2 => by simp at h2
end
mutual
theorem cmp_eq : ∀ f g : Fm, f.cmp g = 0 → f = g
  | .mk o n ks, .mk o' n' ks', h => by
    simp only [Fm.cmp] at h
    obtain ⟨h1, h2⟩ := orZ_eq h
    obtain ⟨h3, h4⟩ := orZ_eq h1
    obtain ⟨h5, h6⟩ := orZ_eq h4
    have e1 := cmpZ_eq h3
    have e2 := cmpS_eq h5
    have e3 := cmpZ_eq h6
    have e4 := cmps_eq ks ks' (by omega) h2
    have : o = o' := by omega
    rw [this, e2, e4]
theorem cmps_eq : ∀ a b : List Fm, a.length = b.length → cmps a b = 0 → a = b
  | [], [], _, _ => rfl
  | x :: a, y :: b, h1, h => by
    simp only [cmps] at h
    obtain ⟨h2, h3⟩ := orZ_eq h
    rw [cmp_eq x y h2, cmps_eq a b (by simpa using h1) h3]
  | [], _ :: _, h1, _ => by simp at h1
  | _ :: _, [], h1, _ => by simp at h1
end
theorem orZ_zero {a b : Int} (ha : a = 0) (hb : b = 0) : orZ a b = 0 := by
  subst ha hb
  simp [orZ]
theorem cmpB_refl : ∀ a : List UInt8, Go.Lib.compareBytes a a = 0
  | [] => rfl
  | a :: as => by simp only [Go.Lib.compareBytes, UInt8.lt_iff_toNat_lt, Nat.lt_irrefl, if_false]; exact cmpB_refl as
theorem cmpZ_refl (a : Int) : cmpZ a a = 0 := by
  unfold cmpZ
  simp only [ltB_iff]
  rw [if_neg (by omega), if_neg (by omega)]
mutual
theorem cmp_refl : ∀ f : Fm, f.cmp f = 0
  | .mk o n ks => by
    simp only [Fm.cmp]
    exact orZ_zero (orZ_zero (cmpZ_refl _) (orZ_zero (cmpB_refl _) (cmpZ_refl _))) (cmps_refl ks)
theorem cmps_refl : ∀ a : List Fm, cmps a a = 0
  | [] => by simp [cmps]
  | x :: a => by
    simp only [cmps]
    exact orZ_zero (cmp_refl x) (cmps_refl a)
end
/-! ### what weighs little has few parts -/
mutual
theorem size_wt : ∀ (f : Fm) (d : Nat), f.wt d ≤ 2147483647 → f.size ≤ f.wt d
  | .mk o n ks, d, h => by
    simp only [Fm.wt, Fm.size] at h ⊢
    split at h
    · omega
    · rename_i hd
      rw [if_neg hd]
      have := sizes_wt ks (d + 1) (1 + n.size) h
      omega
theorem sizes_wt : ∀ (ks : List Fm) (d n : Nat), wts d n ks ≤ 2147483647 → n + sizes ks ≤ wts d n ks
  | [], d, n, h => by simp [wts, sizes]
  | k :: ks, d, n, h => by
    simp only [wts, sizes] at h ⊢
    split at h
    · rename_i hn
      rw [if_pos hn]
      have h1 := sizes_wt ks d (n + k.wt d) h
      have h2 := size_wt k d (by omega)
      omega
    · omega
end
end Go.Proofs.YtnpoloachkcadaaGreatDoor.Ai

namespace Go.Proofs.YtnpoloachkcadaaGreatDoor.Ai
open Go
set_option linter.unusedSimpArgs false
set_option linter.unusedVariables false
set_option linter.unusedSectionVars false
/-! ### what stands in a formula -/
structure Sub (x f : Fm) : Prop where
  formed : ∀ tk, f.formed tk → x.formed tk
  size : x.size ≤ f.size
  depth : x.depth ≤ f.depth
  ok : f.ok → x.ok
  ops : f.opsOK → x.opsOK
theorem Sub.refl (f : Fm) : Sub f f := ⟨fun _ h => h, Nat.le_refl _, Nat.le_refl _, id, id⟩
theorem visitss_in (itS : Nat → ByteArray) (p : ByteArray) : ∀ (ks : List Fm) (i : Nat) (y : ByteArray × Fm), y ∈ visitss itS p i ks → ∃ (j : Nat) (k : Fm), ks[j]? = some k ∧ ∃ p', y ∈ k.visits itS p'
  | [], i, y, h => by simp [visitss] at h
  | k :: ks, i, y, h => by
    simp only [visitss, List.mem_append] at h
    rcases h with h | h
    · exact ⟨0, k, rfl, _, h⟩
    · obtain ⟨j, k', h1, h2⟩ := visitss_in itS p ks (i + 1) y h
      exact ⟨j + 1, k', by simpa using h1, h2⟩
theorem sub_visits (itS : Nat → ByteArray) : ∀ (n : Nat) (f : Fm), f.size ≤ n → ∀ (p : ByteArray) (y : ByteArray × Fm), y ∈ f.visits itS p → Sub y.2 f ∧ (y = (p, f) ∨ (y.2.size < f.size ∧ y.2.depth < f.depth)) := by
  intro n
  induction n with
  | zero => intro f h; have := f.size_pos; omega
  | succ n ih =>
    intro f hn p y hy
    obtain ⟨o, nm, ks⟩ := f
    simp only [Fm.visits, List.mem_cons] at hy
    rcases hy with rfl | hy
    · exact ⟨.refl _, .inl rfl⟩
    · obtain ⟨j, k, h1, p', h2⟩ := visitss_in itS p ks 0 y hy
      have hs := size_kid h1
      have hd : k.depth ≤ depths ks := by
        have h3 := depths_take h1
        have h4 := depths_le ks (j + 1)
        omega
      simp only [Fm.size] at hn ⊢
      simp only [Fm.depth]
      obtain ⟨g1, g2⟩ := ih k (by omega) p' y h2
      have a := g1.size
      have b := g1.depth
      refine ⟨⟨fun tk h => g1.formed tk (formeds_iff.1 (by simp only [Fm.formed] at h; exact h.2.2.2.2.2.2) j k h1), by simp only [Fm.size]; omega, by simp only [Fm.depth]; omega, fun h => g1.ok (oks_get (by simp only [Fm.ok] at h; exact h.2.2) h1), fun h => g1.ops (opsOKs_get (by simp only [Fm.opsOK] at h; exact h.2) h1)⟩, .inr ⟨by omega, by omega⟩⟩
theorem rightE_zero {tk : Nat → Bool} {f : Fm} : rightE tk f = 0 ↔ f.formed tk ∧ ¬ (1000 < f.size ∨ 100 < f.depth) := by
  unfold rightE
  by_cases h1 : f.formed tk
  · rw [yes_t h1]
    by_cases h2 : 1000 < f.size ∨ 100 < f.depth
    · rw [yes_t h2]; simp [h2]
    · rw [yes_f h2]; simp [h1, h2]
  · rw [yes_f h1]; simp [h1]
theorem rightE_sub {tk : Nat → Bool} {x f : Fm} (h : Sub x f) (h0 : rightE tk f = 0) : rightE tk x = 0 := by
  rw [rightE_zero] at h0 ⊢
  have a := h.size
  have b := h.depth
  exact ⟨h.formed tk h0.1, by omega⟩
end Go.Proofs.YtnpoloachkcadaaGreatDoor.Ai

namespace Go.Proofs.YtnpoloachkcadaaGreatDoor.Ai
open Go
set_option linter.unusedVariables false
set_option linter.unusedSectionVars false
set_option maxRecDepth 10000
/-! ### TreeWithin -/
def as13 : ICode := (.seq (.ops [⟨(some 6), (.p (.mov (.t 28))), none⟩]) (.ops [⟨(some 7), (.n (.new 27 3 [(.int .u8 0), (.string ⟨#[]⟩), (.slice none 0 0)])), none⟩, ⟨none, (.e (.st 3 (.t 7) (.t 29))), none⟩]))
def bo13 : ICode := (.block 1 (.seq (.ops [⟨(some 30), (.r (.ld (.t 5))), none⟩, ⟨(some 31), (.p (.bin .add (.t 30) (.c (.int .i64 1)))), none⟩, ⟨none, (.e (.st 1 (.t 5) (.t 31))), none⟩]) (.seq (.seq (.ops [⟨(some 32), (.r (.ldn 3 (.t 1))), none⟩, ⟨(some 33), (.e (.call 17 [(.t 32)])), none⟩, ⟨(some 34), (.p (.bin .eql (.t 33) (.c (.int .i64 0)))), none⟩, ⟨(some 35), (.p (.mov (.t 34))), none⟩, ⟨(some 36), (.r (.ldn 3 (.t 7))), (some (35, true))⟩, ⟨(some 37), (.e (.call 17 [(.t 36)])), (some (35, true))⟩, ⟨(some 38), (.p (.bin .neq (.t 37) (.c (.int .i64 0)))), (some (35, true))⟩, ⟨(some 39), (.p (.pick (.t 35) (.t 38) (.c (.bool false)))), none⟩, ⟨(some 40), (.p (.mov (.t 39))), none⟩, ⟨(some 41), (.r (.ldn 3 (.t 1))), (some (40, false))⟩, ⟨(some 42), (.e (.call 18 [(.t 41)])), (some (40, false))⟩, ⟨(some 43), (.p (.bin .eql (.t 42) (.c (.int .i64 0)))), (some (40, false))⟩, ⟨(some 44), (.p (.mov (.t 43))), (some (40, false))⟩, ⟨(some 45), (.r (.ldn 3 (.t 7))), (some (44, true))⟩, ⟨(some 46), (.e (.call 18 [(.t 45)])), (some (44, true))⟩, ⟨(some 47), (.p (.bin .neq (.t 46) (.c (.int .i64 0)))), (some (44, true))⟩, ⟨(some 48), (.p (.pick (.t 44) (.t 47) (.c (.bool false)))), (some (40, false))⟩, ⟨(some 49), (.p (.pick (.t 40) (.c (.bool true)) (.t 48))), none⟩]) (.cond (.t 49) (.seq (.ops [⟨none, (.e (.st 1 (.t 2) (.c (.bool false)))), none⟩]) .ret) .skip)) (.seq (.draw [⟨(some 50), (.p (.mov (.t 6))), none⟩, ⟨(some 51), (.p (.bin .neq (.t 50) (.c (.string ⟨#[]⟩)))), none⟩, ⟨(some 52), (.p (.mov (.t 51))), none⟩, ⟨(some 53), (.r (.ldn 3 (.t 7))), (some (52, true))⟩, ⟨(some 54), (.e (.call 32 [(.t 53)])), (some (52, true))⟩, ⟨(some 55), (.r (.ldn 3 (.t 1))), (some (52, true))⟩, ⟨(some 56), (.e (.call 32 [(.t 55)])), (some (52, true))⟩, ⟨(some 57), (.p (.bin .geq (.t 54) (.t 56))), (some (52, true))⟩, ⟨(some 58), (.p (.mov (.t 57))), (some (52, true))⟩, ⟨(some 59), (.r (.ldn 3 (.t 7))), (some (58, false))⟩, ⟨(some 60), (.e (.call 33 [(.t 59)])), (some (58, false))⟩, ⟨(some 61), (.r (.ldn 3 (.t 1))), (some (58, false))⟩, ⟨(some 62), (.e (.call 33 [(.t 61)])), (some (58, false))⟩, ⟨(some 63), (.p (.bin .geq (.t 60) (.t 62))), (some (58, false))⟩, ⟨(some 64), (.p (.pick (.t 58) (.c (.bool true)) (.t 63))), (some (52, true))⟩, ⟨(some 65), (.p (.pick (.t 52) (.t 64) (.c (.bool false)))), none⟩, ⟨(some 66), (.p (.mov (.t 65))), none⟩, ⟨(some 67), (.r (.ld (.t 5))), (some (66, false))⟩, ⟨(some 68), (.p (.bin .gtr (.t 67) (.c (.int .i64 1000)))), (some (66, false))⟩, ⟨(some 69), (.p (.pick (.t 66) (.c (.bool true)) (.t 68))), none⟩] [⟨[], [0, 1, 2, 3, 5], 4⟩, ⟨[5], [], 6⟩, ⟨[], [7, 8, 9, 11], 10⟩, ⟨[11], [], 12⟩] ⟨[], [13, 14, 15, 16, 17, 18, 19], 0⟩) (.cond (.t 69) (.seq (.ops [⟨none, (.e (.st 1 (.t 2) (.c (.bool false)))), none⟩]) .ret) .skip)))))
section
variable {C : Ctx} (hm : C.P.follows .mixedOrders = true) (hC : TabOK C.P C.ng C.ts Tryz.tab)
include hm hC
theorem past_ok (o : Nat) : PFun C 60 [.lit (.int .u8 (o : Nat))] (.lit (.bool (pastB o))) := by
  refine PFun.body hm hC (show Tryz.tab.get 60 = some Tryz.c60 from rfl) rfl ?_
  simp only [Tryz.c60, startP, List.length_cons, List.length_nil, Nat.reduceAdd, Nat.reduceSub, List.replicate, List.cons_append, List.nil_append]
  by_cases h : ((o : Nat) : Int) < 9
  · repeat (refine PRun.wpn rfl ?_; simp only [wp, wo_nil, wo_p, wo_g, onO_s, onG_f, wanted_g, wantB_b, b_tf, pv_t, pv_int, pv_bool, put_some, bi_lss, pevP, getP, setP, PW.none, Option.map_some, or_true, true_and, reduceCtorEq, resPs, resP, tupP, ltB_t h])
    rw [show pastB o = true from yes_t (by omega)]
    exact .refl ⟨_, rfl, .refl _⟩
  · by_cases h2 : (16 : Int) ≤ (o : Nat)
    · repeat (refine PRun.wpn rfl ?_; simp only [wp, wo_nil, wo_p, wo_g, beq_self_eq_true, onO_s, onG_t, wanted_g, wantB_b, pv_t, pv_int, pv_bool, put_some, bi_lss, bi_geq, pevP, getP, setP, PW.none, Option.map_some, or_true, true_and, reduceCtorEq, resPs, resP, tupP, ltB_f h, leB_t h2])
      rw [show pastB o = true from yes_t (by omega)]
      exact .refl ⟨_, rfl, .refl _⟩
    · repeat (refine PRun.wpn rfl ?_; simp only [wp, wo_nil, wo_p, wo_g, beq_self_eq_true, onO_s, onG_t, wanted_g, wantB_b, pv_t, pv_int, pv_bool, put_some, bi_lss, bi_geq, pevP, getP, setP, PW.none, Option.map_some, or_true, true_and, reduceCtorEq, resPs, resP, tupP, ltB_f h, leB_f h2])
      rw [show pastB o = false from yes_f (by omega)]
      exact .refl ⟨_, rfl, .refl _⟩
theorem rightPast_ok (hG0 : C.G 0 = some kidsC) (f : Fm) (ho : f.ok) (hop : f.opsOK) (hn : f.size < 2 ^ 60) : PFun C 18 [fP f] (.lit (.int .i64 (rightE pastB f))) := by
  have h1 := right58_ok hm hC 60 pastB hG0 (fun o _ => past_ok hm hC o) f ho hop hn
  generalize rightE pastB f = r at h1
  obtain ⟨o, nm, ks⟩ := f
  simp only [fP, fC, tkP] at h1
  refine PFun.body hm hC (show Tryz.tab.get 18 = some Tryz.c18 from rfl) rfl ?_
  simp only [Tryz.c18, startP, List.length_cons, List.length_nil, Nat.reduceAdd, Nat.reduceSub, List.replicate, List.cons_append, List.nil_append, fP, fC]
  repeat (refine PRun.wpn rfl ?_; simp only [wp, wo_nil, wo_p, wo_r, wo_n, wo_call, onO_s, onN_s, ble_self, pv_t, pv_int, put_some, pv_f, pevP, pevR, pevN, getP, setP, evsP, boxP, look, PW.cs?, PW.push, PW.none, cut0, cutS, List.drop_zero, Option.map_some, Option.bind_some, Nat.zero_le, true_and, ↓reduceIte, Nat.zero_add, resPs, resP, tupP])
  refine .refl (PFun.to (h1) rfl (POps.wp ?_))
  simp only [wo_nil, wo_p, onO_s, pv_t, put_some, pevP, getP, setP]
  repeat (refine PRun.wpn rfl ?_; simp only [wp, or_true, true_and, reduceCtorEq])
  exact .refl ⟨_, rfl, .refl _⟩
def winL (f0 : Fm) : PObj := .loop .ready none (.junk :: .ptr 0 0 :: .ptr 1 0 :: .lit (.bool true) :: .junk :: .ptr 2 0 :: .junk :: .junk :: .junk :: .junk :: .junk :: .junk :: .junk :: .junk :: .junk :: .junk :: .junk :: .junk :: .junk :: .junk :: .junk :: .junk :: .junk :: .junk :: .junk :: .junk :: .junk :: .fn 92 [] [.ref (fC f0)] :: .junk :: .junk :: .junk :: .junk :: .junk :: .junk :: .junk :: .junk :: .junk :: .junk :: .junk :: .junk :: .junk :: .junk :: .junk :: .junk :: .junk :: .junk :: .junk :: .junk :: .junk :: .junk :: .junk :: .junk :: .junk :: .junk :: .junk :: .junk :: .junk :: .junk :: .junk :: .junk :: .junk :: .junk :: .junk :: .junk :: .junk :: .junk :: .junk :: .junk :: .junk :: .junk :: .junk :: .junk :: .junk :: .junk :: .junk :: .junk :: .junk :: []) [28, 29] as13 bo13
def winS (f0 : Fm) (j : Nat) (π : PW) : Prop := 4 ≤ π.next ∧ π.heap = [(3, winL f0), (2, .cells [.lit (.int .i64 (j : Nat))] 3 1 true false []), (1, .cells [.lit (.bool false)] 4 1 true false []), (0, .cells (fC f0) 27 3 true false [])]
theorem within_round (f x : Fm) (q : ByteArray) (j : Nat) (hj : j < 1000) (rf pf rx px : Int) (sf df sx dx : Nat) (c1 : PFun C 17 [fP f] (.lit (.int .i64 rf))) (c2 : PFun C 18 [fP f] (.lit (.int .i64 pf))) (c3 : PFun C 17 [fP x] (.lit (.int .i64 rx))) (c4 : PFun C 18 [fP x] (.lit (.int .i64 px)))
    (s1 : PFun C 32 [fP f] (.lit (.int .i64 (sf : Nat)))) (d1 : PFun C 33 [fP f] (.lit (.int .i64 (df : Nat)))) (s2 : PFun C 32 [fP x] (.lit (.int .i64 (sx : Nat)))) (d2 : PFun C 33 [fP x] (.lit (.int .i64 (dx : Nat))))
    (h1 : rf = 0 → rx = 0) (h2 : pf = 0 → px = 0) (h3 : q ≠ ⟨#[]⟩ → sx < sf ∧ dx < df) (π : PW) (hs : winS f j π) : PY C 4 3 [.lit (.string q), fP x] π fun r π' => r = .lit (.bool true) ∧ winS f (j + 1) π' := by
  obtain ⟨o, nm, ks⟩ := f
  obtain ⟨o2, nm2, ks2⟩ := x
  obtain ⟨n, h⟩ := π
  obtain ⟨hn, rfl⟩ := hs
  simp only [fP, fC] at c1 c2 c3 c4 s1 d1 s2 d2
  have b5 : Nat.ble 4 5 = true := rfl
  have b6 : Nat.ble 4 6 = true := rfl
  have b7 : Nat.ble 4 7 = true := rfl
  have b8 : Nat.ble 4 8 = true := rfl
  have w1 : IntKind.i64.wrap ((j : Nat) + 1) = ((j + 1 : Nat) : Int) := by rw [wrap64 (by omega) (by omega)]; omega
  have w2 : ltB 1000 ((j + 1 : Nat) : Int) = false := ltB_f (by omega)
  refine PY.of_loop hm rfl (by omega) rfl rfl ?_
  refine PRun.gh (Gh.mr (false :: true :: true :: true :: false :: true :: false :: false :: false :: false :: false :: false :: false :: false :: false :: false :: false :: false :: false :: false :: false :: false :: false :: false :: false :: false :: false :: true :: true :: true :: false :: false :: false :: false :: false :: false :: false :: false :: false :: false :: false :: false :: false :: false :: false :: false :: false :: false :: false :: false :: false :: false :: false :: false :: false :: false :: false :: false :: false :: false :: false :: false :: false :: false :: false :: false :: false :: false :: false :: false :: false :: false :: false :: false :: false :: false :: false :: []) [(0, 0), (1, 1), (2, 2), (3, 3)] 4 rfl ?_)
  simp only [setP, true_and, ↓reduceIte, reduceCtorEq, Nat.reduceEqDiff, Bool.false_eq_true, renL, renP, renO, renH, renA, lkN, maskP, as13, winL, fC]
  repeat (refine PRun.wpn rfl ?_; simp only [wp, wo_nil, wo_p, wo_n, wo_st, onO_s, onN_s, ble_self, ble_succ, pv_t, ov_nil, ov_cons, ov_int, ov_str, ov_nilS, put_some, pevP, pevN, pevE, getP, setP, spliceP, overP, plainP, isCell, look, PW.push, Option.map_some, true_and, Bool.and_true, ↓reduceIte, ltL, lt, Nat.reduceAdd, allPlain, PW.wr, setO, killO, Bool.false_or])
  refine ⟨_, _, rfl, ?_⟩
  simp only [put_none, ↓reduceIte, Nat.reduceEqDiff, setO, renL, renP, bo13, fP, fC]
  refine PRun.after ?_
  repeat (refine PRun.wpn rfl ?_; simp only [wp, wo_nil, wo_p, wo_r, wo_call, wo_st, beq_self_eq_true, onO_s, onE_s, ble_succ, pv_t, pv_int, put_some, put_none, bi_add, pevP, pevR, pevE, getP, setP, evsP, spliceP, overP, plainP, isCell, look, PW.cs?, nthP, cut0, cutS, List.drop_zero, Option.map_some, Option.bind_some, Bool.and_true, ↓reduceIte, reduceCtorEq, Nat.reduceEqDiff, Bool.false_eq_true, allPlain, PW.wr, setO, killO, Bool.or_self, Bool.not_true, w1])
  by_cases e1 : rf = 0
  · by_cases e2 : pf = 0
    · have e3 := h1 e1
      have e4 := h2 e2
      refine .refl ⟨Nat.le_of_ble_eq_true rfl, PFun.to (c1) rfl (POps.wp ?_)⟩
      simp only [wo_p, wo_r, wo_call, wo_g, beq_self_eq_true, onO_s, onG_t, wanted_g, wantB_b, pv_t, pv_int, put_some, bi_eql, pevP, pevR, getP, setP, evsP, look, PW.cs?, cut0, cutS, List.drop_zero, Option.map_some, Option.bind_some, ↓reduceIte, eqB_t e1]
      refine .refl ⟨Nat.le_of_ble_eq_true rfl, PFun.to (c3) rfl (POps.wp ?_)⟩
      simp only [wo_p, wo_r, wo_call, wo_g, beq_self_eq_true, onO_s, onG_t, wanted_g, wantB_b, pv_t, pv_int, put_some, bi_neq, pevP, pevR, getP, setP, evsP, look, PW.cs?, cut0, cutS, List.drop_zero, Option.map_some, Option.bind_some, ↓reduceIte, reduceCtorEq, neB_f e3]
      refine .refl ⟨Nat.le_of_ble_eq_true rfl, PFun.to (c2) rfl (POps.wp ?_)⟩
      simp only [wo_p, wo_r, wo_call, wo_g, beq_self_eq_true, onO_s, onG_t, wanted_g, wantB_b, pv_t, pv_int, put_some, bi_eql, pevP, pevR, getP, setP, evsP, look, PW.cs?, cut0, cutS, List.drop_zero, Option.map_some, Option.bind_some, ↓reduceIte, eqB_t e2]
      refine .refl ⟨Nat.le_of_ble_eq_true rfl, PFun.to (c4) rfl (POps.wp ?_)⟩
      simp only [wo_nil, wo_p, wo_g, beq_self_eq_true, onO_s, onG_t, wanted_g, wantB_b, pv_t, pv_int, put_some, bi_neq, pevP, getP, setP, Option.map_some, neB_f e4]
      repeat (refine PRun.wpn rfl ?_; simp only [wp, pv_t, getP, ↓reduceIte, Bool.false_eq_true])
      by_cases hq : q = ⟨#[]⟩
      · refine PDraw.stage (Nat.le_of_ble_eq_true rfl) rfl ?_
        try dsimp only
        simp only [wanted_g, wantB_b, b_ft, onX_s, onXG_f, onXI_s, onD_s, onDG_f, wx_nil, wx_cons, wx_p, wx_g, wd_cons, wd_g, pv_t, pv_str, put_some, bi_neqS, pevP, getP, setP, nthO, Option.map_some, neS_f hq]
        refine PDraw.stage (Nat.le_of_ble_eq_true rfl) rfl ?_
        try dsimp only
        simp only [wanted_g, wantB_b, b_ft, onD_s, onDG_f, wx_nil, wd_cons, wd_g, put_some, getP, setP, nthO]
        refine PDraw.stage (Nat.le_of_ble_eq_true rfl) rfl ?_
        try dsimp only
        simp only [wanted_g, wantB_b, wantB_u, b_ft, onXG_f, onXI_s, onD_s, onDG_f, wx_nil, wx_cons, wx_g, wd_cons, wd_g, put_some, getP, setP, nthO]
        refine PDraw.stage (Nat.le_of_ble_eq_true rfl) rfl ?_
        try dsimp only
        simp only [wanted_g, wantB_u, onD_s, onDG_f, wx_nil, wd_cons, wd_g, put_some, getP, setP, nthO]
        refine PDraw.last (Nat.le_of_ble_eq_true rfl) rfl ?_
        try dsimp only
        simp only [beq_self_eq_true, wanted_g, wantB_b, wantB_u, b_ft, onX_s, onXG_t, onXG_f, onXI_s, rdX_e, ltN, ltD_s, wx_nil, wx_cons, wx_p, wx_r, wx_g, pv_t, pv_int, pv_bool, put_some, bi_gtr, pevP, pevR, getP, setP, nthO, look, PW.cs?, nthP, baseP, ROp.base, List.length_cons, List.length_nil, Option.map_some, Option.bind_some, Bool.and_true, ↓reduceIte, Nat.reduceAdd, Nat.reduceEqDiff, Option.isSome_some, Nat.zero_add, List.length_cons, List.length_nil, w2]
        repeat (refine PRun.wpn rfl ?_; simp only [wp, pv_t, getP, ↓reduceIte, Bool.false_eq_true])
        refine Gh.mr [] [(0, 0), (1, 1), (2, 2), (3, 3)] 4 rfl ?_
        exact ⟨_, _, _, rfl, Nat.le_refl 4, rfl⟩
      · obtain ⟨q1, q2⟩ := h3 hq
        have g1 : leB (sf : Nat) (sx : Nat) = false := leB_f (by omega)
        have g2 : leB (df : Nat) (dx : Nat) = false := leB_f (by omega)
        refine PDraw.stage (Nat.le_of_ble_eq_true rfl) rfl ?_
        try dsimp only
        simp only [beq_self_eq_true, wanted_g, wantB_b, onX_s, onXG_t, onXI_s, rdX_e, ltN, ltD_s, onD_s, onDG_t, wx_nil, wx_cons, wx_p, wx_r, wx_g, wd_cons, wd_e, wd_g, pv_t, pv_str, put_some, bi_neqS, pevP, pevR, getP, setP, nthO, look, PW.cs?, cut0, cutS, baseP, ROp.base, List.length_cons, List.length_nil, List.drop_zero, Option.map_some, Option.bind_some, Bool.and_true, ↓reduceIte, reduceCtorEq, Nat.reduceAdd, Option.isSome_some, Nat.zero_add, List.length_cons, List.length_nil, neS_t hq]
        refine PDE.pure s2 rfl ?_
        refine PDraw.stage (Nat.le_of_ble_eq_true rfl) rfl ?_
        try dsimp only
        simp only [beq_self_eq_true, wanted_g, wantB_b, onD_s, onDG_t, wx_nil, wd_cons, wd_e, wd_g, put_some, getP, setP, nthO]
        refine PDE.pure s1 rfl ?_
        refine PDraw.stage (Nat.le_of_ble_eq_true rfl) rfl ?_
        try dsimp only
        simp only [beq_self_eq_true, wanted_g, wantB_b, onX_s, onXG_t, onXI_s, rdX_e, ltN, ltD_s, onD_s, onDG_t, wx_nil, wx_cons, wx_p, wx_r, wx_g, wd_cons, wd_e, wd_g, pv_t, put_some, bi_geq, pevP, pevR, getP, setP, nthO, look, PW.cs?, cut0, cutS, baseP, ROp.base, List.length_cons, List.length_nil, List.drop_zero, Option.map_some, Option.bind_some, Bool.and_true, ↓reduceIte, reduceCtorEq, Nat.reduceAdd, Option.isSome_some, Nat.zero_add, List.length_cons, List.length_nil, g1]
        refine PDE.pure d2 rfl ?_
        refine PDraw.stage (Nat.le_of_ble_eq_true rfl) rfl ?_
        try dsimp only
        simp only [beq_self_eq_true, wanted_g, wantB_b, onD_s, onDG_t, wx_nil, wd_cons, wd_e, wd_g, put_some, getP, setP, nthO]
        refine PDE.pure d1 rfl ?_
        refine PDraw.last (Nat.le_of_ble_eq_true rfl) rfl ?_
        try dsimp only
        simp only [beq_self_eq_true, wanted_g, wantB_b, onX_s, onXG_t, onXI_s, rdX_e, ltN, ltD_s, wx_nil, wx_cons, wx_p, wx_r, wx_g, pv_t, pv_int, put_some, bi_gtr, bi_geq, pevP, pevR, getP, setP, nthO, look, PW.cs?, nthP, baseP, ROp.base, List.length_cons, List.length_nil, Option.map_some, Option.bind_some, Bool.and_true, ↓reduceIte, Nat.reduceAdd, Nat.reduceEqDiff, Option.isSome_some, Nat.zero_add, List.length_cons, List.length_nil, w2, g2]
        repeat (refine PRun.wpn rfl ?_; simp only [wp, pv_t, getP, ↓reduceIte, Bool.false_eq_true])
        refine Gh.mr [] [(0, 0), (1, 1), (2, 2), (3, 3)] 4 rfl ?_
        exact ⟨_, _, _, rfl, Nat.le_refl 4, rfl⟩
    · have e3 := h1 e1
      refine .refl ⟨Nat.le_of_ble_eq_true rfl, PFun.to (c1) rfl (POps.wp ?_)⟩
      simp only [wo_p, wo_r, wo_call, wo_g, beq_self_eq_true, onO_s, onG_t, wanted_g, wantB_b, pv_t, pv_int, put_some, bi_eql, pevP, pevR, getP, setP, evsP, look, PW.cs?, cut0, cutS, List.drop_zero, Option.map_some, Option.bind_some, ↓reduceIte, eqB_t e1]
      refine .refl ⟨Nat.le_of_ble_eq_true rfl, PFun.to (c3) rfl (POps.wp ?_)⟩
      simp only [wo_p, wo_r, wo_call, wo_g, beq_self_eq_true, onO_s, onG_t, wanted_g, wantB_b, pv_t, pv_int, put_some, bi_neq, pevP, pevR, getP, setP, evsP, look, PW.cs?, cut0, cutS, List.drop_zero, Option.map_some, Option.bind_some, ↓reduceIte, reduceCtorEq, neB_f e3]
      refine .refl ⟨Nat.le_of_ble_eq_true rfl, PFun.to (c2) rfl (POps.wp ?_)⟩
      simp only [wo_nil, wo_p, wo_g, beq_self_eq_true, onO_s, onG_t, onG_f, wanted_g, wantB_b, b_ft, pv_t, pv_int, pv_bool, put_some, bi_eql, pevP, getP, setP, Option.map_some, eqB_f e2]
      repeat (refine PRun.wpn rfl ?_; simp only [wp, pv_t, getP, ↓reduceIte, Bool.false_eq_true])
      by_cases hq : q = ⟨#[]⟩
      · refine PDraw.stage (Nat.le_of_ble_eq_true rfl) rfl ?_
        try dsimp only
        simp only [wanted_g, wantB_b, b_ft, onX_s, onXG_f, onXI_s, onD_s, onDG_f, wx_nil, wx_cons, wx_p, wx_g, wd_cons, wd_g, pv_t, pv_str, put_some, bi_neqS, pevP, getP, setP, nthO, Option.map_some, neS_f hq]
        refine PDraw.stage (Nat.le_of_ble_eq_true rfl) rfl ?_
        try dsimp only
        simp only [wanted_g, wantB_b, b_ft, onD_s, onDG_f, wx_nil, wd_cons, wd_g, put_some, getP, setP, nthO]
        refine PDraw.stage (Nat.le_of_ble_eq_true rfl) rfl ?_
        try dsimp only
        simp only [wanted_g, wantB_b, wantB_u, b_ft, onXG_f, onXI_s, onD_s, onDG_f, wx_nil, wx_cons, wx_g, wd_cons, wd_g, put_some, getP, setP, nthO]
        refine PDraw.stage (Nat.le_of_ble_eq_true rfl) rfl ?_
        try dsimp only
        simp only [wanted_g, wantB_u, onD_s, onDG_f, wx_nil, wd_cons, wd_g, put_some, getP, setP, nthO]
        refine PDraw.last (Nat.le_of_ble_eq_true rfl) rfl ?_
        try dsimp only
        simp only [beq_self_eq_true, wanted_g, wantB_b, wantB_u, b_ft, onX_s, onXG_t, onXG_f, onXI_s, rdX_e, ltN, ltD_s, wx_nil, wx_cons, wx_p, wx_r, wx_g, pv_t, pv_int, pv_bool, put_some, bi_gtr, pevP, pevR, getP, setP, nthO, look, PW.cs?, nthP, baseP, ROp.base, List.length_cons, List.length_nil, Option.map_some, Option.bind_some, Bool.and_true, ↓reduceIte, Nat.reduceAdd, Nat.reduceEqDiff, Option.isSome_some, Nat.zero_add, List.length_cons, List.length_nil, w2]
        repeat (refine PRun.wpn rfl ?_; simp only [wp, pv_t, getP, ↓reduceIte, Bool.false_eq_true])
        refine Gh.mr [] [(0, 0), (1, 1), (2, 2), (3, 3)] 4 rfl ?_
        exact ⟨_, _, _, rfl, Nat.le_refl 4, rfl⟩
      · obtain ⟨q1, q2⟩ := h3 hq
        have g1 : leB (sf : Nat) (sx : Nat) = false := leB_f (by omega)
        have g2 : leB (df : Nat) (dx : Nat) = false := leB_f (by omega)
        refine PDraw.stage (Nat.le_of_ble_eq_true rfl) rfl ?_
        try dsimp only
        simp only [beq_self_eq_true, wanted_g, wantB_b, onX_s, onXG_t, onXI_s, rdX_e, ltN, ltD_s, onD_s, onDG_t, wx_nil, wx_cons, wx_p, wx_r, wx_g, wd_cons, wd_e, wd_g, pv_t, pv_str, put_some, bi_neqS, pevP, pevR, getP, setP, nthO, look, PW.cs?, cut0, cutS, baseP, ROp.base, List.length_cons, List.length_nil, List.drop_zero, Option.map_some, Option.bind_some, Bool.and_true, ↓reduceIte, reduceCtorEq, Nat.reduceAdd, Option.isSome_some, Nat.zero_add, List.length_cons, List.length_nil, neS_t hq]
        refine PDE.pure s2 rfl ?_
        refine PDraw.stage (Nat.le_of_ble_eq_true rfl) rfl ?_
        try dsimp only
        simp only [beq_self_eq_true, wanted_g, wantB_b, onD_s, onDG_t, wx_nil, wd_cons, wd_e, wd_g, put_some, getP, setP, nthO]
        refine PDE.pure s1 rfl ?_
        refine PDraw.stage (Nat.le_of_ble_eq_true rfl) rfl ?_
        try dsimp only
        simp only [beq_self_eq_true, wanted_g, wantB_b, onX_s, onXG_t, onXI_s, rdX_e, ltN, ltD_s, onD_s, onDG_t, wx_nil, wx_cons, wx_p, wx_r, wx_g, wd_cons, wd_e, wd_g, pv_t, put_some, bi_geq, pevP, pevR, getP, setP, nthO, look, PW.cs?, cut0, cutS, baseP, ROp.base, List.length_cons, List.length_nil, List.drop_zero, Option.map_some, Option.bind_some, Bool.and_true, ↓reduceIte, reduceCtorEq, Nat.reduceAdd, Option.isSome_some, Nat.zero_add, List.length_cons, List.length_nil, g1]
        refine PDE.pure d2 rfl ?_
        refine PDraw.stage (Nat.le_of_ble_eq_true rfl) rfl ?_
        try dsimp only
        simp only [beq_self_eq_true, wanted_g, wantB_b, onD_s, onDG_t, wx_nil, wd_cons, wd_e, wd_g, put_some, getP, setP, nthO]
        refine PDE.pure d1 rfl ?_
        refine PDraw.last (Nat.le_of_ble_eq_true rfl) rfl ?_
        try dsimp only
        simp only [beq_self_eq_true, wanted_g, wantB_b, onX_s, onXG_t, onXI_s, rdX_e, ltN, ltD_s, wx_nil, wx_cons, wx_p, wx_r, wx_g, pv_t, pv_int, put_some, bi_gtr, bi_geq, pevP, pevR, getP, setP, nthO, look, PW.cs?, nthP, baseP, ROp.base, List.length_cons, List.length_nil, Option.map_some, Option.bind_some, Bool.and_true, ↓reduceIte, Nat.reduceAdd, Nat.reduceEqDiff, Option.isSome_some, Nat.zero_add, List.length_cons, List.length_nil, w2, g2]
        repeat (refine PRun.wpn rfl ?_; simp only [wp, pv_t, getP, ↓reduceIte, Bool.false_eq_true])
        refine Gh.mr [] [(0, 0), (1, 1), (2, 2), (3, 3)] 4 rfl ?_
        exact ⟨_, _, _, rfl, Nat.le_refl 4, rfl⟩
  · by_cases e2 : pf = 0
    · have e4 := h2 e2
      refine .refl ⟨Nat.le_of_ble_eq_true rfl, PFun.to (c1) rfl (POps.wp ?_)⟩
      simp only [wo_p, wo_r, wo_call, wo_g, beq_self_eq_true, onO_s, onG_t, onG_f, wanted_g, wantB_b, b_ft, pv_t, pv_int, pv_bool, put_some, bi_eql, pevP, pevR, getP, setP, evsP, look, PW.cs?, cut0, cutS, List.drop_zero, Option.map_some, Option.bind_some, ↓reduceIte, reduceCtorEq, eqB_f e1]
      refine .refl ⟨Nat.le_of_ble_eq_true rfl, PFun.to (c2) rfl (POps.wp ?_)⟩
      simp only [wo_p, wo_r, wo_call, wo_g, beq_self_eq_true, onO_s, onG_t, wanted_g, wantB_b, pv_t, pv_int, put_some, bi_eql, pevP, pevR, getP, setP, evsP, look, PW.cs?, cut0, cutS, List.drop_zero, Option.map_some, Option.bind_some, ↓reduceIte, eqB_t e2]
      refine .refl ⟨Nat.le_of_ble_eq_true rfl, PFun.to (c4) rfl (POps.wp ?_)⟩
      simp only [wo_nil, wo_p, wo_g, beq_self_eq_true, onO_s, onG_t, wanted_g, wantB_b, pv_t, pv_int, put_some, bi_neq, pevP, getP, setP, Option.map_some, neB_f e4]
      repeat (refine PRun.wpn rfl ?_; simp only [wp, pv_t, getP, ↓reduceIte, Bool.false_eq_true])
      by_cases hq : q = ⟨#[]⟩
      · refine PDraw.stage (Nat.le_of_ble_eq_true rfl) rfl ?_
        try dsimp only
        simp only [wanted_g, wantB_b, b_ft, onX_s, onXG_f, onXI_s, onD_s, onDG_f, wx_nil, wx_cons, wx_p, wx_g, wd_cons, wd_g, pv_t, pv_str, put_some, bi_neqS, pevP, getP, setP, nthO, Option.map_some, neS_f hq]
        refine PDraw.stage (Nat.le_of_ble_eq_true rfl) rfl ?_
        try dsimp only
        simp only [wanted_g, wantB_b, b_ft, onD_s, onDG_f, wx_nil, wd_cons, wd_g, put_some, getP, setP, nthO]
        refine PDraw.stage (Nat.le_of_ble_eq_true rfl) rfl ?_
        try dsimp only
        simp only [wanted_g, wantB_b, wantB_u, b_ft, onXG_f, onXI_s, onD_s, onDG_f, wx_nil, wx_cons, wx_g, wd_cons, wd_g, put_some, getP, setP, nthO]
        refine PDraw.stage (Nat.le_of_ble_eq_true rfl) rfl ?_
        try dsimp only
        simp only [wanted_g, wantB_u, onD_s, onDG_f, wx_nil, wd_cons, wd_g, put_some, getP, setP, nthO]
        refine PDraw.last (Nat.le_of_ble_eq_true rfl) rfl ?_
        try dsimp only
        simp only [beq_self_eq_true, wanted_g, wantB_b, wantB_u, b_ft, onX_s, onXG_t, onXG_f, onXI_s, rdX_e, ltN, ltD_s, wx_nil, wx_cons, wx_p, wx_r, wx_g, pv_t, pv_int, pv_bool, put_some, bi_gtr, pevP, pevR, getP, setP, nthO, look, PW.cs?, nthP, baseP, ROp.base, List.length_cons, List.length_nil, Option.map_some, Option.bind_some, Bool.and_true, ↓reduceIte, Nat.reduceAdd, Nat.reduceEqDiff, Option.isSome_some, Nat.zero_add, List.length_cons, List.length_nil, w2]
        repeat (refine PRun.wpn rfl ?_; simp only [wp, pv_t, getP, ↓reduceIte, Bool.false_eq_true])
        refine Gh.mr [] [(0, 0), (1, 1), (2, 2), (3, 3)] 4 rfl ?_
        exact ⟨_, _, _, rfl, Nat.le_refl 4, rfl⟩
      · obtain ⟨q1, q2⟩ := h3 hq
        have g1 : leB (sf : Nat) (sx : Nat) = false := leB_f (by omega)
        have g2 : leB (df : Nat) (dx : Nat) = false := leB_f (by omega)
        refine PDraw.stage (Nat.le_of_ble_eq_true rfl) rfl ?_
        try dsimp only
        simp only [beq_self_eq_true, wanted_g, wantB_b, onX_s, onXG_t, onXI_s, rdX_e, ltN, ltD_s, onD_s, onDG_t, wx_nil, wx_cons, wx_p, wx_r, wx_g, wd_cons, wd_e, wd_g, pv_t, pv_str, put_some, bi_neqS, pevP, pevR, getP, setP, nthO, look, PW.cs?, cut0, cutS, baseP, ROp.base, List.length_cons, List.length_nil, List.drop_zero, Option.map_some, Option.bind_some, Bool.and_true, ↓reduceIte, reduceCtorEq, Nat.reduceAdd, Option.isSome_some, Nat.zero_add, List.length_cons, List.length_nil, neS_t hq]
        refine PDE.pure s2 rfl ?_
        refine PDraw.stage (Nat.le_of_ble_eq_true rfl) rfl ?_
        try dsimp only
        simp only [beq_self_eq_true, wanted_g, wantB_b, onD_s, onDG_t, wx_nil, wd_cons, wd_e, wd_g, put_some, getP, setP, nthO]
        refine PDE.pure s1 rfl ?_
        refine PDraw.stage (Nat.le_of_ble_eq_true rfl) rfl ?_
        try dsimp only
        simp only [beq_self_eq_true, wanted_g, wantB_b, onX_s, onXG_t, onXI_s, rdX_e, ltN, ltD_s, onD_s, onDG_t, wx_nil, wx_cons, wx_p, wx_r, wx_g, wd_cons, wd_e, wd_g, pv_t, put_some, bi_geq, pevP, pevR, getP, setP, nthO, look, PW.cs?, cut0, cutS, baseP, ROp.base, List.length_cons, List.length_nil, List.drop_zero, Option.map_some, Option.bind_some, Bool.and_true, ↓reduceIte, reduceCtorEq, Nat.reduceAdd, Option.isSome_some, Nat.zero_add, List.length_cons, List.length_nil, g1]
        refine PDE.pure d2 rfl ?_
        refine PDraw.stage (Nat.le_of_ble_eq_true rfl) rfl ?_
        try dsimp only
        simp only [beq_self_eq_true, wanted_g, wantB_b, onD_s, onDG_t, wx_nil, wd_cons, wd_e, wd_g, put_some, getP, setP, nthO]
        refine PDE.pure d1 rfl ?_
        refine PDraw.last (Nat.le_of_ble_eq_true rfl) rfl ?_
        try dsimp only
        simp only [beq_self_eq_true, wanted_g, wantB_b, onX_s, onXG_t, onXI_s, rdX_e, ltN, ltD_s, wx_nil, wx_cons, wx_p, wx_r, wx_g, pv_t, pv_int, put_some, bi_gtr, bi_geq, pevP, pevR, getP, setP, nthO, look, PW.cs?, nthP, baseP, ROp.base, List.length_cons, List.length_nil, Option.map_some, Option.bind_some, Bool.and_true, ↓reduceIte, Nat.reduceAdd, Nat.reduceEqDiff, Option.isSome_some, Nat.zero_add, List.length_cons, List.length_nil, w2, g2]
        repeat (refine PRun.wpn rfl ?_; simp only [wp, pv_t, getP, ↓reduceIte, Bool.false_eq_true])
        refine Gh.mr [] [(0, 0), (1, 1), (2, 2), (3, 3)] 4 rfl ?_
        exact ⟨_, _, _, rfl, Nat.le_refl 4, rfl⟩
    · skip
      refine .refl ⟨Nat.le_of_ble_eq_true rfl, PFun.to (c1) rfl (POps.wp ?_)⟩
      simp only [wo_p, wo_r, wo_call, wo_g, beq_self_eq_true, onO_s, onG_t, onG_f, wanted_g, wantB_b, b_ft, pv_t, pv_int, pv_bool, put_some, bi_eql, pevP, pevR, getP, setP, evsP, look, PW.cs?, cut0, cutS, List.drop_zero, Option.map_some, Option.bind_some, ↓reduceIte, reduceCtorEq, eqB_f e1]
      refine .refl ⟨Nat.le_of_ble_eq_true rfl, PFun.to (c2) rfl (POps.wp ?_)⟩
      simp only [wo_nil, wo_p, wo_g, beq_self_eq_true, onO_s, onG_t, onG_f, wanted_g, wantB_b, b_ft, pv_t, pv_int, pv_bool, put_some, bi_eql, pevP, getP, setP, Option.map_some, eqB_f e2]
      repeat (refine PRun.wpn rfl ?_; simp only [wp, pv_t, getP, ↓reduceIte, Bool.false_eq_true])
      by_cases hq : q = ⟨#[]⟩
      · refine PDraw.stage (Nat.le_of_ble_eq_true rfl) rfl ?_
        try dsimp only
        simp only [wanted_g, wantB_b, b_ft, onX_s, onXG_f, onXI_s, onD_s, onDG_f, wx_nil, wx_cons, wx_p, wx_g, wd_cons, wd_g, pv_t, pv_str, put_some, bi_neqS, pevP, getP, setP, nthO, Option.map_some, neS_f hq]
        refine PDraw.stage (Nat.le_of_ble_eq_true rfl) rfl ?_
        try dsimp only
        simp only [wanted_g, wantB_b, b_ft, onD_s, onDG_f, wx_nil, wd_cons, wd_g, put_some, getP, setP, nthO]
        refine PDraw.stage (Nat.le_of_ble_eq_true rfl) rfl ?_
        try dsimp only
        simp only [wanted_g, wantB_b, wantB_u, b_ft, onXG_f, onXI_s, onD_s, onDG_f, wx_nil, wx_cons, wx_g, wd_cons, wd_g, put_some, getP, setP, nthO]
        refine PDraw.stage (Nat.le_of_ble_eq_true rfl) rfl ?_
        try dsimp only
        simp only [wanted_g, wantB_u, onD_s, onDG_f, wx_nil, wd_cons, wd_g, put_some, getP, setP, nthO]
        refine PDraw.last (Nat.le_of_ble_eq_true rfl) rfl ?_
        try dsimp only
        simp only [beq_self_eq_true, wanted_g, wantB_b, wantB_u, b_ft, onX_s, onXG_t, onXG_f, onXI_s, rdX_e, ltN, ltD_s, wx_nil, wx_cons, wx_p, wx_r, wx_g, pv_t, pv_int, pv_bool, put_some, bi_gtr, pevP, pevR, getP, setP, nthO, look, PW.cs?, nthP, baseP, ROp.base, List.length_cons, List.length_nil, Option.map_some, Option.bind_some, Bool.and_true, ↓reduceIte, Nat.reduceAdd, Nat.reduceEqDiff, Option.isSome_some, Nat.zero_add, List.length_cons, List.length_nil, w2]
        repeat (refine PRun.wpn rfl ?_; simp only [wp, pv_t, getP, ↓reduceIte, Bool.false_eq_true])
        refine Gh.mr [] [(0, 0), (1, 1), (2, 2), (3, 3)] 4 rfl ?_
        exact ⟨_, _, _, rfl, Nat.le_refl 4, rfl⟩
      · obtain ⟨q1, q2⟩ := h3 hq
        have g1 : leB (sf : Nat) (sx : Nat) = false := leB_f (by omega)
        have g2 : leB (df : Nat) (dx : Nat) = false := leB_f (by omega)
        refine PDraw.stage (Nat.le_of_ble_eq_true rfl) rfl ?_
        try dsimp only
        simp only [beq_self_eq_true, wanted_g, wantB_b, onX_s, onXG_t, onXI_s, rdX_e, ltN, ltD_s, onD_s, onDG_t, wx_nil, wx_cons, wx_p, wx_r, wx_g, wd_cons, wd_e, wd_g, pv_t, pv_str, put_some, bi_neqS, pevP, pevR, getP, setP, nthO, look, PW.cs?, cut0, cutS, baseP, ROp.base, List.length_cons, List.length_nil, List.drop_zero, Option.map_some, Option.bind_some, Bool.and_true, ↓reduceIte, reduceCtorEq, Nat.reduceAdd, Option.isSome_some, Nat.zero_add, List.length_cons, List.length_nil, neS_t hq]
        refine PDE.pure s2 rfl ?_
        refine PDraw.stage (Nat.le_of_ble_eq_true rfl) rfl ?_
        try dsimp only
        simp only [beq_self_eq_true, wanted_g, wantB_b, onD_s, onDG_t, wx_nil, wd_cons, wd_e, wd_g, put_some, getP, setP, nthO]
        refine PDE.pure s1 rfl ?_
        refine PDraw.stage (Nat.le_of_ble_eq_true rfl) rfl ?_
        try dsimp only
        simp only [beq_self_eq_true, wanted_g, wantB_b, onX_s, onXG_t, onXI_s, rdX_e, ltN, ltD_s, onD_s, onDG_t, wx_nil, wx_cons, wx_p, wx_r, wx_g, wd_cons, wd_e, wd_g, pv_t, put_some, bi_geq, pevP, pevR, getP, setP, nthO, look, PW.cs?, cut0, cutS, baseP, ROp.base, List.length_cons, List.length_nil, List.drop_zero, Option.map_some, Option.bind_some, Bool.and_true, ↓reduceIte, reduceCtorEq, Nat.reduceAdd, Option.isSome_some, Nat.zero_add, List.length_cons, List.length_nil, g1]
        refine PDE.pure d2 rfl ?_
        refine PDraw.stage (Nat.le_of_ble_eq_true rfl) rfl ?_
        try dsimp only
        simp only [beq_self_eq_true, wanted_g, wantB_b, onD_s, onDG_t, wx_nil, wd_cons, wd_e, wd_g, put_some, getP, setP, nthO]
        refine PDE.pure d1 rfl ?_
        refine PDraw.last (Nat.le_of_ble_eq_true rfl) rfl ?_
        try dsimp only
        simp only [beq_self_eq_true, wanted_g, wantB_b, onX_s, onXG_t, onXI_s, rdX_e, ltN, ltD_s, wx_nil, wx_cons, wx_p, wx_r, wx_g, pv_t, pv_int, put_some, bi_gtr, bi_geq, pevP, pevR, getP, setP, nthO, look, PW.cs?, nthP, baseP, ROp.base, List.length_cons, List.length_nil, Option.map_some, Option.bind_some, Bool.and_true, ↓reduceIte, Nat.reduceAdd, Nat.reduceEqDiff, Option.isSome_some, Nat.zero_add, List.length_cons, List.length_nil, w2, g2]
        repeat (refine PRun.wpn rfl ?_; simp only [wp, pv_t, getP, ↓reduceIte, Bool.false_eq_true])
        refine Gh.mr [] [(0, 0), (1, 1), (2, 2), (3, 3)] 4 rfl ?_
        exact ⟨_, _, _, rfl, Nat.le_refl 4, rfl⟩
end
end Go.Proofs.YtnpoloachkcadaaGreatDoor.Ai

namespace Go.Proofs.YtnpoloachkcadaaGreatDoor.Ai
open Go
set_option linter.unusedVariables false
set_option linter.unusedSectionVars false
set_option maxRecDepth 10000
/-! ### TreeWithin, the whole body -/
theorem ltN_t : ∀ {a b : Nat}, a < b → ltN a b = true
  | _, 0, h => by omega
  | 0, _ + 1, _ => rfl
  | a + 1, b + 1, h => by simp only [ltN]; exact ltN_t (by omega)
theorem winS_ok {f0 : Fm} {j : Nat} {π : PW} (h : winS f0 j π) : 3 < 4 ∧ 4 ≤ π.next ∧ π.wf := by
  obtain ⟨n, H⟩ := π
  obtain ⟨hn, rfl⟩ := h
  refine ⟨by omega, hn, fun j o hj => ?_⟩
  simp only at hn
  simp only [look, winL] at hj
  repeat' split at hj
  all_goals first | (simp at hj; done) | (simp only [Option.some.injEq] at hj; subst hj; refine ⟨by simp only; omega, fun cs ty esz ex ret al he => ?_⟩; first | (cases he; done) | (simp only [PObj.cells.injEq] at he; obtain ⟨_, _, _, _, _, rfl⟩ := he; intro k hk; simp at hk))
theorem winS_up {f0 : Fm} {j : Nat} {π : PW} {n : Nat} (h : winS f0 j π) (hn : π.next ≤ n) : winS f0 j ⟨n, π.heap⟩ := ⟨Nat.le_trans h.1 hn, h.2⟩
section
variable {C : Ctx} (hm : C.P.follows .mixedOrders = true) (hC : TabOK C.P C.ng C.ts Tryz.tab) {itS : Nat → ByteArray} (hI : ∀ i : Nat, i < 2 ^ 40 → PFun C 91 [.lit (.int .i64 (i : Nat))] (.lit (.string (itS i)))) (hIs : ∀ i : Nat, i < 2 ^ 40 → (itS i).size ≤ 20)
include hm hC hI hIs
theorem within_top (hG0 : C.G 0 = some kidsC) (hw : PFun C 14 [] (.lit (.bool true))) (f : Fm) (of : f.ok) (pf : f.opsOK) : PTop C Tryz.tab 13 [fP f] (.lit (.bool true)) := by
  have hmu := much_ok hm hC [f] ⟨of, trivial⟩ (by simp)
  by_cases hmm : 1048576 < muchN 0 [f]
  · rw [yes_t hmm] at hmu
    clear hmm
    obtain ⟨o1, n1, k1⟩ := f
    simp only [fC, fL, List.cons_append, List.nil_append, List.length_cons, List.length_nil, Nat.reduceAdd] at hmu
    refine PTop.body (show Tryz.tab.get 13 = some Tryz.c13 from rfl) ?_
    simp only [Tryz.c13, startP, List.length_cons, List.length_nil, Nat.reduceAdd, Nat.reduceSub, List.replicate, List.cons_append, List.nil_append, fP, fC]
    repeat (refine PRun.wpn rfl ?_; simp only [wp, wo_nil, wo_n, wo_call, onN_s, ble_self, ble_succ, pv_t, ov_nil, ov_cons, ov_bool, put_some, pevR, pevN, getP, setP, evsP, boxP, PW.cs?, PW.push, PW.none, Option.map_some, Nat.zero_le, true_and, Bool.and_true, ↓reduceIte, ltL, lt, Nat.reduceAdd, Nat.zero_add, resPs, resP, tupP])
    refine .refl (PFun.to (hw) rfl (POps.wp ?_))
    simp only [wo_nil, wo_p, onO_s, pv_t, put_some, pevP, getP, setP]
    repeat (refine PRun.wpn rfl ?_; simp only [wp, wo_nil, wo_p, wo_r, wo_n, wo_call, onO_s, onN_s, ble0, pv_t, ov_nil, ov_cons, ov_int, ov_str, ov_nilS, put_some, pevP, pevR, pevN, getP, setP, evsP, fillP, spliceP, overP, look, PW.cs?, PW.push, cut0, cutS, List.length_cons, List.length_nil, List.drop_zero, Option.map_some, Option.bind_some, Nat.zero_le, true_and, Bool.and_true, ↓reduceIte, reduceCtorEq, ltL, lt, Nat.reduceAdd, Bool.false_eq_true, Nat.zero_add, Bool.not_true, List.length_cons, List.length_nil])
    refine Gh.frz 2 rfl rfl rfl ?_
    simp only [List.drop_zero, ↓reduceIte, reduceCtorEq, Nat.reduceEqDiff, frzL, frzP, frzO, frzH, Nat.le_refl]
    refine .refl (PFun.to (hmu) rfl (POps.wp ?_))
    simp only [wo_nil, wo_p, onO_s, pv_t, put_some, pevP, getP, setP]
    repeat (refine PRun.wpn rfl ?_; simp only [wp, wo_nil, wo_p, wo_st, wo_g, beq_self_eq_true, onO_s, onE_s, onG_f, wanted_g, wantB_b, wantB_u, b_tf, ble0, pv_t, pv_bool, put_some, put_none, pevP, pevE, getP, setP, spliceP, overP, plainP, isCell, look, Option.map_some, or_true, true_and, Bool.and_true, ↓reduceIte, reduceCtorEq, Bool.false_eq_true, allPlain, PW.wr, setO, killO, Bool.or_self, Bool.not_true])
    exact .refl ⟨_, rfl, .refl _⟩
  have s0 : f.size ≤ 1048576 := by
    simp only [muchN] at hmm
    rw [if_pos (by omega)] at hmm
    have := size_wt f 0 (by omega)
    omega
  rw [yes_f hmm] at hmu
  have c1 := right_ok hm hC hG0 f of pf (by omega)
  have c2 := rightPast_ok hm hC hG0 f of pf (by omega)
  have s1 := size_ok hm hC f.size f (Nat.le_refl _) (by omega)
  have d1 := depth_ok hm hC f.size f (Nat.le_refl _) (by omega)
  have hall := all_ok hm hC hI hIs f (by omega)
  have hrun : (rightE futB f = 0 ∨ rightE pastB f = 0) → ∀ π, winS f 0 π → PToB C 4 92 [.yld 3, .ref (fC f)] π fun _ π' => winS f f.size π' ∨ False := by
    intro hr π hs
    have hbig : f.size ≤ 1000 := by
      rcases hr with h | h
      · have := (rightE_zero.1 h).2; omega
      · have := (rightE_zero.1 h).2; omega
    refine all1_ok hm hC hI hIs (b := 4) (l := 3) (fun j π => winS f j π) (fun _ => False) f (fun j π h => winS_ok h) (fun j π n h hn => winS_up h hn) (fun π h => h.elim) (fun j x π hx hs => ?_) (by omega) π hs
    have hj : j < f.size := by
      have := (List.getElem?_eq_some_iff.1 hx).1
      rwa [visits_len] at this
    obtain ⟨hsub, hst⟩ := sub_visits itS f.size f (Nat.le_refl _) _ x (List.mem_of_getElem? hx)
    have hz := hsub.size
    refine (within_round hm hC f x.2 x.1 j (by omega) _ _ _ _ _ _ _ _ c1 c2 (right_ok hm hC hG0 x.2 (hsub.ok of) (hsub.ops pf) (by omega)) (rightPast_ok hm hC hG0 x.2 (hsub.ok of) (hsub.ops pf) (by omega)) s1 d1
      (size_ok hm hC x.2.size x.2 (Nat.le_refl _) (by omega)) (depth_ok hm hC x.2.size x.2 (Nat.le_refl _) (by omega)) (fun h => rightE_sub hsub h) (fun h => rightE_sub hsub h) (fun hq => ?_) π hs).mono fun r π' h => .inl h
    rcases hst with rfl | h
    · exact absurd rfl hq
    · exact h
  clear hmm s0 d1
  generalize f.size = sz at *
  generalize rightE futB f = rf at *
  generalize rightE pastB f = rp at *
  obtain ⟨o1, n1, k1⟩ := f
  simp only [fP, fC, fL, List.cons_append, List.nil_append, List.length_cons, List.length_nil, Nat.reduceAdd] at hmu c1 c2 s1 hall
  by_cases e1 : rf = 0
  · have hrun := hrun (.inl e1)
    refine PTop.body (show Tryz.tab.get 13 = some Tryz.c13 from rfl) ?_
    simp only [Tryz.c13, startP, List.length_cons, List.length_nil, Nat.reduceAdd, Nat.reduceSub, List.replicate, List.cons_append, List.nil_append, fP, fC]
    repeat (refine PRun.wpn rfl ?_; simp only [wp, wo_nil, wo_n, wo_call, onN_s, ble_self, ble_succ, pv_t, ov_nil, ov_cons, ov_bool, put_some, pevR, pevN, getP, setP, evsP, boxP, PW.cs?, PW.push, PW.none, Option.map_some, Nat.zero_le, true_and, Bool.and_true, ↓reduceIte, ltL, lt, Nat.reduceAdd, Nat.zero_add, resPs, resP, tupP])
    refine .refl (PFun.to (hw) rfl (POps.wp ?_))
    simp only [wo_nil, wo_p, onO_s, pv_t, put_some, pevP, getP, setP]
    repeat (refine PRun.wpn rfl ?_; simp only [wp, wo_nil, wo_p, wo_r, wo_n, wo_call, onO_s, onN_s, ble0, pv_t, ov_nil, ov_cons, ov_int, ov_str, ov_nilS, put_some, pevP, pevR, pevN, getP, setP, evsP, fillP, spliceP, overP, look, PW.cs?, PW.push, cut0, cutS, List.length_cons, List.length_nil, List.drop_zero, Option.map_some, Option.bind_some, Nat.zero_le, true_and, Bool.and_true, ↓reduceIte, reduceCtorEq, ltL, lt, Nat.reduceAdd, Bool.false_eq_true, Nat.zero_add, Bool.not_true, List.length_cons, List.length_nil])
    refine Gh.frz 2 rfl rfl rfl ?_
    simp only [List.drop_zero, ↓reduceIte, reduceCtorEq, Nat.reduceEqDiff, frzL, frzP, frzO, frzH, Nat.le_refl]
    refine .refl (PFun.to (hmu) rfl (POps.wp ?_))
    simp only [wo_nil, wo_p, onO_s, pv_t, put_some, pevP, getP, setP]
    repeat (refine PRun.wpn rfl ?_; simp only [wp, wo_p, wo_r, wo_call, wo_g, beq_self_eq_true, onO_s, onG_t, wanted_g, wantB_b, pv_t, put_some, pevP, pevR, getP, setP, evsP, look, PW.cs?, cut0, cutS, List.drop_zero, Option.map_some, Option.bind_some, Nat.zero_le, true_and, ↓reduceIte, reduceCtorEq])
    refine .refl (PFun.to (c1) rfl (POps.wp ?_))
    simp only [wo_nil, wo_p, wo_g, beq_self_eq_true, onO_s, onG_t, onG_f, wanted_g, wantB_b, b_ft, pv_t, pv_int, pv_bool, put_some, bi_neq, pevP, getP, setP, Option.map_some, neB_f e1]
    repeat (refine PRun.wpn rfl ?_; simp only [wp, wo_nil, wo_r, wo_n, wo_call, wo_st, beq_self_eq_true, onO_s, onN_s, onE_s, ble0, pv_t, pv_int, ov_nil, ov_cons, ov_int, put_some, put_none, pevR, pevN, pevE, getP, setP, evsP, spliceP, overP, plainP, isCell, look, PW.cs?, PW.push, cut0, cutS, List.drop_zero, Option.map_some, Option.bind_some, Nat.zero_le, true_and, Bool.and_true, ↓reduceIte, reduceCtorEq, ltL, lt, Nat.reduceAdd, Bool.false_eq_true, allPlain, PW.wr, setO, killO, Bool.or_self, Bool.not_true])
    refine .refl (PFun.to (hall) rfl (POps.wp ?_))
    simp only [wo_nil, setP]
    refine PRun.gh (Gh.mr (false :: true :: true :: true :: false :: true :: false :: false :: false :: false :: false :: false :: false :: false :: false :: false :: false :: false :: false :: false :: false :: false :: false :: false :: false :: false :: false :: true :: false :: false :: false :: false :: false :: false :: false :: false :: false :: false :: false :: false :: false :: false :: false :: false :: false :: false :: false :: false :: false :: false :: false :: false :: false :: false :: false :: false :: false :: false :: false :: false :: false :: false :: false :: false :: false :: false :: false :: false :: false :: false :: false :: false :: false :: false :: false :: false :: false :: []) [(0, 0), (1, 1), (3, 2)] 3 rfl ?_)
    simp only [↓reduceIte, reduceCtorEq, Nat.reduceEqDiff, Bool.false_eq_true, renL, renP, renO, renH, renA, lkN, maskP]
    repeat (refine PRun.wpn rfl ?_; simp only [wp, reduceCtorEq])
    refine PRun.range (Nat.zero_le _) (.refl ⟨3, 92, [], _, _, 4, rfl, Nat.zero_le _, by omega, rfl, ?_⟩)
    refine PToB.mono (hrun _ ⟨Nat.le_refl 4, rfl⟩) ?_
    rintro r ⟨n2, H2⟩ (⟨hn2, hH⟩ | hst)
    · simp only at hH
      subst hH
      have l0 : ltN 0 n2 = true := ltN_t (by simp only at hn2; omega)
      have l1 : ltN 1 n2 = true := ltN_t (by simp only at hn2; omega)
      have l2 : ltN 2 n2 = true := ltN_t (by simp only at hn2; omega)
      refine ⟨.ready, none, _, rfl, by simp, .refl ?_⟩
      simp only [killO, exitOf, List.filter, Nat.reduceBneDiff, fC]
      repeat (refine PRun.wpn rfl ?_; simp only [wp])
      refine PDraw.stage (Nat.zero_le _) rfl ?_
      try dsimp only
      simp only [beq_self_eq_true, wanted_g, wantB_b, onX_s, onXG_t, onXI_s, rdX_e, ltN, ltD_s, onD_s, onDG_t, wx_nil, wx_cons, wx_p, wx_r, wx_g, wd_cons, wd_e, wd_g, pv_t, put_some, pevP, pevR, getP, setP, nthO, look, PW.cs?, nthP, cut0, cutS, baseP, ROp.base, List.length_cons, List.length_nil, List.drop_zero, Option.map_some, Option.bind_some, Bool.and_true, ↓reduceIte, reduceCtorEq, Nat.reduceAdd, Option.isSome_some, Nat.zero_add, List.length_cons, List.length_nil, l0, l2]
      refine PDE.pure s1 rfl ?_
      refine PDraw.stage (Nat.zero_le _) rfl ?_
      try dsimp only
      simp only [beq_self_eq_true, wanted_g, wantB_b, onX_s, onXG_t, onXI_s, onD_s, wx_nil, wx_cons, wx_p, wx_g, wd_cons, wd_e, pv_t, put_some, bi_eql, pevP, getP, setP, nthO, Option.map_some, eqB_t rfl]
      refine PDE.ev (Nat.zero_le _) ?_
      try dsimp only
      simp only [beq_self_eq_true, pv_t, put_none, onDE_s, pevE, getP, spliceP, overP, plainP, isCell, look, Option.map_some, Bool.and_true, ↓reduceIte, Nat.reduceEqDiff, Bool.false_eq_true, allPlain, PW.wr, setO, killO, Bool.or_self, Bool.not_true]
      refine PDraw.last (Nat.zero_le _) rfl ?_
      try dsimp only
      simp only [wx_nil]
      repeat (refine PRun.wpn rfl ?_; simp only [wp, or_true, true_and, reduceCtorEq])
      exact .refl ⟨_, rfl, .refl _⟩
    · exact hst.elim
  · by_cases e2 : rp = 0
    · have hrun := hrun (.inr e2)
      refine PTop.body (show Tryz.tab.get 13 = some Tryz.c13 from rfl) ?_
      simp only [Tryz.c13, startP, List.length_cons, List.length_nil, Nat.reduceAdd, Nat.reduceSub, List.replicate, List.cons_append, List.nil_append, fP, fC]
      repeat (refine PRun.wpn rfl ?_; simp only [wp, wo_nil, wo_n, wo_call, onN_s, ble_self, ble_succ, pv_t, ov_nil, ov_cons, ov_bool, put_some, pevR, pevN, getP, setP, evsP, boxP, PW.cs?, PW.push, PW.none, Option.map_some, Nat.zero_le, true_and, Bool.and_true, ↓reduceIte, ltL, lt, Nat.reduceAdd, Nat.zero_add, resPs, resP, tupP])
      refine .refl (PFun.to (hw) rfl (POps.wp ?_))
      simp only [wo_nil, wo_p, onO_s, pv_t, put_some, pevP, getP, setP]
      repeat (refine PRun.wpn rfl ?_; simp only [wp, wo_nil, wo_p, wo_r, wo_n, wo_call, onO_s, onN_s, ble0, pv_t, ov_nil, ov_cons, ov_int, ov_str, ov_nilS, put_some, pevP, pevR, pevN, getP, setP, evsP, fillP, spliceP, overP, look, PW.cs?, PW.push, cut0, cutS, List.length_cons, List.length_nil, List.drop_zero, Option.map_some, Option.bind_some, Nat.zero_le, true_and, Bool.and_true, ↓reduceIte, reduceCtorEq, ltL, lt, Nat.reduceAdd, Bool.false_eq_true, Nat.zero_add, Bool.not_true, List.length_cons, List.length_nil])
      refine Gh.frz 2 rfl rfl rfl ?_
      simp only [List.drop_zero, ↓reduceIte, reduceCtorEq, Nat.reduceEqDiff, frzL, frzP, frzO, frzH, Nat.le_refl]
      refine .refl (PFun.to (hmu) rfl (POps.wp ?_))
      simp only [wo_nil, wo_p, onO_s, pv_t, put_some, pevP, getP, setP]
      repeat (refine PRun.wpn rfl ?_; simp only [wp, wo_p, wo_r, wo_call, wo_g, beq_self_eq_true, onO_s, onG_t, wanted_g, wantB_b, pv_t, put_some, pevP, pevR, getP, setP, evsP, look, PW.cs?, cut0, cutS, List.drop_zero, Option.map_some, Option.bind_some, Nat.zero_le, true_and, ↓reduceIte, reduceCtorEq])
      refine .refl (PFun.to (c1) rfl (POps.wp ?_))
      simp only [wo_p, wo_r, wo_call, wo_g, beq_self_eq_true, onO_s, onG_t, wanted_g, wantB_b, pv_t, pv_int, put_some, bi_neq, pevP, pevR, getP, setP, evsP, look, PW.cs?, cut0, cutS, List.drop_zero, Option.map_some, Option.bind_some, Nat.zero_le, true_and, ↓reduceIte, reduceCtorEq, neB_t e1]
      refine .refl (PFun.to (c2) rfl (POps.wp ?_))
      simp only [wo_nil, wo_p, wo_g, beq_self_eq_true, onO_s, onG_t, wanted_g, wantB_b, pv_t, pv_int, put_some, bi_neq, pevP, getP, setP, Option.map_some, neB_f e2]
      repeat (refine PRun.wpn rfl ?_; simp only [wp, wo_nil, wo_r, wo_n, wo_call, wo_st, beq_self_eq_true, onO_s, onN_s, onE_s, ble0, pv_t, pv_int, ov_nil, ov_cons, ov_int, put_some, put_none, pevR, pevN, pevE, getP, setP, evsP, spliceP, overP, plainP, isCell, look, PW.cs?, PW.push, cut0, cutS, List.drop_zero, Option.map_some, Option.bind_some, Nat.zero_le, true_and, Bool.and_true, ↓reduceIte, reduceCtorEq, ltL, lt, Nat.reduceAdd, Bool.false_eq_true, allPlain, PW.wr, setO, killO, Bool.or_self, Bool.not_true])
      refine .refl (PFun.to (hall) rfl (POps.wp ?_))
      simp only [wo_nil, setP]
      refine PRun.gh (Gh.mr (false :: true :: true :: true :: false :: true :: false :: false :: false :: false :: false :: false :: false :: false :: false :: false :: false :: false :: false :: false :: false :: false :: false :: false :: false :: false :: false :: true :: false :: false :: false :: false :: false :: false :: false :: false :: false :: false :: false :: false :: false :: false :: false :: false :: false :: false :: false :: false :: false :: false :: false :: false :: false :: false :: false :: false :: false :: false :: false :: false :: false :: false :: false :: false :: false :: false :: false :: false :: false :: false :: false :: false :: false :: false :: false :: false :: false :: []) [(0, 0), (1, 1), (3, 2)] 3 rfl ?_)
      simp only [↓reduceIte, reduceCtorEq, Nat.reduceEqDiff, Bool.false_eq_true, renL, renP, renO, renH, renA, lkN, maskP]
      repeat (refine PRun.wpn rfl ?_; simp only [wp, reduceCtorEq])
      refine PRun.range (Nat.zero_le _) (.refl ⟨3, 92, [], _, _, 4, rfl, Nat.zero_le _, by omega, rfl, ?_⟩)
      refine PToB.mono (hrun _ ⟨Nat.le_refl 4, rfl⟩) ?_
      rintro r ⟨n2, H2⟩ (⟨hn2, hH⟩ | hst)
      · simp only at hH
        subst hH
        have l0 : ltN 0 n2 = true := ltN_t (by simp only at hn2; omega)
        have l1 : ltN 1 n2 = true := ltN_t (by simp only at hn2; omega)
        have l2 : ltN 2 n2 = true := ltN_t (by simp only at hn2; omega)
        refine ⟨.ready, none, _, rfl, by simp, .refl ?_⟩
        simp only [killO, exitOf, List.filter, Nat.reduceBneDiff, fC]
        repeat (refine PRun.wpn rfl ?_; simp only [wp])
        refine PDraw.stage (Nat.zero_le _) rfl ?_
        try dsimp only
        simp only [beq_self_eq_true, wanted_g, wantB_b, onX_s, onXG_t, onXI_s, rdX_e, ltN, ltD_s, onD_s, onDG_t, wx_nil, wx_cons, wx_p, wx_r, wx_g, wd_cons, wd_e, wd_g, pv_t, put_some, pevP, pevR, getP, setP, nthO, look, PW.cs?, nthP, cut0, cutS, baseP, ROp.base, List.length_cons, List.length_nil, List.drop_zero, Option.map_some, Option.bind_some, Bool.and_true, ↓reduceIte, reduceCtorEq, Nat.reduceAdd, Option.isSome_some, Nat.zero_add, List.length_cons, List.length_nil, l0, l2]
        refine PDE.pure s1 rfl ?_
        refine PDraw.stage (Nat.zero_le _) rfl ?_
        try dsimp only
        simp only [beq_self_eq_true, wanted_g, wantB_b, onX_s, onXG_t, onXI_s, onD_s, wx_nil, wx_cons, wx_p, wx_g, wd_cons, wd_e, pv_t, put_some, bi_eql, pevP, getP, setP, nthO, Option.map_some, eqB_t rfl]
        refine PDE.ev (Nat.zero_le _) ?_
        try dsimp only
        simp only [beq_self_eq_true, pv_t, put_none, onDE_s, pevE, getP, spliceP, overP, plainP, isCell, look, Option.map_some, Bool.and_true, ↓reduceIte, Nat.reduceEqDiff, Bool.false_eq_true, allPlain, PW.wr, setO, killO, Bool.or_self, Bool.not_true]
        refine PDraw.last (Nat.zero_le _) rfl ?_
        try dsimp only
        simp only [wx_nil]
        repeat (refine PRun.wpn rfl ?_; simp only [wp, or_true, true_and, reduceCtorEq])
        exact .refl ⟨_, rfl, .refl _⟩
      · exact hst.elim
    · clear hrun
      refine PTop.body (show Tryz.tab.get 13 = some Tryz.c13 from rfl) ?_
      simp only [Tryz.c13, startP, List.length_cons, List.length_nil, Nat.reduceAdd, Nat.reduceSub, List.replicate, List.cons_append, List.nil_append, fP, fC]
      repeat (refine PRun.wpn rfl ?_; simp only [wp, wo_nil, wo_n, wo_call, onN_s, ble_self, ble_succ, pv_t, ov_nil, ov_cons, ov_bool, put_some, pevR, pevN, getP, setP, evsP, boxP, PW.cs?, PW.push, PW.none, Option.map_some, Nat.zero_le, true_and, Bool.and_true, ↓reduceIte, ltL, lt, Nat.reduceAdd, Nat.zero_add, resPs, resP, tupP])
      refine .refl (PFun.to (hw) rfl (POps.wp ?_))
      simp only [wo_nil, wo_p, onO_s, pv_t, put_some, pevP, getP, setP]
      repeat (refine PRun.wpn rfl ?_; simp only [wp, wo_nil, wo_p, wo_r, wo_n, wo_call, onO_s, onN_s, ble0, pv_t, ov_nil, ov_cons, ov_int, ov_str, ov_nilS, put_some, pevP, pevR, pevN, getP, setP, evsP, fillP, spliceP, overP, look, PW.cs?, PW.push, cut0, cutS, List.length_cons, List.length_nil, List.drop_zero, Option.map_some, Option.bind_some, Nat.zero_le, true_and, Bool.and_true, ↓reduceIte, reduceCtorEq, ltL, lt, Nat.reduceAdd, Bool.false_eq_true, Nat.zero_add, Bool.not_true, List.length_cons, List.length_nil])
      refine Gh.frz 2 rfl rfl rfl ?_
      simp only [List.drop_zero, ↓reduceIte, reduceCtorEq, Nat.reduceEqDiff, frzL, frzP, frzO, frzH, Nat.le_refl]
      refine .refl (PFun.to (hmu) rfl (POps.wp ?_))
      simp only [wo_nil, wo_p, onO_s, pv_t, put_some, pevP, getP, setP]
      repeat (refine PRun.wpn rfl ?_; simp only [wp, wo_p, wo_r, wo_call, wo_g, beq_self_eq_true, onO_s, onG_t, wanted_g, wantB_b, pv_t, put_some, pevP, pevR, getP, setP, evsP, look, PW.cs?, cut0, cutS, List.drop_zero, Option.map_some, Option.bind_some, Nat.zero_le, true_and, ↓reduceIte, reduceCtorEq])
      refine .refl (PFun.to (c1) rfl (POps.wp ?_))
      simp only [wo_p, wo_r, wo_call, wo_g, beq_self_eq_true, onO_s, onG_t, wanted_g, wantB_b, pv_t, pv_int, put_some, bi_neq, pevP, pevR, getP, setP, evsP, look, PW.cs?, cut0, cutS, List.drop_zero, Option.map_some, Option.bind_some, Nat.zero_le, true_and, ↓reduceIte, reduceCtorEq, neB_t e1]
      refine .refl (PFun.to (c2) rfl (POps.wp ?_))
      simp only [wo_nil, wo_p, wo_g, beq_self_eq_true, onO_s, onG_t, wanted_g, wantB_b, pv_t, pv_int, put_some, bi_neq, pevP, getP, setP, Option.map_some, neB_t e2]
      repeat (refine PRun.wpn rfl ?_; simp only [wp, wo_nil, wo_p, wo_st, beq_self_eq_true, onO_s, onE_s, ble0, pv_t, put_some, put_none, pevP, pevE, getP, setP, spliceP, overP, plainP, isCell, look, Option.map_some, or_true, true_and, Bool.and_true, ↓reduceIte, reduceCtorEq, Bool.false_eq_true, allPlain, PW.wr, setO, killO, Bool.or_self, Bool.not_true])
      exact .refl ⟨_, rfl, .refl _⟩
end
end Go.Proofs.YtnpoloachkcadaaGreatDoor.Ai
