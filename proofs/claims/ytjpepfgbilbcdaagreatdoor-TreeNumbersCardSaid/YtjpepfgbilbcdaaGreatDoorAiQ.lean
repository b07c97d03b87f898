/- A PART OF THE PROOF THAT AN INTERPRETER OF THE PROGRAM'S FUNCTIONS IS SOUND: a step of it. -/
import Derived.Test.YtjpepfgbilbcdaaGreatDoorAiP
namespace Go.Proofs.YtjpepfgbilbcdaaGreatDoor.Ai
open Go
set_option linter.unusedSimpArgs false

section
variable {P : Program} {ng : Nat} {ts : List TypeId} {N0 : Nat} {μ μ' : Nat → Loc} {σ σ' : AW} {w w' : World} {e : List Value}

theorem CellsRep.put {n j : Nat} {c : CB} (h : CellsRep μ n j c w) {B p : Nat} {vs : List Value} {C : Array Value} {t : TypeId} {fr : Nat × Nat} (hput : RowPut w w' B p vs C t fr)
    (hrow : w.heap[B]? = some (.cells C t fr)) (hB : (μ j).blk = B) (hle : (μ j).sh + c.cs.length ≤ p) : CellsRep μ n j c w' := by
  obtain ⟨C', h1, h2, h3⟩ := hput.row
  obtain ⟨C0, t0, fr0, g1, gt, g2, g3⟩ := h.cell
  rw [hB, hrow] at g1
  simp only [Option.some.injEq, Obj.cells.injEq] at g1
  obtain ⟨rfl, rfl, rfl⟩ := g1
  refine ⟨h.l, h.ex, h.sh0, ?_, C', t, fr, by rw [hB]; exact h1, gt, by rw [h2]; exact g2, ?_⟩
  · intro hf k hk1 hk2
    have := h.fz hf k hk1 hk2
    rw [hB] at this ⊢
    simp only [World.frozen?, hrow] at this
    simp only [World.frozen?, h1]
    exact this
  · intro k v hk
    have hlt : k < c.cs.length := (List.getElem?_eq_some_iff.1 hk).1
    rw [h3, if_neg (by omega)]
    exact g3 k v hk

theorem firstCells_slice (h : Rep P ng ts N0 μ σ w) {a : Addr} (ha : a.spot = none) {k len cap : Nat} {b : CB} (hb : σ.cells? a.block = some b) {old : List Value} (hold : cutV (len * k) (dropV a.off b.cs) = some old) :
    (∀ w1, w1.heap = w.heap → (Builtin.firstCells k len (.slice (some (cAddr μ a)) len cap)).run P w1 = .ok ⟨concL μ old⟩ w1) ∧ ltL σ.next old = true ∧ old.length = len * k ∧ ∀ j, j < len * k → old[j]? = b.cs[a.off + j]? := by
  have hrd : σ.rdN a (len * k) = some old := by simp only [AW.rdN, hb]; exact hold
  obtain ⟨h1, h2⟩ := (cutV_some _ _ _).1 hold
  rw [dropV_eq] at h1 h2
  refine ⟨?_, (rdN_sound h ha hrd).2.1, (rdN_sound h ha hrd).2.2, ?_⟩
  · intro w1 hw1
    -- the same rows, another world
    have hc := h.cells hb
    have hl : (concL μ old).length = len * k := by rw [concL_length]; exact (rdN_sound h ha hrd).2.2
    have := run_loadCells_list (P := P) w1 (cAddr μ a) (concL μ old) (by
      intro j v hj
      rw [concL_getElem?, Option.map_eq_some_iff] at hj
      obtain ⟨x, hx, rfl⟩ := hj
      have hjk : j < len * k := by
        have := (List.getElem?_eq_some_iff.1 hx).1
        have h3 : old.length = len * k := (rdN_sound h ha hrd).2.2
        omega
      rw [h2, List.getElem?_take_of_lt hjk, List.getElem?_drop] at hx
      have hat := hc.at hx
      rw [cAddr_eta μ a ha, add_mk, Nat.add_assoc]
      simp only [World.cell?, hw1] at hat ⊢
      exact hat)
    rw [hl] at this
    simp only [Builtin.firstCells]
    rw [this]
  · intro j hj
    rw [h2, List.getElem?_take_of_lt hj, List.getElem?_drop]

/-- what an append of n elements does, by the machine -/
structure AppRun (P : Program) (el : TypeId) (bytes : Nat) (z : List Value) (n : Nat) (new : List Value) (w : World) (app : Value → Sem Value) : Prop where
  fits : ∀ {base : Option Addr} {len cap : Nat} {w' : World}, len + n ≤ cap → (match base with | some a => (storeCells (a.add (len * z.length)) new).run P w = .ok () w' | none => w' = w) → (app (.slice base len cap)).run P w = .ok (.slice base (len + n) cap) w'
  grows : ∀ {base : Option Addr} {len cap : Nat} {old : List Value}, ¬ len + n ≤ cap → (2 * (len + n) + 768) * bytes ≤ 140737488355328 → (∀ w1, w1.heap = w.heap → (Builtin.firstCells z.length len (.slice base len cap)).run P w1 = .ok ⟨old⟩ w1) →
    ∃ nc w1, len + n ≤ nc ∧ w1.heap = w.heap.push (.cells (old ++ new ++ (List.replicate (nc - (len + n)) z).flatten).toArray el) ∧ w1.os = w.os ∧ w1.tape = w.tape ∧ w1.output = w.output ∧
      (app (.slice base len cap)).run P w = .ok (.slice (some ⟨w.heap.size, 0, none⟩) (len + n) nc) w1
theorem AppIn.run {t el u ty : TypeId} {i : TypeInfo} {z : List Value} {X : Value} {n : Nat} {new : List Value} (h : AppIn P t el u i z X n new w) : AppRun P el i.bytes z n new w (fun S => Builtin.append_ #[t, u] ty #[S, X]) :=
  ⟨fun hf hst => append_fits h hf hst, fun hf hb hold => append_grows h hf hb hold⟩
theorem appendV_sound (h : Rep P ng ts N0 μ σ w) {el : TypeId} {bytes : Nat} {z : List Value} {n : Nat} {new : List Value} {app : Value → Sem Value} (hin : AppRun P el bytes z n (concL μ new) w app) {S V : Value} (hS : lt σ.next S = true)
    (hnl : ltL σ.next new = true) (hnn : new.length = n * z.length) (hv : appendV σ el z.length bytes S new n = some (V, σ')) :
    ∃ μ' w', Rep P ng ts N0 μ' σ' w' ∧ Goes μ σ w μ' σ' w' ∧ lt σ'.next V = true ∧ (app (conc μ S)).run P w = .ok (conc μ' V) w' := by
  -- a new row
  have fresh : ∀ (σ1 : AW) (old : List Value) (al : List Nat) (len cap : Nat) (base : Option Addr) (k : Nat) (σ2 : AW), Rep P ng ts N0 μ σ1 w → Goes μ σ w μ σ1 w → σ1.next = σ.next → ltL σ.next old = true → old.length = len * z.length →
      (∀ j ∈ al, j < σ1.next ∧ ∀ bj, σ1.heap.get j = some bj → ∃ cj, bj = .cells cj ∧ cj.retired = true ∧ cj.ro = false) →
      (∀ w1, w1.heap = w.heap → (Builtin.firstCells z.length len (.slice base len cap)).run P w1 = .ok ⟨concL μ old⟩ w1) → ¬ len + n ≤ cap → (2 * (len + n) + 768) * bytes ≤ 140737488355328 →
      σ1.push (.cells (newCB el z.length (old ++ new) false al)) = some (k, σ2) →
      ∃ μ' w', Rep P ng ts N0 μ' σ2 w' ∧ Goes μ σ w μ' σ2 w' ∧ lt σ2.next (.slice (some ⟨k, 0, none⟩) (len + n) (len + n)) = true ∧
        (app (.slice base len cap)).run P w = .ok (conc μ' (.slice (some ⟨k, 0, none⟩) (len + n) (len + n))) w' := by
    intro σ1 old al len cap base k σ2 hr1 hg1 hnx hol hlen hal hfc hnf hby hp
    obtain ⟨nc, w1, hnc, hheap, hos, htp, hout, hrun⟩ := hin.grows hnf hby hfc
    have hcr : CellsRep (upd μ σ1.next ⟨w.heap.size, 0, nc - (len + n)⟩) (σ1.next + 1) σ1.next (newCB el z.length (old ++ new) false al) w1 := by
      refine newCells_rep (μ := μ) (n := σ1.next) (by rw [hnx]; exact ltL_append.2 ⟨hol, hnl⟩) el z.length false al (List.replicate (nc - (len + n)) z).flatten (nc - (len + n)) (by simp) (by simp) ?_
      rw [hheap, concL_append]
    obtain ⟨rfl, hn2, hr2, hg2⟩ := hr1.push hp (ob := .cells (concL μ old ++ concL μ new ++ (List.replicate (nc - (len + n)) z).flatten).toArray el) (ex := nc - (len + n)) rfl (by
      intro c hc j hj
      simp only [Blk.cells.injEq] at hc
      subst hc
      exact hal j hj) hos htp hout hheap hcr
    refine ⟨_, w1, hr2, hg1.trans hg2, by simp [hn2], ?_⟩
    rw [hrun]
    simp only [conc_ssome, cAddr, upd_same, Nat.zero_add]
    congr 2
    omega
  unfold appendV at hv
  split at hv
  · rename_i base len cap
    split at hv
    · rename_i hfit
      split at hv
      · -- nothing is put
        rename_i hn0
        simp only [Option.some.injEq, Prod.mk.injEq] at hv
        obtain ⟨rfl, rfl⟩ := hv
        have hnew : new = [] := by rw [hn0] at hnn; simpa using hnn
        subst hnew
        refine ⟨μ, w, h, Goes.refl _ _ _, hS, ?_⟩
        cases base with
        | none => rw [conc_snone, hin.fits (base := none) (w' := w) hfit rfl]; simp [hn0]
        | some a =>
          rw [conc_ssome, hin.fits (base := some (cAddr μ a)) (w' := w) (by omega) (by simp [concL, storeCells])]
          simp [hn0]
      · rename_i hn0
        split at hv
        · rename_i a
          simp only [Option.map_eq_some_iff, Prod.mk.injEq] at hv
          obtain ⟨σ1, hw, rfl, rfl⟩ := hv
          rw [lt_ssome] at hS
          obtain ⟨w', hrun, hrep, hgo⟩ := wrN_sound h hw hnl
          refine ⟨μ, w', hrep, hgo, ?_, ?_⟩
          · rw [lt_ssome]; exact ⟨Nat.lt_of_lt_of_le hS.1 hgo.next, hS.2⟩
          · rw [conc_ssome, hin.fits (base := some (cAddr μ a)) (w' := w') (by omega) (by
              show (storeCells ((cAddr μ a).add (len * z.length)) (concL μ new)).run P w = .ok () w'
              rw [cAddr_eta μ a hS.2, add_mk, Nat.add_assoc]; exact hrun)]
            simp
        · simp at hv
    · rename_i hnf
      split at hv
      · simp at hv
      · rename_i hby
        split at hv
        · simp at hv
        · rename_i hcells
          have hcells : allCells new = true := by simpa using hcells
          split at hv
          · -- nil
            split at hv
            · rename_i hl0
              subst hl0
              simp only [Option.map_eq_some_iff, Prod.mk.injEq, Prod.exists] at hv
              obtain ⟨k, σ2, hp, rfl, rfl⟩ := hv
              have := fresh σ [] [] 0 cap none k σ2 h (Goes.refl _ _ _) rfl (by simp [ltL]) (by simp) (by simp) (by intro w1 _; simp [Builtin.firstCells, concL]) hnf (by omega) (by simpa using hp)
              simpa using this
            · simp at hv
          · rename_i a
            rw [lt_ssome] at hS
            split at hv
            · simp at hv
            · rename_i b hb
              split at hv
              · simp at hv
              · rename_i old hold
                obtain ⟨hfc, hol, hlen, hget⟩ := firstCells_slice (cap := cap + (μ a.block).ex) h hS.2 hb hold
                have hi := cells?_some.1 hb
                have hcr := h.cells hb
                split at hv
                · rename_i hex
                  simp only [Option.map_eq_some_iff, Prod.mk.injEq, Prod.exists] at hv
                  obtain ⟨k, σ2, hp, rfl, rfl⟩ := hv
                  rw [conc_ssome]
                  exact fresh σ old [] len (cap + (μ a.block).ex) _ k σ2 h (Goes.refl _ _ _) rfl hol hlen (by simp) hfc (by rw [hcr.ex hex]; omega) (by omega) hp
                · rename_i hex
                  split at hv
                  · simp at hv
                  · rename_i hcond
                    simp only [Bool.or_eq_true, bne_iff_ne, ne_eq, not_or, Decidable.not_not, Bool.not_eq_true] at hcond
                    obtain ⟨⟨⟨⟨⟨hret, hfz⟩, hro⟩, hend⟩, hesz⟩, hty⟩ := hcond
                    -- where it has room
                    have place : ∀ (H : Tr Blk) (al : List Nat), (∀ k c, H.get k = some c → (k ≠ a.block ∧ σ.heap.get k = some c) ∨ (k = a.block ∧ c = .cells { b with retired := true })) →
                        (∀ j ∈ al, j < σ.next ∧ ∀ bj, H.get j = some bj → ∃ cj, bj = .cells cj ∧ cj.retired = true ∧ cj.ro = false) →
                        (∀ j c, H.get j = some c → isRo c = false → (μ j).blk = (μ a.block).blk → len = cap ∧ j ∈ al ∧ (j = a.block ∨ ∃ cj, σ.heap.get j = some (.cells cj) ∧ c = .cells cj ∧ cj.retired = true ∧ (μ j).sh + cj.cs.length ≤ (μ a.block).sh + b.cs.length)) →
                        ∀ k σ2, ({ σ with heap := H } : AW).push (.cells (newCB el z.length (old ++ new) false al)) = some (k, σ2) →
                        ∃ μ' w', Rep P ng ts N0 μ' σ2 w' ∧ Goes μ σ w μ' σ2 w' ∧ lt σ2.next (.slice (some ⟨k, 0, none⟩) (len + n) (len + n)) = true ∧
                          (app (.slice (some (cAddr μ a)) len (cap + (μ a.block).ex))).run P w = .ok (conc μ' (.slice (some ⟨k, 0, none⟩) (len + n) (len + n))) w' := by
                      intro H al hH hal hsame k σ2 hp
                      by_cases hroom : len + n ≤ cap + (μ a.block).ex
                      · obtain ⟨C, fr, hC1, hC2, hC3⟩ := hcr.mine (by simpa using hro)
                        have hm1 : (len + n) * z.length ≤ (cap + (μ a.block).ex) * z.length := Nat.mul_le_mul_right _ hroom
                        rw [Nat.add_mul, Nat.add_mul] at hm1
                        rw [← hesz] at hC2
                        have hCs : C.size = (μ a.block).sh + a.off + cap * z.length + (μ a.block).ex * z.length := by rw [hC2, ← hend]; omega
                        obtain ⟨w', hrun, hput⟩ := run_storeRow (P := P) (o := (μ a.block).sh + a.off + len * z.length) (vs := concL μ new) hC1 (by rw [concL_length, hnn]; omega) (by
                          intro j hj
                          rw [concL_length] at hj
                          refine hcr.fz hfz _ (by omega) ?_
                          rw [← hesz, ← hend]; omega) (allCells_conc μ hcells)
                        have hp' := hp
                        unfold AW.push at hp'
                        split at hp'
                        · rename_i hm
                          simp only [Option.some.injEq, Prod.mk.injEq] at hp'
                          obtain ⟨rfl, rfl⟩ := hp'
                          have hloc : (cap + (μ a.block).ex - (len + n)) * z.length + (len + n) * z.length = (cap + (μ a.block).ex) * z.length := by rw [← Nat.add_mul]; congr 1; omega
                          rw [Nat.add_mul len n, Nat.add_mul cap] at hloc
                          obtain ⟨C', hC1', hC2', hC3'⟩ := hput.row
                          have hjoin := h.join (w' := w') (H := H) (nb := newCB el z.length (old ++ new) false al) hi hro rfl hm hH (loc := ⟨(μ a.block).blk, (μ a.block).sh + a.off, cap + (μ a.block).ex - (len + n)⟩) rfl hal hput.os hput.tape hput.output hput.size hput.other (by
                            intro j c hj hr hB
                            obtain ⟨hlc, hjal, hcase⟩ := hsame j c hj hr hB
                            rcases hcase with rfl | ⟨cj, h1, rfl, h2, h3⟩
                            · rcases hH _ c hj with ⟨hne, _⟩ | ⟨_, rfl⟩
                              · exact absurd rfl hne
                              · have hq : CellsRep μ σ.next a.block { b with retired := true } w := ⟨hcr.l, hcr.ex, hcr.sh0, hcr.fz, hcr.cell⟩
                                refine ⟨hq.put hput hC1 rfl (by simp only; rw [← hend, hlc]; omega), _, rfl, hjal, rfl, ?_⟩
                                simp only [newCB, List.length_append, hlen, hnn]
                                rw [← hend, hlc]; omega
                            · have hq : CellsRep μ σ.next j cj w := (h.blk j _ h1).2.2
                              refine ⟨hq.put hput hC1 hB (by rw [← hend, ← hlc] at h3; omega), cj, rfl, hjal, h2, ?_⟩
                              simp only [newCB, List.length_append, hlen, hnn]
                              rw [← hend, ← hlc] at h3; omega) (by
                            have hcon : ∀ l, ltL σ.next l = true → concL (upd μ σ.next ⟨(μ a.block).blk, (μ a.block).sh + a.off, cap + (μ a.block).ex - (len + n)⟩) l = concL μ l := fun l hl => concL_congr (fun j hj => upd_ne _ _ (by omega)) l hl
                            refine ⟨ltL_mono (Nat.le_succ _) _ (ltL_append.2 ⟨hol, hnl⟩), by simp [newCB], by simp [newCB], ?_, C', b.ty, fr, ?_, fun _ => by simp only [newCB]; exact hty.symm, ?_, ?_⟩
                            · intro _ j hj1 hj2
                              rw [upd_same] at hj1 hj2 ⊢
                              simp only [newCB, List.length_append, hlen, hnn] at hj1 hj2
                              have := hcr.fz hfz j (by omega) (by rw [← hesz, ← hend]; omega)
                              simp only [World.frozen?, hC1] at this
                              simp only [World.frozen?, hC1']
                              exact this
                            · rw [upd_same]; exact hC1'
                            · rw [upd_same, hC2', hCs]; simp only [newCB, List.length_append, hlen, hnn]; omega
                            · intro j v hj
                              rw [upd_same]
                              have hj' : (old ++ new)[j]? = some v := hj
                              have hvc : conc (upd μ σ.next ⟨(μ a.block).blk, (μ a.block).sh + a.off, cap + (μ a.block).ex - (len + n)⟩) v = conc μ v := conc_congr (fun i hi => upd_ne _ _ (by omega)) v (ltL_getElem (ltL_append.2 ⟨hol, hnl⟩) hj')
                              rw [hvc, hC3']
                              simp only [concL_length, hnn]
                              by_cases hjl : j < len * z.length
                              · rw [List.getElem?_append_left (by omega)] at hj'
                                rw [if_neg (by omega), Nat.add_assoc]
                                exact hC3 _ v (by rw [← hget j hjl]; exact hj')
                              · rw [List.getElem?_append_right (by omega)] at hj'
                                have hjn : j - old.length < new.length := (List.getElem?_eq_some_iff.1 hj').1
                                rw [if_pos ⟨by omega, by omega, by omega⟩, concL_getElem?, show (μ a.block).sh + a.off + j - ((μ a.block).sh + a.off + len * z.length) = j - old.length by omega, hj']
                                rfl)
                          refine ⟨_, w', hjoin.1, hjoin.2, by simp, ?_⟩
                          rw [hin.fits (base := some (cAddr μ a)) (w' := w') hroom (by
                            show (storeCells ((cAddr μ a).add (len * z.length)) (concL μ new)).run P w = .ok () w'
                            rw [cAddr_eta μ a hS.2, add_mk]; exact hrun)]
                          simp only [conc_ssome, cAddr, upd_same, Nat.add_zero, hS.2]
                          congr 2
                          omega
                        · simp at hp'
                      · obtain ⟨hr1, hg1⟩ := h.less hi hro hH
                        exact fresh _ old al len (cap + (μ a.block).ex) _ k σ2 hr1 hg1 rfl hol hlen hal hfc hroom (by omega) hp
                    split at hv
                    · rename_i hlc
                      simp only [Option.map_eq_some_iff, Prod.mk.injEq, Prod.exists] at hv
                      obtain ⟨k, σ2, hp, rfl, rfl⟩ := hv
                      rw [conc_ssome]
                      have him := (h.blk _ _ hi).2.1
                      have hgetH : ∀ k, (σ.heap.set a.block (.cells { b with retired := true })).get k = if k = a.block then some (.cells { b with retired := true }) else σ.heap.get k := fun k => Tr.get_set _ _ _ _ (by unfold most at him; omega)
                      refine place _ (a.block :: b.al) ?_ ?_ ?_ k σ2 hp
                      · intro k c hk
                        rw [hgetH] at hk
                        split at hk
                        · rename_i hks; simp at hk; exact .inr ⟨hks, hk.symm⟩
                        · rename_i hks; exact .inl ⟨hks, hk⟩
                      · intro j hj
                        simp only [List.mem_cons] at hj
                        rcases hj with rfl | hj
                        · refine ⟨hS.1, fun bj hbj => ?_⟩
                          rw [hgetH, if_pos rfl] at hbj
                          simp at hbj; subst hbj
                          exact ⟨_, rfl, rfl, hro⟩
                        · obtain ⟨g1, g2⟩ := h.al _ _ hi j hj
                          refine ⟨by omega, fun bj hbj => ?_⟩
                          rw [hgetH, if_neg (by omega)] at hbj
                          exact g2 bj hbj
                      · intro j c hj hr hB
                        refine ⟨hlc, ?_⟩
                        by_cases hji : j = a.block
                        · exact ⟨by simp [hji], .inl hji⟩
                        · rw [hgetH, if_neg hji] at hj
                          rcases Nat.lt_or_gt_of_ne hji with hlt | hgt
                          · obtain ⟨ci, cj, e1, e2, e3, e4, e5⟩ := h.dis j a.block c _ hj hi hr (by simp [isRo, hro]) hlt hB
                            simp at e2; subst e2 e1
                            exact ⟨by simp [e3], .inr ⟨ci, hj, rfl, e4, e5⟩⟩
                          · obtain ⟨ci, cj, e1, e2, e3, e4, e5⟩ := h.dis a.block j _ c hi hj (by simp [isRo, hro]) hr hgt hB.symm
                            simp at e1; subst e1
                            rw [hret] at e4; simp at e4
                    · rename_i hlc
                      simp only [Option.map_eq_some_iff, Prod.mk.injEq, Prod.exists] at hv
                      obtain ⟨k, σ2, hp, rfl, rfl⟩ := hv
                      rw [conc_ssome]
                      have halm : ∀ j ∈ a.block :: b.al, j < most := by
                        intro j hj
                        simp only [List.mem_cons] at hj
                        have := (h.blk _ _ hi).2.1
                        rcases hj with rfl | hj
                        · exact this
                        · have := (h.al _ _ hi j hj).1; omega
                      have hgetH := get_killAll (a.block :: b.al) σ.heap halm
                      refine place _ [] ?_ (by simp) ?_ k σ2 hp
                      · intro k c hk
                        rw [hgetH] at hk
                        split at hk
                        · simp at hk
                        · rename_i hks; exact .inl ⟨by simp at hks; exact hks.1, hk⟩
                      · intro j c hj hr hB
                        exfalso
                        rw [hgetH] at hj
                        split at hj
                        · simp at hj
                        · rename_i hks
                          simp only [List.mem_cons, not_or] at hks
                          rcases Nat.lt_or_gt_of_ne hks.1 with hlt | hgt
                          · obtain ⟨ci, cj, e1, e2, e3, e4, e5⟩ := h.dis j a.block c _ hj hi hr (by simp [isRo, hro]) hlt hB
                            simp at e2; subst e2
                            exact hks.2 e3
                          · obtain ⟨ci, cj, e1, e2, e3, e4, e5⟩ := h.dis a.block j _ c hi hj (by simp [isRo, hro]) hr hgt hB.symm
                            simp at e1; subst e1
                            rw [hret] at e4; simp at e4
  · simp at hv
end
end Go.Proofs.YtjpepfgbilbcdaaGreatDoor.Ai
