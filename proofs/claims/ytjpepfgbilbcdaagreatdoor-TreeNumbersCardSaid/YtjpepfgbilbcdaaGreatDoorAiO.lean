/- A PART OF THE PROOF THAT AN INTERPRETER OF THE PROGRAM'S FUNCTIONS IS SOUND: a step of it. -/
import Derived.Test.YtjpepfgbilbcdaaGreatDoorAiN
namespace Go.Proofs.YtjpepfgbilbcdaaGreatDoor.Ai
open Go
set_option linter.unusedSimpArgs false

section
variable {P : Program} {ng : Nat} {ts : List TypeId} {N0 : Nat} {μ μ' : Nat → Loc} {σ σ' : AW} {w w' : World} {e : List Value}

theorem wrN_sound (h : Rep P ng ts N0 μ σ w) {i off : Nat} {vs : List Value} (hw : σ.wrN i off vs = some σ') (hl : ltL σ.next vs = true) :
    ∃ w', (storeCells ⟨(μ i).blk, (μ i).sh + off, none⟩ (concL μ vs)).run P w = .ok () w' ∧ Rep P ng ts N0 μ σ' w' ∧ Goes μ σ w μ σ' w' := by
  unfold AW.wrN at hw
  split at hw
  · rename_i b hb
    split at hw
    · simp at hw
    · rename_i hc
      simp only [Bool.or_eq_true, Bool.not_eq_true', not_or, Bool.not_eq_true, Bool.not_eq_false] at hc
      obtain ⟨⟨⟨hro, hret⟩, hfz⟩, hcells⟩ := hc
      split at hw
      · rename_i cs hcs
        simp at hw; subst hw
        have hi := cells?_some.1 hb
        have hcr := h.cells hb
        obtain ⟨C, fr, hC1, hC2, hC3⟩ := hcr.mine (by simpa using hro)
        obtain ⟨hs1, hs2, hs3⟩ := spliceV_some _ _ _ _ hcs
        -- the write
        obtain ⟨w', hrun, hput⟩ : ∃ w', (storeCells ⟨(μ i).blk, (μ i).sh + off, none⟩ (concL μ vs)).run P w = .ok () w' ∧ RowPut w w' (μ i).blk ((μ i).sh + off) (concL μ vs) C b.ty fr := by
          rcases hs1 with rfl | hs1
          · exact ⟨w, by simp [concL, storeCells], rfl, ⟨C, hC1, rfl, fun k => by simp [concL]; intro h1 h2; omega⟩, fun _ _ => rfl, rfl, rfl, rfl⟩
          · refine run_storeRow hC1 (by rw [concL_length]; omega) ?_ (allCells_conc μ hcells)
            intro j hj
            rw [concL_length] at hj
            exact hcr.fz hfz _ (by omega) (by omega)
        refine ⟨w', hrun, ?_⟩
        obtain ⟨C', hC1', hC2', hC3'⟩ := hput.row
        refine h.update hi hro hret hro rfl hput.os hput.tape hput.output hput.size hput.other ⟨splice_lt hcs hcr.l hl, hcr.ex, hcr.sh0, ?_, C', _, fr, hC1', fun _ => rfl, ?_, ?_⟩
        · intro hf k hk1 hk2
          have hk2' : k < (μ i).sh + b.cs.length + (μ i).ex * b.esz := by rw [← hs2]; exact hk2
          have := hcr.fz hfz k hk1 hk2'
          simp only [World.frozen?, hC1] at this
          simp only [World.frozen?, hC1']
          exact this
        · simp only; rw [hC2', hC2, hs2]
        · intro k v hk
          rw [hs3 k] at hk
          rw [hC3']
          simp only [concL_length, concL_getElem?]
          by_cases hkk : off ≤ k ∧ k < off + vs.length
          · rw [if_pos hkk] at hk
            have hlen : k < cs.length := by
              rcases hs1 with h0 | hs1
              · rw [h0] at hkk; simp at hkk; omega
              · omega
            rw [if_pos ⟨by omega, by omega, by omega⟩, show (μ i).sh + k - ((μ i).sh + off) = k - off by omega, hk]
            rfl
          · rw [if_neg hkk] at hk
            rw [if_neg (by omega)]
            exact hC3 k v hk
      · simp at hw
  · simp at hw

/-- what is to be shown of an operation that changes memory and calls nothing -/
def ESound (P : Program) (ng : Nat) (ts : List TypeId) (N0 : Nat) (μ : Nat → Loc) (σ : AW) (e : List Value) (o : Oper) (v : Value) (σ' : AW) (w : World) : Prop :=
  ∃ μ' w' nx, Rep P ng ts N0 μ' σ' w' ∧ Goes μ σ w μ' σ' w' ∧ lt σ'.next v = true ∧ (execOp (evc μ e) o).run P w = .ok nx w' ∧ (nx = .value (conc μ' v) ∨ nx = .skip ∧ v = undef)

theorem sE_st (h : Rep P ng ts N0 μ σ w) (he : ltL σ.next e = true) {K : Ks} {o : Oper} {t : TypeId} {k : Nat} {a x : Operand} (hop : o.op = .store t a x) (ht : szOf P t = some k) (ha : okOpd ng a = true) (hx : okOpd ng x = true)
    {v : Value} (hv : runE K e σ (.st k (cOpd a) (cOpd x)) = some (.ret v, σ')) : ESound P ng ts N0 μ σ e o v σ' w := by
  obtain ⟨_, hca, hla⟩ := opV (e := e) h.glob h.ngn he ha
  obtain ⟨_, hcx, hlx⟩ := opV (e := e) h.glob h.ngn he hx
  simp only [runE] at hv
  generalize (cOpd a).ev e = A at hv hca hla
  generalize (cOpd x).ev e = X at hv hcx hlx
  split at hv
  · rename_i a'
    split at hv
    · rename_i hlen
      simp only [Option.map_eq_some_iff, Prod.mk.injEq, IRet.ret.injEq] at hv
      obtain ⟨σ1, hw, rfl, rfl⟩ := hv
      rw [lt_psome] at hla
      obtain ⟨w', hrun, hrep, hgo⟩ := wrN_sound h hw (cellsOf_lt hlx)
      refine ⟨μ, w', .skip, hrep, hgo, lt_undef _, ?_, .inr ⟨rfl, rfl⟩⟩
      have hsz : (conc μ X).cells.size = k := by rw [← Array.length_toList, cells_conc, concL_length, hlen]
      have hl : (conc μ X).cells.toList = concL μ (cellsOf X) := cells_conc X
      simp only [execOp, hop, hca, hcx, conc_psome, Instr.storeAt, Instr.sureAddr, Sem.run_bind, Sem.run_pure, Result.andThen_ok, storeVar, run_sz ht]
      rw [if_neg (by simpa using hsz), hl, cAddr_eta μ a' hla.2, hrun]
      simp
    · simp at hv
  · simp at hv
end
end Go.Proofs.YtjpepfgbilbcdaaGreatDoor.Ai
