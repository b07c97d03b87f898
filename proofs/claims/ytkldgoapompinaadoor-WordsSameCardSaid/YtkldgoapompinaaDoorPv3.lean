/- A PART OF THE PROOF: a step of the proof that the law's code does what its contracts say, by an interpreter of the program's functions that is proved to be sound. -/
import Derived.Test.YtkldgoapompinaaDoorPv2
namespace Go.Proofs.YtkldgoapompinaaDoor.Ai
open Go
set_option linter.unusedSimpArgs false
set_option linter.unusedVariables false
/-- a statement and the rest, with what stands between -/
theorem PRun.seqc {C : Ctx} {b : Nat} {a c : ICode} {t : List PV} {π : PW} {Q : IExit → List PV → PW → Prop} (R : List PV → PW → Prop) (h1 : PRun C b a t π fun x t π => match x with | .normal => Gh C b t π R | _ => False) (h2 : ∀ t π, R t π → PRun C b c t π Q) : PRun C b (.seq a c) t π Q :=
  .seq (h1.mono fun x t π hx => match x, hx with
    | .normal, hx => PRun.gh (hx.mono fun t π hr => h2 t π hr))
end Go.Proofs.YtkldgoapompinaaDoor.Ai

namespace Go.Proofs.YtkldgoapompinaaDoor.Ai
open Go
set_option linter.unusedSimpArgs false
set_option linter.unusedVariables false
/-! ### calls that only read what may be written later -/
section
variable {C : Ctx} {f : FuncId} {args args0 : List PV} {u : Value} {F : Nat → Prop} {I : Img} {η : Eta} {π : PW} {σ : AW}
/-- the objects count as images for the time of the call -/
theorem PFun.useLent (h : PFun C f args0 (.lit u)) (hp : pureL args0 = true) (hg : Gh C 0 args π fun e' _ => e' = args0) (hG : GRd I noE C.G) (hs : SRel F I η π σ) {vargs : List Value} (ha : RdL I η args vargs) :
    ∃ σ', CTo C.P C.ng C.ts C.N0 f vargs σ u σ' ∧ σ.next < σ'.next ∧ (∀ i, i < σ.next → σ'.heap.get i = σ.heap.get i) ∧ SRel F I η π σ' ∧ lt 0 u = true := by
  obtain ⟨I2, η2, e2, π2, f2, s2, r2, rfl⟩ := hg F I η σ vargs hG hs ha
  obtain ⟨v, σ', I', h1, ⟨h2, h3, h4⟩, h5, h6⟩ := h.use hp (hG.le f2.im) s2 r2
  obtain ⟨rfl, hu⟩ := rd_lit h6
  have hlt : ∀ j o a, look π.heap j = some o → η j = some a → a < σ.next := by
    intro j o a hj ha
    obtain ⟨a', _, ha', hl, _⟩ := hs.obj j o hj
    rw [ha] at ha'; cases ha'; exact hl
  refine ⟨σ', h1, h2, fun i hi => (h4 i hi).1, ?_, hu⟩
  refine ⟨h5.hn, fun i hi => Nat.lt_trans (hs.fn i hi) h2, hs.fo, fun i vs hi => ?_, hs.fresh, fun j o hj => ?_, hs.inj, hs.sep, fun j cs ty esz ex ret al a b hj ha' hb i hi => ?_⟩
  · obtain ⟨g1, b, g2, g3⟩ := hs.img i vs hi
    exact ⟨Nat.lt_trans g1 h2, b, by rw [(h4 i g1).1]; exact g2, g3⟩
  · obtain ⟨a, b, g1, g2, g3, g4⟩ := hs.obj j o hj
    exact ⟨a, b, g1, Nat.lt_trans g2 h2, by rw [(h4 a g2).1]; exact g3, g4⟩
  · have hl := hlt j _ a hj ha'
    obtain ⟨g1, g2, g3, g4⟩ := hs.al j _ _ _ _ _ _ _ _ hj ha' (by rw [← (h4 a hl).1]; exact hb) i hi
    exact ⟨Nat.lt_trans g1 h2, g2, g3, g4⟩
theorem PFun.lent (h : PFun C f args0 (.lit u)) (hp : pureL args0 = true) (hg : Gh C 0 args π fun e' _ => e' = args0) {A : PV → PW → Prop} (hA : A (.lit u) π) : PTo C f args π A := by
  intro F I η σ vargs hG hs hr
  obtain ⟨σ', h1, h2, h3, h4, h5⟩ := h.useLent hp hg hG hs hr
  exact ⟨u, σ', I, η, .lit u, π, h1, ⟨Nat.le_of_lt h2, fun i hi => ⟨h3 i (hs.fn i hi), rfl⟩, Img.le_refl _, fun _ _ => rfl⟩, Eta.le_refl _, fun _ _ => rfl, h4, rd_mk h5, hA⟩
theorem PDE.lent {b : Nat} {l : List IOper} {fin : DStage} {st : List DStage} {S : List Nat} {e : List PV} {Q : List PV → PW → Prop} {as : List Opd} {d : Option Nat} (hf : PFun C f args0 (.lit u)) (hp : pureL args0 = true)
    (hg : Gh C 0 (evsP C.G e as) π fun e' _ => e' = args0) (h : PDraw C b l fin st (S.filter (freeJ l d)) (putP e d (.lit u)) π Q) : PDE C b l fin st S (.call f as) d e π Q := by
  intro F I η σ env hG hs hr hy
  obtain ⟨σ1, h1, h2, h4, h5, h6⟩ := hf.useLent hp hg hG hs (evsP_sim (hG.any η) hr as)
  obtain ⟨M, env', σ', I', η', e', π', k1, k2, k3, k4, k5⟩ := h F I η σ1.bump (put env d u) hG h5.bump (rdL_putP hr _ (rd_mk h6)) ((hy.congr (σ' := σ1.bump) (Nat.le_succ_of_le (Nat.le_of_lt h2)) fun k hk => h4 k hk).put d u)
  have hb := LB.one ⟨f, evs env as, σ, u, σ1.bump⟩ (b := σ1.bump.next) (Nat.lt_succ_of_lt h2)
  exact ⟨Lcat σ1.bump.next (Lone ⟨f, evs env as, σ, u, σ1.bump⟩) M, u, σ1.bump, env', σ', I', η', e', π', (LOK.one h1.bump).cat k1 _, hb.cat k2 (Nat.le_succ_of_le (Nat.le_of_lt h2)) k4.next,
    runE_mono (KL_left hb) (KL_one ⟨f, evs env as, σ, u, σ1.bump⟩), runDraw_mono (KL_right k2) k3, Fol.trans (σ1 := σ1.bump) ⟨Nat.le_succ_of_le (Nat.le_of_lt h2), fun i hi => ⟨h4 i (hs.fn i hi), rfl⟩, Img.le_refl _, fun _ _ => rfl⟩ k4, k5⟩
end
end Go.Proofs.YtkldgoapompinaaDoor.Ai

namespace Go.Proofs.YtkldgoapompinaaDoor.Ai
open Go
set_option linter.unusedVariables false
/-! ### calls that make objects of their own -/
mutual
def shP (k : Nat) : PV → PV
  | .ptr j off => .ptr (j + k) off
  | .loc j off n c => .loc (j + k) off n c
  | .map j => .map (j + k)
  | .yld j => .yld (j + k)
  | .fn f a b => .fn f (shL k a) (shL k b)
  | .iface t p => .iface t (shP k p)
  | .agg l => .agg (shL k l)
  | .tup l => .tup (shL k l)
  | p => p
def shL (k : Nat) : List PV → List PV
  | [] => []
  | p :: l => shP k p :: shL k l
end
def shE (k : Nat) : List (PV × PV × Nat) → List (PV × PV × Nat)
  | [] => []
  | (p, q, c) :: l => (shP k p, shP k q, c) :: shE k l
def shA (k : Nat) : List Nat → List Nat
  | [] => []
  | i :: l => (i + k) :: shA k l
def shO (k : Nat) : PObj → PObj
  | .cells l ty esz ex ret al => .cells (shL k l) ty esz ex ret (shA k al)
  | .map es c => .map (shE k es) c
  | .deferred t => .deferred t
/-- a callee's objects, ahead of the caller's -/
def shH (k : Nat) (h : List (Nat × PObj)) : List (Nat × PObj) → List (Nat × PObj)
  | [] => h
  | (j, o) :: l => (j + k, shO k o) :: shH k h l
def PW.with (π π1 : PW) : PW := { next := π1.next + π.next, heap := shH π.next π.heap π1.heap }
section
variable {F : Nat → Prop} {I J : Img} {η η1 : Eta} {k : Nat}
def Eta.sh (η η1 : Eta) (k : Nat) : Eta := fun j => if j < k then η j else η1 (j - k)
mutual
theorem shP_sim : ∀ {p : PV} {v : Value}, Rd I η1 p v → Rd I (η.sh η1 k) (shP k p) v
  | .ptr j off, v, h => by
    simp only [shP, Rd] at h ⊢
    obtain ⟨c, hc, rfl⟩ := h
    exact ⟨c, by simp only [Eta.sh]; rw [if_neg (by omega), Nat.add_sub_cancel]; exact hc, rfl⟩
  | .loc j off n c, v, h => by
    simp only [shP, Rd] at h ⊢
    obtain ⟨c, hc, rfl⟩ := h
    exact ⟨c, by simp only [Eta.sh]; rw [if_neg (by omega), Nat.add_sub_cancel]; exact hc, rfl⟩
  | .map j, v, h => by
    simp only [shP, Rd] at h ⊢
    obtain ⟨c, hc, rfl⟩ := h
    exact ⟨c, by simp only [Eta.sh]; rw [if_neg (by omega), Nat.add_sub_cancel]; exact hc, rfl⟩
  | .yld j, v, h => by
    simp only [shP, Rd] at h ⊢
    obtain ⟨c, hc, rfl⟩ := h
    exact ⟨c, by simp only [Eta.sh]; rw [if_neg (by omega), Nat.add_sub_cancel]; exact hc, rfl⟩
  | .fn f x y, v, h => by
    simp only [shP, Rd] at h ⊢
    obtain ⟨u, w, h1, h2, h3⟩ := h
    exact ⟨u, w, h1, shL_sim h2, shL_sim h3⟩
  | .iface t p, v, h => by
    simp only [shP, Rd] at h ⊢
    obtain ⟨u, h1, h2⟩ := h
    exact ⟨u, h1, shP_sim h2⟩
  | .agg l, v, h => by
    simp only [shP, Rd] at h ⊢
    obtain ⟨u, h1, h2⟩ := h
    exact ⟨u, h1, shL_sim h2⟩
  | .tup l, v, h => by
    simp only [shP, Rd] at h ⊢
    obtain ⟨u, h1, h2⟩ := h
    exact ⟨u, h1, shL_sim h2⟩
  | .junk, v, h => by simp [shP, Rd]
  | .lit _, v, h => by simpa [shP, Rd] using h
  | .sl _ _, v, h => by simpa [shP, Rd] using h
  | .sz _ _, v, h => by simpa [shP, Rd] using h
  | .ref _, v, h => by simpa [shP, Rd] using h
theorem shL_sim : ∀ {ps : List PV} {us : List Value}, RdL I η1 ps us → RdL I (η.sh η1 k) (shL k ps) us
  | [], [], _ => by simp [shL, RdL]
  | p :: ps, v :: us, h => by
    simp only [shL, RdL] at h ⊢
    exact ⟨shP_sim h.1, shL_sim h.2⟩
  | [], _ :: _, h => by simp [RdL] at h
  | _ :: _, [], h => by simp [RdL] at h
end
theorem shE_sim : ∀ {es : List (PV × PV × Nat)} {fs : List (Value × Value × Nat)}, EntRd I η1 es fs → EntRd I (η.sh η1 k) (shE k es) fs
  | [], [], _ => trivial
  | (p, q, c) :: es, (v, w, d) :: fs, h => by
    simp only [EntRd, shE] at h ⊢
    exact ⟨shP_sim h.1, shP_sim h.2.1, h.2.2.1, shE_sim h.2.2.2⟩
  | [], _ :: _, h => by simp [EntRd] at h
  | _ :: _, [], h => by simp [EntRd] at h
theorem shO_sim {o : PObj} {bk : Blk} (h : ORd I η1 o bk) : ORd I (η.sh η1 k) (shO k o) bk := by
  cases o <;> cases bk <;> simp only [ORd, shO] at h ⊢
  · exact ⟨shL_sim h.1, h.2⟩
  · exact ⟨shE_sim h.1, h.2⟩
  · exact h
theorem mem_shA {i : Nat} : ∀ {al : List Nat}, i ∈ al → i + k ∈ shA k al
  | [], h => by simp at h
  | x :: al, h => by
    simp only [List.mem_cons, shA] at h ⊢
    rcases h with rfl | h
    · exact .inl rfl
    · exact .inr (mem_shA h)
theorem look_shH {h : List (Nat × PObj)} : ∀ {l : List (Nat × PObj)} {j : Nat} {o : PObj}, look (shH k h l) j = some o → (∃ i o', j = i + k ∧ look l i = some o' ∧ o = shO k o') ∨ look h j = some o
  | [], j, o, hl => .inr hl
  | (i, x) :: l, j, o, hl => by
    simp only [shH, look] at hl
    split at hl
    · rename_i hj
      simp at hl
      exact .inl ⟨i, x, hj, by simp [look], hl.symm⟩
    · rename_i hj
      rcases look_shH hl with ⟨i', o', h1, h2, h3⟩ | h1
      · refine .inl ⟨i', o', h1, ?_, h3⟩
        simp only [look]
        rw [if_neg (fun e => by subst e; exact hj h1)]; exact h2
      · exact .inr h1
end
/-- a call that makes objects: from pure arguments to r and the objects π1 -/
def PGen (C : Ctx) (f : FuncId) (args : List PV) (r : PV) (π1 : PW) : Prop :=
  ∀ F I σ vargs, GRd I noE C.G → SRel F I noE .none σ → RdL I noE args vargs → ∃ v σ' I' η', CTo C.P C.ng C.ts C.N0 f vargs σ v σ' ∧ Fol F 0 I noE σ I' η' σ' ∧ SRel F I' η' π1 σ' ∧ Rd I' η' r v
section
variable {C : Ctx} {f : FuncId} {args : List PV} {r : PV} {π1 π : PW} {F : Nat → Prop} {I : Img} {η : Eta} {σ : AW}
theorem PGen.body (hm : C.P.follows .mixedOrders = true) {tab : Tr IFunc} (hC : TabOK C.P C.ng C.ts tab) {ifn : IFunc} (hf : tab.get f = some ifn)
    (h : PRun C 0 ifn.body (startP ifn args) .none fun x t π' => (x = .normal ∨ x = .ret) ∧ Gh C 0 t π' fun t π' => ∃ rs, resPs t π' ifn.results = some rs ∧ Wk (tupP rs) r ∧ π' = π1) : PGen C f args r π1 := by
  intro F I σ vargs hG hs hr
  have hrun : PRun C 0 ifn.body (startP ifn args) .none fun x t π' => (x = .normal ∨ x = .ret) ∧ ∃ rs, resPs t π' ifn.results = some rs ∧ Wk (tupP rs) r ∧ π' = π1 :=
    PRun.after (h.mono fun x t π hx => hx.2.mono fun t π ha => ⟨hx.1, ha⟩)
  obtain ⟨v, σ', I', η', r', π', h1, h2, h3, h4, h5, h6, h7, h8⟩ := PTo.of_body hm hC hf (A := fun r' π' => Wk r' r ∧ π' = π1) hrun F I noE σ vargs hG hs hr
  subst h8
  exact ⟨v, σ', I', η', h1, h2, h5, h7 _ _ _ h6⟩
theorem PGen.use (h : PGen C f args r π1) (hp : pureL args = true) (hG : GRd I noE C.G) (hs : SRel F I η π σ) {vargs : List Value} (ha : RdL I η args vargs) :
    ∃ v σ' I' η', CTo C.P C.ng C.ts C.N0 f vargs σ v σ' ∧ (σ.next < σ'.next ∧ I.le I' ∧ (∀ i, i < σ.next → σ'.heap.get i = σ.heap.get i ∧ I' i = I i)) ∧ η.le η' ∧ (∀ j, j < π.next → η' j = η j) ∧ SRel F I' η' (π.with π1) σ' ∧ Rd I' η' (shP π.next r) v := by
  obtain ⟨v, σ', I', η1, h1, h2, h3, h4⟩ := h (fun i => i < σ.next) I σ vargs hG (hs.none _ (fun _ h => h)) (ha.toPure hp)
  have hlt : ∀ j o a, look π.heap j = some o → η j = some a → a < σ.next := by
    intro j o a hj ha
    obtain ⟨a', _, ha', hl, _⟩ := hs.obj j o hj
    rw [ha] at ha'; cases ha'; exact hl
  have hold : ∀ j, j < π.next → (η.sh η1 π.next) j = η j := fun j hj => by simp only [Eta.sh]; rw [if_pos hj]
  have hlk : ∀ j o, look π.heap j = some o → j < π.next := fun j o hj => by
    obtain ⟨a, _, ha, _⟩ := hs.obj j o hj
    exact hs.fresh j a ha
  have hnew : ∀ i, (η.sh η1 π.next) (i + π.next) = η1 i := fun i => by simp only [Eta.sh]; rw [if_neg (by omega), Nat.add_sub_cancel]
  have hle : η.le (η.sh η1 π.next) := fun j a ha => by rw [hold j (hs.fresh j a ha)]; exact ha
  have hge : ∀ i o a, look π1.heap i = some o → η1 i = some a → ¬ a < σ.next := fun i o a hi ha => h3.fo i o a hi ha
  have hcase : ∀ j o, look (shH π.next π.heap π1.heap) j = some o → (∃ i o', j = i + π.next ∧ look π1.heap i = some o' ∧ o = shO π.next o') ∨ (j < π.next ∧ look π.heap j = some o) := by
    intro j o hj
    rcases look_shH hj with h | h
    · exact .inl h
    · exact .inr ⟨hlk j o h, h⟩
  refine ⟨v, σ'.bump, I', η.sh η1 π.next, h1.bump, ⟨Nat.lt_succ_of_le h2.next, h2.im, h2.fr⟩, hle, hold, ?_, shP_sim h4⟩
  constructor
  · intro i b hi; exact Nat.lt_succ_of_lt (h3.hn i b hi)
  · intro i hi; exact Nat.lt_succ_of_le (Nat.le_trans (Nat.le_of_lt (hs.fn i hi)) h2.next)
  · intro j o a hj ha hf
    rcases hcase j o hj with ⟨i, o', rfl, hi, _⟩ | ⟨hjl, hj⟩
    · rw [hnew] at ha
      exact hge i o' a hi ha (hs.fn a hf)
    · rw [hold j hjl] at ha; exact hs.fo j o a hj ha hf
  · intro i vs hi
    obtain ⟨g1, g2⟩ := h3.img i vs hi
    exact ⟨Nat.lt_succ_of_lt g1, g2⟩
  · intro j a ha
    simp only [PW.with]
    simp only [Eta.sh] at ha
    split at ha
    · omega
    · have := h3.fresh _ a ha; omega
  · intro j o hj
    rcases hcase j o hj with ⟨i, o', rfl, hi, rfl⟩ | ⟨hjl, hj⟩
    · obtain ⟨a, b, g1, g2, g3, g4⟩ := h3.obj i o' hi
      exact ⟨a, b, by rw [hnew]; exact g1, Nat.lt_succ_of_lt g2, g3, shO_sim g4⟩
    · obtain ⟨a, b, g1, g2, g3, g4⟩ := hs.obj j o hj
      exact ⟨a, b, by rw [hold j hjl]; exact g1, Nat.lt_succ_of_le (Nat.le_trans (Nat.le_of_lt g2) h2.next), by show σ'.heap.get a = _; rw [(h2.fr a g2).1]; exact g3, g4.mono h2.im hle⟩
  · intro j l oj ol c hj hl hcj hcl
    rcases hcase j oj hj with ⟨i, o', rfl, hi, _⟩ | ⟨hjl, hj⟩ <;> rcases hcase l ol hl with ⟨i2, o2, rfl, hi2, _⟩ | ⟨hll, hl⟩
    · rw [hnew] at hcj hcl; rw [h3.inj i i2 _ _ c hi hi2 hcj hcl]
    · rw [hnew] at hcj; rw [hold l hll] at hcl; exact absurd (hlt l _ c hl hcl) (hge i o' c hi hcj)
    · rw [hnew] at hcl; rw [hold j hjl] at hcj; exact absurd (hlt j _ c hj hcj) (hge i2 o2 c hi2 hcl)
    · rw [hold j hjl] at hcj; rw [hold l hll] at hcl; exact hs.inj j l _ _ c hj hl hcj hcl
  · intro j o a hj ha
    rcases hcase j o hj with ⟨i, o', rfl, hi, _⟩ | ⟨hjl, hj⟩
    · rw [hnew] at ha; exact h3.sep i o' a hi ha
    · rw [hold j hjl] at ha; rw [(h2.fr a (hlt j o a hj ha)).2]; exact hs.sep j o a hj ha
  · intro j cs ty esz ex ret al a b hj ha hb i hi
    rcases hcase j _ hj with ⟨i', o', rfl, hi', ho⟩ | ⟨hjl, hj⟩
    · rw [hnew] at ha
      cases o' <;> simp only [shO, PObj.cells.injEq, reduceCtorEq] at ho
      obtain ⟨g1, g2, g3, g4⟩ := h3.al i' _ _ _ _ _ _ _ _ hi' ha hb i hi
      refine ⟨Nat.lt_succ_of_lt g1, g2, fun hf => g3 (hs.fn i hf), fun m o hm hcm => ?_⟩
      rcases hcase m o hm with ⟨m', o2, rfl, hm', _⟩ | ⟨hml, hm⟩
      · rw [hnew] at hcm
        rw [ho.2.2.2.2.2]; exact mem_shA (g4 m' o2 hm' hcm)
      · rw [hold m hml] at hcm; exact absurd (hlt m _ i hm hcm) g3
    · rw [hold j hjl] at ha
      have hl := hlt j _ a hj ha
      obtain ⟨g1, g2, g3, g4⟩ := hs.al j _ _ _ _ _ _ _ _ hj ha (by rw [← (h2.fr a hl).1]; exact hb) i hi
      refine ⟨Nat.lt_succ_of_le (Nat.le_trans (Nat.le_of_lt g1) h2.next), by rw [(h2.fr i g1).2]; exact g2, g3, fun m o hm hcm => ?_⟩
      rcases hcase m o hm with ⟨m', o2, rfl, hm', _⟩ | ⟨hml, hm⟩
      · rw [hnew] at hcm; exact absurd g1 (hge m' o2 i hm' hcm)
      · rw [hold m hml] at hcm; exact g4 m o hm hcm
theorem PGen.to (h : PGen C f args r π1) (hp : pureL args = true) {A : PV → PW → Prop} (hA : A (shP π.next r) (π.with π1)) : PTo C f args π A := by
  intro F I η σ vargs hG hs hr
  obtain ⟨v, σ', I', η', h1, ⟨h2, h3, h4⟩, h5, h6, h7, h8⟩ := h.use hp hG hs hr
  exact ⟨v, σ', I', η', _, _, h1, ⟨Nat.le_of_lt h2, fun i hi => h4 i (hs.fn i hi), h3, fun j hj => by omega⟩, h5, h6, h7, h8, hA⟩
/-- in a drawn region: all reads stay sure -/
theorem PDE.gen {b : Nat} {l : List IOper} {fin : DStage} {st : List DStage} {S : List Nat} {e : List PV} {Q : List PV → PW → Prop} {as : List Opd} {d : Option Nat} (hb0 : b ≤ π.next) (hf : PGen C f (evsP C.G e as) r π1) (hp : pureL (evsP C.G e as) = true)
    (h : PDraw C b l fin st (S.filter (freeJ l d)) (putP e d (shP π.next r)) (π.with π1) Q) : PDE C b l fin st S (.call f as) d e π Q := by
  intro F I η σ env hG hs hr hy
  obtain ⟨v, σ1, I1, η1, h1, ⟨h2, h3, h4⟩, h5, h6, h7, h8⟩ := hf.use hp hG hs (evsP_sim (hG.any η) hr as)
  obtain ⟨M, env', σ', I', η', e', π', k1, k2, k3, k4, k5⟩ := h F I1 η1 σ1.bump (put env d v) (hG.le h3) h7.bump (rdL_putP (hr.mono h3 h5) _ h8) ((hy.congr (σ' := σ1.bump) (Nat.le_succ_of_le (Nat.le_of_lt h2)) fun k hk => (h4 k hk).1).put d v)
  have hb := LB.one ⟨f, evs env as, σ, v, σ1.bump⟩ (b := σ1.bump.next) (Nat.lt_succ_of_lt h2)
  exact ⟨Lcat σ1.bump.next (Lone ⟨f, evs env as, σ, v, σ1.bump⟩) M, v, σ1.bump, env', σ', I', η', e', π', (LOK.one h1.bump).cat k1 _, hb.cat k2 (Nat.le_succ_of_le (Nat.le_of_lt h2)) k4.next,
    runE_mono (KL_left hb) (KL_one ⟨f, evs env as, σ, v, σ1.bump⟩), runDraw_mono (KL_right k2) k3, Fol.trans (σ1 := σ1.bump) ⟨Nat.le_succ_of_le (Nat.le_of_lt h2), fun i hi => h4 i (hs.fn i hi), h3, fun j hj => h6 j (by omega)⟩ k4, k5⟩
end
theorem Gh.frz {C : Ctx} {b : Nat} {e : List PV} {π : PW} (i : Nat) {cs : List PV} {ty esz : Nat} {ex : Bool} {al : List Nat} (hl : look π.heap i = some (.cells cs ty esz ex false al)) (hp : pureL cs = true) (hn : noAlP i π.heap = true)
    {A : List PV → PW → Prop} (h : Gh C b (frzL i cs e) { π with heap := frzH i cs π.heap } A) : Gh C b e π A :=
  (Gh.freeze (A := fun e π => Gh C b e π A) i hl hp hn h).trans fun _ _ h => h
end Go.Proofs.YtkldgoapompinaaDoor.Ai

namespace Go.Proofs.YtkldgoapompinaaDoor.Ai
open Go
/-! ### more arguments -/
theorem concL_len (μ : Nat → Loc) : ∀ l : List Value, (concL μ l).length = l.length
  | [] => rfl
  | _ :: l => by simp [concL, concL_len μ l]
theorem rdL_len {I : Img} {η : Eta} : ∀ {ps : List PV} {vs : List Value}, RdL I η ps vs → ps.length = vs.length
  | [], [], _ => rfl
  | p :: ps, v :: vs, h => by simp only [RdL] at h; simp [rdL_len h.2]
  | [], _ :: _, h => by simp [RdL] at h
  | _ :: _, [], h => by simp [RdL] at h
theorem rdL_split {I : Img} {η : Eta} : ∀ {ps qs : List PV} {vs ws : List Value}, ps.length = vs.length → RdL I η (ps ++ qs) (vs ++ ws) → RdL I η ps vs ∧ RdL I η qs ws
  | [], _, [], _, _, h => ⟨by simp [RdL], h⟩
  | p :: ps, qs, v :: vs, ws, hl, h => by
    simp only [List.cons_append, RdL] at h
    obtain ⟨h1, h2⟩ := h
    obtain ⟨g1, g2⟩ := rdL_split (by simpa using hl) h2
    exact ⟨by simp only [RdL]; exact ⟨h1, g1⟩, g2⟩
  | [], _, _ :: _, _, hl, _ => by simp at hl
  | _ :: _, _, [], _, hl, _ => by simp at hl
/-- the last ones become a struct -/
theorem VwS.aggs {m : Nat} {W : World} {vs ws : List Value} {ps qs : List PV} (hl : ws.length = qs.length) (h : VwS m W (vs ++ ws) (ps ++ qs)) : VwS m W (vs ++ [.agg ⟨ws⟩]) (ps ++ [.agg qs]) := by
  obtain ⟨l, us, h1, h2, h3, h4⟩ := h
  have e1 := rdL_len h3
  have e2 : us.length = vs.length + ws.length := by rw [← concL_len (vwμ m l) us, h2, List.length_append]
  rw [List.length_append] at e1
  have e3 : us = us.take vs.length ++ us.drop vs.length := (List.take_append_drop _ _).symm
  have el : (us.take vs.length).length = vs.length := by rw [List.length_take]; omega
  generalize us.take vs.length = u1 at *
  generalize us.drop vs.length = u2 at *
  subst e3
  rw [concL_app] at h2
  obtain ⟨g1, g2⟩ := List.append_inj h2 (by rw [concL_len, el])
  obtain ⟨k1, k2⟩ := rdL_split (by omega) h3
  rw [ltL_append] at h4
  refine ⟨l, u1 ++ [.agg ⟨u2⟩], h1, ?_, k1.append (by simp only [RdL, Rd]; exact ⟨⟨u2, rfl, k2⟩, trivial⟩), by rw [ltL_append]; exact ⟨h4.1, by simp only [ltL, lt, Bool.and_true]; exact h4.2⟩⟩
  rw [concL_app, g1]; simp [concL, conc, g2]
end Go.Proofs.YtkldgoapompinaaDoor.Ai
