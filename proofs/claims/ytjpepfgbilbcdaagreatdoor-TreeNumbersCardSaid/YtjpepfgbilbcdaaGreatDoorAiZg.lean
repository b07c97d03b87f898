/- A PART OF THE PROOF THAT AN INTERPRETER OF THE PROGRAM'S FUNCTIONS IS SOUND: a step of it. -/
import Derived.Test.YtjpepfgbilbcdaaGreatDoorAiZf
namespace Go.Proofs.YtjpepfgbilbcdaaGreatDoor.Ai
open Go
set_option linter.unusedSimpArgs false
set_option linter.unusedSectionVars false

section
variable {P : Program} {ng : Nat} {ts : List TypeId} {N0 : Nat} {K : Ks} {l : List IOper} {bf : List Nat} {e0 : List Value} {fin : DStage} {v : Nat → Value} {t' : List Value} {σ' : AW} {L0 : List NEnt} {μ0 : Nat → Loc} {σ0 : AW} {w0 : World}
  {st : List DStage} {prev : Option Nat} {C : List Nat} {β : AW} {L : List NEnt} {S : List Nat} {μ : Nat → Loc} {w : World} {ops : Array Oper}

theorem adopt_all : ∀ {A : List NEnt} {σ γ : AW}, Chain σ A γ → Rep P ng ts N0 μ σ w → Goes μ0 σ0 w0 μ σ w → N0 ≤ w0.heap.size →
    (∀ a ∈ A, BRep P ng ts μ (a.2.1 + 1) a.2.1 w a.2.2 ∧ (isRo a.2.2 = false ∧ ∀ c, a.2.2 = .cells c → c.al = []) ∧ w0.heap.size ≤ (μ a.2.1).blk ∧ (μ a.2.1).blk < w.heap.size) →
    (∀ a ∈ A, ∀ i c, σ.heap.get i = some c → (μ i).blk ≠ (μ a.2.1).blk) → (∀ a ∈ A, ∀ b ∈ A, (μ a.2.1).blk = (μ b.2.1).blk → a = b) →
    Rep P ng ts N0 μ γ w ∧ Goes μ0 σ0 w0 μ γ w ∧ ∀ i c, γ.heap.get i = some c → σ.heap.get i = some c ∨ ∃ a ∈ A, a.2.1 = i
  | [], σ, γ, h, hr, hg, _, _, _, _ => by simp only [Chain] at h; subst h; exact ⟨hr, hg, fun i c hi => .inl hi⟩
  | a :: A, σ, γ, h, hr, hg, hN, hp, hd, hd2 => by
    have hidu := h.idu
    obtain ⟨h1, h2, h3⟩ := h
    obtain ⟨p1, p2, p3, p4⟩ := hp a (by simp)
    have hd0 := hd a (by simp)
    rw [h1] at p1 p3 p4 hd0
    have r1 := hr.adopt h2 p1 p2.1 p2.2 (by omega) p4 hd0
    have g1 := hg.adopt h2 (b := a.2.2) p3
    obtain ⟨q1, q2, q3⟩ := adopt_all h3 r1 g1 hN (fun c hc => hp c (by simp [hc])) (by
      intro c hc i b hi
      rw [add_get h2] at hi
      split at hi
      · rename_i hi2
        intro he
        have := hd2 a (by simp) c (by simp [hc]) (by rw [h1, ← hi2]; exact he)
        have h5 := h3.idu.1 c hc
        rw [← this, h1] at h5
        simp [AW.add] at h5
        omega
      · exact hd c (by simp [hc]) i b hi) (fun c hc d hd => hd2 c (by simp [hc]) d (by simp [hd]))
    refine ⟨q1, q2, fun i c hi => ?_⟩
    rcases q3 i c hi with h4 | ⟨b, hb, h4⟩
    · rw [add_get h2] at h4
      split at h4
      · rename_i h5; exact .inr ⟨a, by simp, by rw [h1, h5]⟩
      · exact .inl h4
    · exact .inr ⟨b, by simp [hb], h4⟩

/-- the blocks of the stage, taken in -/
theorem Inv.adopted {A L' : List NEnt} {γ : AW} (I : Inv P ng ts N0 K l bf e0 fin v t' σ' L0 μ0 σ0 w0 st prev C β (A ++ L') S μ w) (hN : N0 ≤ w0.heap.size) (hc : Chain β A γ) (hS : ∀ a ∈ A, a.1 ∈ S) :
    Rep P ng ts N0 μ γ w ∧ Goes μ0 σ0 w0 μ γ w ∧ ∀ i c, γ.heap.get i = some c → β.heap.get i = some c ∨ ∃ a ∈ A, a.2.1 = i :=
  adopt_all hc I.rep I.goes hN (fun a ha => ⟨I.pend a (List.mem_append_left _ ha) (hS a ha) μ (Agr.refl _ _ _ _), I.pro a (List.mem_append_left _ ha) (hS a ha), I.pblk a (List.mem_append_left _ ha) (hS a ha)⟩)
    (fun a ha => I.pdis a (List.mem_append_left _ ha) (hS a ha)) (fun a ha b hb => I.pdis2 a (List.mem_append_left _ ha) b (List.mem_append_left _ hb) (hS a ha) (hS b hb))

/-- **a change** -/
theorem Inv.change (X : Cx P ng ts ops l bf e0 v L0) (hK : KSound P ng ts N0 K) {s : DStage} (I : Inv P ng ts N0 K l bf e0 fin v t' σ' L0 μ0 σ0 w0 (s :: st) prev C β L S μ w) (hN : N0 ≤ w0.heap.size) (hp : Pos bf s.e S)
    {b : Frame} {E : Fr} {k : List Item} {rest : List Nat} {cs : List Frame} (hE : ∀ d ∈ E.dfs, d < β.next) :
    ∃ prev' C' β' L' μ1 w1, Inv P ng ts N0 K l bf e0 fin v t' σ' L0 μ0 σ0 w0 st prev' C' β' L' (s.e :: S) μ1 w1 ∧
      Steps P (lone (FS b E l v e0 ops k μ S (s.e :: rest)) cs w) (lone (FS b E l v e0 ops k μ1 (s.e :: S) rest) cs w1) := by
  obtain ⟨hck, γ, β', A, L', io, rfl, hx, hio, hisE, hlt, hpos, hpv, hrun, hnx, hds⟩ := I.ds
  have f := hx.facts
  have g := hds.facts
  have hS : ∀ a ∈ A, a.1 ∈ S := fun a ha => hp.ahead _ (f.np a ha s.e rfl)
  obtain ⟨hr, hg, hlive⟩ := I.adopted hN f.chain hS
  obtain ⟨o, ho, hc, hd, hop⟩ := X.op hio
  have hag := X.agree hio ho hpos hp
  -- what holds behind it
  have after : ∀ (μ1 : Nat → Loc) (w1 : World), Rep P ng ts N0 μ1 β' w1 → Goes μ γ w μ1 β' w1 → lt β'.next (v s.e) = true →
      ∃ μ', (∀ x, x < β.next → μ' x = μ x) ∧ concL μ' (tm l v e0 S) = concL μ (tm l v e0 S) ∧ conc μ' (v s.e) = conc μ1 (v s.e) ∧
        Inv P ng ts N0 K l bf e0 fin v t' σ' L0 μ0 σ0 w0 st (some s.e) (s.e :: (s.xs.reverse ++ C)) β' L' (s.e :: S) μ' w1 := by
    intro μ1 w1 r1 g1 hvl
    have hlow : ∀ x, x < β'.next → (fun x => if x < β'.next then μ1 x else μ x) x = μ1 x := fun x hx => by simp [hx]
    have hhigh : ∀ x, β'.next ≤ x → (fun x => if x < β'.next then μ1 x else μ x) x = μ x := fun x hx => by simp [Nat.not_lt.2 hx]
    generalize hμ' : (fun x => if x < β'.next then μ1 x else μ x) = μ' at hlow hhigh
    have hb : ∀ x, x < γ.next → μ' x = μ x := fun x hx => by rw [hlow x (by omega)]; exact g1.agr x hx
    have hold : Agr μ' μ β.next (A ++ L') S := ⟨fun x hx => hb x (by have := f.nxt; omega), fun a ha hs => by
      rcases List.mem_append.1 ha with ha | ha
      · exact hb _ (f.ids a ha).2
      · exact hhigh _ (g.ids a ha)⟩
    have hagr : ∀ μ2, Agr μ2 μ' β'.next L' (s.e :: S) → Agr μ2 μ β.next (A ++ L') S := fun μ2 h2 => ⟨fun x hx => (h2.1 x (by have := f.nxt; omega)).trans (hold.1 x hx), fun a ha hs => by
      refine Eq.trans ?_ (hold.2 a ha hs)
      rcases List.mem_append.1 ha with ha | ha
      · exact h2.1 _ (by have := (f.ids a ha).2; omega)
      · exact h2.2 a ha (List.mem_cons_of_mem _ hs)⟩
    have hmem : ∀ a ∈ L', a.1 ∈ s.e :: S → a.1 ∈ S := fun a ha h => by
      rcases List.mem_cons.1 h with h | h
      · exact absurd (by rw [h]; simp) (g.key a ha)
      · exact h
    have hloc : ∀ a ∈ L', a.1 ∈ S → μ' a.2.1 = μ a.2.1 := fun a ha hs => hold.2 a (List.mem_append_right _ ha) hs
    -- no block that lives in γ lies where one lies that is still to come up
    have hdisγ : ∀ a ∈ L', a.1 ∈ S → ∀ i c, γ.heap.get i = some c → (μ i).blk ≠ (μ a.2.1).blk := by
      intro a ha hs i c hi
      rcases hlive i c hi with h1 | ⟨d, hd, rfl⟩
      · exact I.pdis a (List.mem_append_right _ ha) hs i c h1
      · intro he
        have := I.pdis2 d (List.mem_append_left _ hd) a (List.mem_append_right _ ha) (hS d hd) hs he
        have h2 := (f.ids d hd).2
        have h3 := g.ids a ha
        rw [this] at h2; omega
    refine ⟨μ', hold.1, I.vals _ hold, conc_congr (fun i hi => hlow i hi) _ hvl, hds, r1.agrμ hlow, (hg.trans g1).agrμ (fun i b hi => (r1.blk i b hi).1) hlow, hp.next, ?_, ?_, ?_, ?_, ?_, ?_, ?_, ?_, ?_, ?_, ?_⟩
    · intro i hi io' h1 h2
      rcases List.mem_cons.1 hi with rfl | hi
      · simp
      · rcases List.mem_append.1 hi with hi | hi
        · have := f.ne i (by simpa using hi) io' h1; rw [this] at h2; simp at h2
        · exact List.mem_cons_of_mem _ (I.eC i hi io' h1 h2)
    · intro i hi io' h1 h2
      rcases List.mem_cons.1 hi with rfl | hi
      · simp
      · exact List.mem_cons_of_mem _ (List.mem_append_right _ (I.eS i hi io' h1 h2))
    · intro p hp'; simp at hp'; subst hp'; simp
    · intro a ha hn
      have h1 := I.rem a ha fun h => hn (List.mem_cons_of_mem _ h)
      rcases List.mem_append.1 h1 with h1 | h1
      · exact absurd (List.mem_cons_of_mem _ (hS a h1)) hn
      · exact h1
    · intro a ha; exact I.sub a (List.mem_append_right _ ha)
    · intro a ha hs μ2 h2
      have hs := hmem a ha hs
      have h3 := hagr μ2 h2
      refine (I.pend a (List.mem_append_right _ ha) hs μ2 h3).mono (fun _ _ => rfl) (by omega) (Nat.le_refl _) ?_
      rw [h3.2 a (List.mem_append_right _ ha) hs]
      exact g1.keep _ (I.pblk a (List.mem_append_right _ ha) hs).2 fun i c hi _ => hdisγ a ha hs i c hi
    · intro a ha hs; exact I.pro a (List.mem_append_right _ ha) (hmem a ha hs)
    · intro a ha hs
      have := I.pblk a (List.mem_append_right _ ha) (hmem a ha hs)
      rw [hloc a ha (hmem a ha hs)]
      have := g1.size; omega
    · intro a ha hs i c hi
      have hs := hmem a ha hs
      rw [hloc a ha hs, hlow i (r1.blk i c hi).1]
      have hb1 := I.pblk a (List.mem_append_right _ ha) hs
      cases hro : isRo c with
      | true => have := r1.ro i c hi hro; omega
      | false =>
        rcases g1.fresh i c hi hro with h1 | ⟨j, c', h1, h2, h3⟩
        · omega
        · rw [← h3]; exact hdisγ a ha hs j c' h1
    · intro a ha c hc' h1 h2 he
      have h1 := hmem a ha h1
      have h2 := hmem c hc' h2
      rw [hloc a ha h1, hloc c hc' h2] at he
      exact I.pdis2 a (List.mem_append_right _ ha) c (List.mem_append_right _ hc') h1 h2 he
    · intro μ2 h2
      rw [tm]
      exact concL_put ((I.vals μ2 (hagr μ2 h2)).trans (I.vals _ hold).symm) (conc_congr (fun i hi => h2.1 i hi) _ hvl)
  rcases hrun with ⟨hw, hv, rfl⟩ | ⟨hw, q, hq, hv⟩
  · obtain ⟨μ', h1, h2, h3, h4⟩ := after μ w hr (Goes.refl _ _ _) (by rw [hv]; exact lt_undef _)
    refine ⟨_, _, _, _, μ', w, h4, .one ?_⟩
    rw [← FS_finish hio ho hd (μ1 := μ') h2 (fun d hd => h1 d (hE d hd)) rfl, hv, conc_undef]
    exact stX_unwanted rfl rfl ho (by rw [FS_tmps, wanted_eq hc, wanted_agree hag]; exact hw)
  · rcases hop with hop | ⟨hok, hcop⟩
    · rw [hq] at hop; simp at hop
    rw [hq] at hcop
    obtain ⟨μ1, w1, r1, g1, hvl, hst⟩ := execE_sound hK hr hlt (rest := rest) (k := k) ho hcop hok hv (F := FS b E l v e0 ops k μ S (s.e :: rest)) (cs := cs) rfl rfl
      (by rw [FS_tmps, wanted_eq hc, wanted_agree hag]; exact hw) (by rw [FS_ev]; exact exec_agree hcop hag)
    obtain ⟨μ', h1, h2, h3, h4⟩ := after μ1 w1 r1 g1 hvl
    refine ⟨_, _, _, _, μ', w1, h4, ?_⟩
    rw [← FS_finish hio ho hd (μ1 := μ') h2 (fun d hd => h1 d (hE d hd)) rfl, h3]
    exact hst

/-! ### reads -/
theorem beq0_eq {a b : Value} (h : beq0 a b = true) : a = b := by
  unfold beq0 at h
  split at h
  all_goals first | (simp at h; done) | skip
  · simpa using h
  · simp at h; rw [h.1, h.2]
  · rename_i a b
    simp at h
    rw [show a = b from by cases a; cases b; simp at h ⊢; exact h]
  · rfl
  · simpa using h
  · simp at h; rw [h.1, h.2]
  · simp at h; rw [h.1.1, h.1.2, h.2]
  · simpa using h
  · rfl
  · rfl
theorem beq0s_eq : ∀ {a b : List Value}, beq0s a b = true → a = b
  | [], [], _ => rfl
  | [], _ :: _, h => by simp [beq0s] at h
  | _ :: _, [], h => by simp [beq0s] at h
  | x :: a, y :: b, h => by
    simp only [beq0s, Bool.and_eq_true] at h
    rw [beq0_eq h.1, beq0s_eq h.2]
theorem beq1_eq {a b : Value} (h : beq1 a b = true) : a = b := by
  unfold beq1 at h
  split at h
  · simp only [Bool.and_eq_true, beq_iff_eq] at h
    rw [h.1.1, beq0s_eq h.1.2, beq0s_eq h.2]
  · simp only [Bool.and_eq_true, beq_iff_eq] at h
    rw [h.1, beq0_eq h.2]
  · exact beq0_eq h
theorem beqs_eq : ∀ {a b : List Value}, beqs a b = true → a = b
  | [], [], _ => rfl
  | [], _ :: _, h => by simp [beqs] at h
  | _ :: _, [], h => by simp [beqs] at h
  | x :: a, y :: b, h => by
    simp only [beqs, Bool.and_eq_true] at h
    rw [beq1_eq h.1, beqs_eq h.2]
theorem beqV_eq {a b : Value} (h : beqV a b = true) : a = b := by
  unfold beqV at h
  split at h
  · rw [beqs_eq h]
  · rw [beqs_eq h]
  · exact beq1_eq h
theorem chkR_spec {e : List Value} : ∀ {chk : List Nat}, chkR l e β chk = true → ∀ i ∈ chk, ∀ io, nthO l i = some io → io.wanted e = true → ∃ q d x, io.op = .r q ∧ io.dst = some d ∧ evR e β q = some x ∧ x = getV e d
  | [], _, i, hi, _, _, _ => by simp at hi
  | j :: chk, h, i, hi, io, hio, hw => by
    simp only [chkR, Bool.and_eq_true] at h
    rcases List.mem_cons.1 hi with rfl | hi
    · have h1 := h.1
      rw [hio] at h1
      simp only [hw, if_true] at h1
      split at h1
      · rename_i q d hq hd
        split at h1
        · rename_i x hx
          exact ⟨q, d, x, hq, hd, hx, beqV_eq h1⟩
        · simp at h1
      · simp at h1
    · exact chkR_spec h.2 i hi io hio hw

theorem Inv.read (X : Cx P ng ts ops l bf e0 v L0) (I : Inv P ng ts N0 K l bf e0 fin v t' σ' L0 μ0 σ0 w0 st prev C β L S μ w) {i : Nat} {io : IOper} {q : ROp} (hp : Pos bf i S) (hio : nthO l i = some io) (hq : io.op = .r q) (hw : io.wanted (tm l v e0 S) = true) :
    ∃ e n x, (∀ o, ops[i]? = some o → ∀ t ∈ seesT o io, getV (tm l v e0 S) t = getV e t) ∧ β.next ≤ n ∧ ltL n e = true ∧ evR e β q = some x ∧ put (tm l v e0 S) io.dst x = put (tm l v e0 S) io.dst (v i) := by
  have D := I.ds.facts
  have hR : isR io.op = true := by rw [hq]; rfl
  have hilt : i < l.length := by rw [nthO_eq] at hio; exact (List.getElem?_eq_some_iff.1 hio).1
  -- from a stretch
  have rd : ∀ {xs C2 : List Nat} {A : List NEnt} {nx : Option Nat} {γ : AW}, XS l bf e0 v β prev nx xs C2 β A γ → i ∈ xs →
      ∃ e n x, (∀ o, ops[i]? = some o → ∀ t ∈ seesT o io, getV (tm l v e0 S) t = getV e t) ∧ β.next ≤ n ∧ ltL n e = true ∧ evR e β q = some x ∧ put (tm l v e0 S) io.dst x = put (tm l v e0 S) io.dst (v i) := by
    intro xs C2 A nx γ hx hi
    obtain ⟨C', n, h1, h2, h3, h4⟩ := hx.facts.rd i hi io hio hR
    obtain ⟨o, ho, _⟩ := X.op hio
    have hag := X.agree hio ho h1 hp
    obtain ⟨q', hq', hev⟩ := h4 (by rw [← wanted_agree hag]; exact hw)
    rw [hq] at hq'; simp at hq'; subst hq'
    exact ⟨_, n, _, fun o' ho' => by rw [ho] at ho'; simp at ho'; subst ho'; exact hag, h2, h3, hev, rfl⟩
  -- from what is checked
  have ck : ∀ {chk : List Nat}, CK l bf e0 v β prev chk C → i ∈ C →
      ∃ e n x, (∀ o, ops[i]? = some o → ∀ t ∈ seesT o io, getV (tm l v e0 S) t = getV e t) ∧ β.next ≤ n ∧ ltL n e = true ∧ evR e β q = some x ∧ put (tm l v e0 S) io.dst x = put (tm l v e0 S) io.dst (v i) := by
    intro chk hck hi
    rcases hck.all i io hio hi hR with h1 | ⟨p, h1, h2⟩
    · obtain ⟨o, ho, _⟩ := X.op hio
      have hag := sees_agree (v := v) (e0 := e0) X.hu X.hs ho hio hck.clo (fun j hj => hck.clo i hi j hj) (fun h => by rw [hR] at h; simp at h) hp
      obtain ⟨q', d, x, hq', hd, hev, hx⟩ := chkR_spec hck.run i h1 io hio (by rw [← wanted_agree hag]; exact hw)
      rw [hq] at hq'; simp at hq'; subst hq'
      refine ⟨_, β.next, x, fun o' ho' => by rw [ho] at ho'; simp at ho'; subst ho'; exact hag, Nat.le_refl _, hck.lt, hev, ?_⟩
      have hdd : dstOf l i = some d := by rw [dst_eq hio, hd]
      rw [tm_some hdd (fun j hj => X.hu d j i hj hdd) hi] at hx
      rw [hd]
      simp only [put, setV_eq]
      by_cases hlt : d < e0.length
      · rw [hx, if_pos hlt]
      · rw [List.set_eq_of_length_le (by rw [tm_length]; omega), List.set_eq_of_length_le (by rw [tm_length]; omega)]
    · exact absurd (I.clo p (I.pv p h1) i h2) hp.out
  rcases D.all i hilt with hi | hi
  · cases st with
    | nil => exact ck I.ds.1 hi
    | cons s st => exact ck I.ds.1 hi
  · cases st with
    | nil => exact rd I.ds.2.1 hi
    | cons s st =>
      obtain ⟨hck, γ, β', A, L', io', rfl, hx, hio', hisE, hlt, hpos, hpv, hrun, hnx, hds⟩ := I.ds
      rcases List.mem_append.1 hi with hi | hi
      · exact rd hx hi
      · rcases List.mem_cons.1 hi with rfl | hi
        · rw [hio] at hio'; simp at hio'; subst hio'; rw [hq] at hisE; simp [isE] at hisE
        · have h1 := hds.facts.late s.e rfl i hi io hio (.inr hR) S I.clo hp.ahead
          have h2 := I.eS s.e h1 io' hio' hisE
          exact absurd (List.mem_append_right _ h2) hpos.out
end
end Go.Proofs.YtjpepfgbilbcdaaGreatDoor.Ai
