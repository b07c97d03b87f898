/- A PART OF THE PROOF THAT AN INTERPRETER OF THE PROGRAM'S FUNCTIONS IS SOUND: a step of it. -/
import Derived.Test.YtjpepfgbilbcdaaGreatDoorAiZe
namespace Go.Proofs.YtjpepfgbilbcdaaGreatDoor.Ai
open Go
set_option linter.unusedSimpArgs false
set_option linter.unusedSectionVars false

def Agr (μ2 μ : Nat → Loc) (n : Nat) (L : List NEnt) (S : List Nat) : Prop := (∀ x, x < n → μ2 x = μ x) ∧ ∀ a ∈ L, a.1 ∈ S → μ2 a.2.1 = μ a.2.1
theorem Agr.refl (μ : Nat → Loc) (n : Nat) (L : List NEnt) (S : List Nat) : Agr μ μ n L S := ⟨fun _ _ => rfl, fun _ _ _ => rfl⟩

/-- in whatever order: what holds once the operations S are done -/
structure Inv (P : Program) (ng : Nat) (ts : List TypeId) (N0 : Nat) (K : Ks) (l : List IOper) (bf : List Nat) (e0 : List Value) (fin : DStage) (v : Nat → Value) (t' : List Value) (σ' : AW) (L0 : List NEnt) (μ0 : Nat → Loc) (σ0 : AW) (w0 : World)
    (st : List DStage) (prev : Option Nat) (C : List Nat) (β : AW) (L : List NEnt) (S : List Nat) (μ : Nat → Loc) (w : World) : Prop where
  ds : DS l bf e0 K fin v t' σ' st prev C β L
  rep : Rep P ng ts N0 μ β w
  goes : Goes μ0 σ0 w0 μ β w
  clo : Clo bf S
  eC : ∀ i ∈ C, ∀ io, nthO l i = some io → isE io.op = true → i ∈ S
  eS : ∀ i ∈ S, ∀ io, nthO l i = some io → isE io.op = true → i ∈ C
  pv : ∀ p, prev = some p → p ∈ S
  rem : ∀ a ∈ L0, a.1 ∉ S → a ∈ L
  sub : ∀ a ∈ L, a ∈ L0
  pend : ∀ a ∈ L, a.1 ∈ S → ∀ μ2, Agr μ2 μ β.next L S → BRep P ng ts μ2 (a.2.1 + 1) a.2.1 w a.2.2
  pro : ∀ a ∈ L, a.1 ∈ S → isRo a.2.2 = false ∧ ∀ c, a.2.2 = .cells c → c.al = []
  pblk : ∀ a ∈ L, a.1 ∈ S → w0.heap.size ≤ (μ a.2.1).blk ∧ (μ a.2.1).blk < w.heap.size
  pdis : ∀ a ∈ L, a.1 ∈ S → ∀ i b, β.heap.get i = some b → (μ i).blk ≠ (μ a.2.1).blk
  pdis2 : ∀ a ∈ L, ∀ b ∈ L, a.1 ∈ S → b.1 ∈ S → (μ a.2.1).blk = (μ b.2.1).blk → a = b
  vals : ∀ μ2, Agr μ2 μ β.next L S → concL μ2 (tm l v e0 S) = concL μ (tm l v e0 S)

section
variable {P : Program} {ng : Nat} {ts : List TypeId} {N0 : Nat} {K : Ks} {l : List IOper} {bf : List Nat} {e0 : List Value} {fin : DStage} {v : Nat → Value} {t' : List Value} {σ' : AW} {L0 : List NEnt} {μ0 : Nat → Loc} {σ0 : AW} {w0 : World}
  {st : List DStage} {prev : Option Nat} {C : List Nat} {β : AW} {L : List NEnt} {S : List Nat} {μ : Nat → Loc} {w : World} {ops : Array Oper}

theorem dst_eq {i : Nat} {io : IOper} (h : nthO l i = some io) : dstOf l i = io.dst := by simp [dstOf, h]

/-- a value -/
theorem Inv.value (I : Inv P ng ts N0 K l bf e0 fin v t' σ' L0 μ0 σ0 w0 st prev C β L S μ w) {i : Nat} {io : IOper} (hp : Pos bf i S) (hio : nthO l i = some io) (hE : isE io.op = false) (hno : ∀ a ∈ L0, a.1 ≠ i)
    {x : Value} (hx : ∀ μ2, Agr μ2 μ β.next L S → conc μ2 x = conc μ x) (hput : put (tm l v e0 S) io.dst x = put (tm l v e0 S) io.dst (v i)) :
    Inv P ng ts N0 K l bf e0 fin v t' σ' L0 μ0 σ0 w0 st prev C β L (i :: S) μ w := by
  have hmem : ∀ a ∈ L, a.1 ∈ i :: S → a.1 ∈ S := fun a ha h => by
    rcases List.mem_cons.1 h with h | h
    · exact absurd h (hno a (I.sub a ha))
    · exact h
  have hagr : ∀ μ2, Agr μ2 μ β.next L (i :: S) → Agr μ2 μ β.next L S := fun μ2 h => ⟨h.1, fun a ha hs => h.2 a ha (List.mem_cons_of_mem _ hs)⟩
  refine ⟨I.ds, I.rep, I.goes, hp.next, fun j hj io' h1 h2 => List.mem_cons_of_mem _ (I.eC j hj io' h1 h2), ?_, fun p h => List.mem_cons_of_mem _ (I.pv p h), fun a ha hn => I.rem a ha fun h => hn (List.mem_cons_of_mem _ h), I.sub,
    fun a ha hs μ2 h2 => I.pend a ha (hmem a ha hs) μ2 (hagr μ2 h2), fun a ha hs => I.pro a ha (hmem a ha hs), fun a ha hs => I.pblk a ha (hmem a ha hs), fun a ha hs => I.pdis a ha (hmem a ha hs),
    fun a ha b hb h1 h2 => I.pdis2 a ha b hb (hmem a ha h1) (hmem b hb h2), ?_⟩
  · intro j hj io' h1 h2
    rcases List.mem_cons.1 hj with rfl | hj
    · rw [hio] at h1; simp at h1; subst h1; rw [hE] at h2; simp at h2
    · exact I.eS j hj io' h1 h2
  · intro μ2 h2
    rw [tm, dst_eq hio, ← hput]
    exact concL_put (I.vals μ2 (hagr μ2 h2)) (hx μ2 (hagr μ2 h2))

/-- the frame at S -/
def FS (b : Frame) (E : Fr) (l : List IOper) (v : Nat → Value) (e0 : List Value) (ops : Array Oper) (k : List Item) (μ : Nat → Loc) (S : List Nat) (rest : List Nat) : Frame := fr b μ { E with tmps := tm l v e0 S } (.inRegion ops rest :: k)

theorem FS_finish {b : Frame} {E : Fr} {k : List Item} {rest : List Nat} {i : Nat} {io : IOper} {o : Oper} (hio : nthO l i = some io) (ho : ops[i]? = some o) (hd : io.dst = o.dst) {μ1 : Nat → Loc} (hv : concL μ1 (tm l v e0 S) = concL μ (tm l v e0 S))
    (hdf : ∀ d ∈ E.dfs, μ1 d = μ d) {x : Value} (hput : put (tm l v e0 S) io.dst x = put (tm l v e0 S) io.dst (v i)) :
    (FS b E l v e0 ops k μ S (i :: rest)).finish (conc μ1 x) = FS b E l v e0 ops k μ1 (i :: S) rest := by
  have h1 : FS b E l v e0 ops k μ S (i :: rest) = FS b E l v e0 ops k μ1 S (i :: rest) := by
    have : E.dfs.map (mark μ1) = E.dfs.map (mark μ) := List.map_congr_left fun d hd => by simp [mark, hdf d hd]
    simp [FS, fr, hv, this]
  rw [h1]
  unfold FS
  rw [fr_finish, ho]
  simp only [Option.bind_some]
  rw [← hd, hput, tm, dst_eq hio]

theorem FS_ev {b : Frame} {E : Fr} {k : List Item} {rest : List Nat} : (FS b E l v e0 ops k μ S rest).eval = evc μ (tm l v e0 S) := fr_eval'
theorem FS_tmps {b : Frame} {E : Fr} {k : List Item} {rest : List Nat} : (FS b E l v e0 ops k μ S rest).tmps = ⟨concL μ (tm l v e0 S)⟩ := rfl

/-- what the static check and the canonical run give -/
structure Cx (P : Program) (ng : Nat) (ts : List TypeId) (ops : Array Oper) (l : List IOper) (bf : List Nat) (e0 : List Value) (v : Nat → Value) (L0 : List NEnt) : Prop where
  hl : cOps P ng ts ops ops.toList = some l
  hu : ∀ t i j, dstOf l i = some t → dstOf l j = some t → i = j
  hs : vSees l bf 0 ops.toList l = true
  of : ∀ i, i < l.length → OF l bf e0 v L0 i
  nf : ∀ a ∈ L0, NF l bf e0 v a
  uniq : ∀ a ∈ L0, ∀ b ∈ L0, a.1 = b.1 → a = b
  idu : ∀ a ∈ L0, ∀ b ∈ L0, a.2.1 = b.2.1 → a = b

theorem Cx.op (X : Cx P ng ts ops l bf e0 v L0) {i : Nat} {io : IOper} (hio : nthO l i = some io) : ∃ o, ops[i]? = some o ∧ cOper P ng ts ops o = some io ∧ io.dst = o.dst ∧
    ((io.op = .bad) ∨ (okOp ng o.op = true ∧ cOp P ts o.op = some io.op)) := by
  obtain ⟨o, ho, hc⟩ := cOps_get X.hl i io hio
  exact ⟨o, by simpa using ho, hc, cOper_dst hc, cOper_op hc⟩
theorem Cx.agree (X : Cx P ng ts ops l bf e0 v L0) {i : Nat} {o : Oper} {io : IOper} (hio : nthO l i = some io) (ho : ops[i]? = some o) {C1 : List Nat} (h1 : Pos bf i C1) (h2 : Pos bf i S) :
    ∀ t ∈ seesT o io, getV (tm l v e0 S) t = getV (tm l v e0 C1) t := sees_agree X.hu X.hs ho hio h1.clo h1.ahead (fun _ => h1.out) h2
/-- an operation that makes no block -/
theorem Cx.nokey (X : Cx P ng ts ops l bf e0 v L0) {i : Nat} {io : IOper} (hio : nthO l i = some io) (h : (∀ q, io.op ≠ .n q) ∨ ∃ C1, Pos bf i C1 ∧ io.wanted (tm l v e0 C1) = false) : ∀ a ∈ L0, a.1 ≠ i := by
  intro a ha he
  obtain ⟨C2, io2, q, f, h1, h2, h3, h4, _⟩ := X.nf a ha
  rw [he, hio] at h1; simp at h1; subst h1
  rcases h with h | ⟨C1, h5, h6⟩
  · exact h q h3
  · obtain ⟨o, ho, _⟩ := X.op hio
    rw [he] at h2
    rw [wanted_agree (X.agree hio ho h2 h5), h4] at h6
    simp at h6

/-- **an operation that makes no block and changes nothing** -/
theorem Inv.plain (X : Cx P ng ts ops l bf e0 v L0) (I : Inv P ng ts N0 K l bf e0 fin v t' σ' L0 μ0 σ0 w0 st prev C β L S μ w) {i : Nat} {io : IOper} (hp : Pos bf i S) (hio : nthO l i = some io) (hE : isE io.op = false)
    (hN : ∀ q, io.op ≠ .n q) {b : Frame} {E : Fr} {k : List Item} {rest : List Nat} {cs : List Frame} (hw : io.wanted (tm l v e0 S) = true)
    -- the value, by an environment that looks the same from there
    {e : List Value} {x : Value} (hsee : ∀ o, ops[i]? = some o → ∀ t ∈ seesT o io, getV (tm l v e0 S) t = getV e t)
    (hrun : ∀ o μ2, cOp P ts o.op = some io.op → okOp ng o.op = true → ops[i]? = some o → Agr μ2 μ β.next L S → (execOp (evc μ2 e) o).run P w = .ok (.value (conc μ2 x)) w)
    (hput : put (tm l v e0 S) io.dst x = put (tm l v e0 S) io.dst (v i)) (hbad : io.op ≠ .bad) :
    Inv P ng ts N0 K l bf e0 fin v t' σ' L0 μ0 σ0 w0 st prev C β L (i :: S) μ w ∧
      Steps P (lone (FS b E l v e0 ops k μ S (i :: rest)) cs w) (lone (FS b E l v e0 ops k μ (i :: S) rest) cs w) := by
  obtain ⟨o, ho, hc, hd, hop⟩ := X.op hio
  rcases hop with hop | ⟨hok, hcop⟩
  · exact absurd hop hbad
  have hev : ∀ μ2, Agr μ2 μ β.next L S → execOp (evc μ2 e) o = execOp (evc μ (tm l v e0 S)) o := fun μ2 h2 => by
    rw [← exec_agree hcop (hsee o ho), evc_of_concL (I.vals μ2 h2)]
  have h0 := hrun o μ hcop hok ho (Agr.refl _ _ _ _)
  have hx : ∀ μ2, Agr μ2 μ β.next L S → conc μ2 x = conc μ x := fun μ2 h2 => by
    have h1 := hrun o μ2 hcop hok ho h2
    rw [hev μ2 h2, ← hev μ (Agr.refl _ _ _ _), h0] at h1
    simp at h1; exact h1.symm
  refine ⟨I.value hp hio hE (X.nokey hio (.inl hN)) hx hput, .one ?_⟩
  rw [← FS_finish hio ho hd (μ1 := μ) rfl (fun _ _ => rfl) hput]
  refine stX_value rfl rfl ho ?_ (cOp_nodefer hcop) ?_
  · rw [FS_tmps, wanted_eq hc]; exact hw
  · rw [FS_ev, ← hev μ (Agr.refl _ _ _ _)]; exact h0

/-- an operation that is not wanted, but for changes -/
theorem Inv.unwanted (X : Cx P ng ts ops l bf e0 v L0) (I : Inv P ng ts N0 K l bf e0 fin v t' σ' L0 μ0 σ0 w0 st prev C β L S μ w) {i : Nat} {io : IOper} (hp : Pos bf i S) (hio : nthO l i = some io) (hE : isE io.op = false)
    {b : Frame} {E : Fr} {k : List Item} {rest : List Nat} {cs : List Frame} (hw : io.wanted (tm l v e0 S) = false) (hv : v i = undef) :
    Inv P ng ts N0 K l bf e0 fin v t' σ' L0 μ0 σ0 w0 st prev C β L (i :: S) μ w ∧
      Steps P (lone (FS b E l v e0 ops k μ S (i :: rest)) cs w) (lone (FS b E l v e0 ops k μ (i :: S) rest) cs w) := by
  obtain ⟨o, ho, hc, hd, hop⟩ := X.op hio
  refine ⟨I.value hp hio hE (X.nokey hio (.inr ⟨S, hp, hw⟩)) (x := undef) (fun μ2 _ => by rw [conc_undef, conc_undef]) (by rw [hv]), .one ?_⟩
  rw [← FS_finish hio ho hd (μ1 := μ) rfl (fun _ _ => rfl) (x := undef) (by rw [hv]), conc_undef]
  exact stX_unwanted rfl rfl ho (by rw [FS_tmps, wanted_eq hc]; exact hw)

/-- **a block** -/
theorem Inv.block (X : Cx P ng ts ops l bf e0 v L0) (I : Inv P ng ts N0 K l bf e0 fin v t' σ' L0 μ0 σ0 w0 st prev C β L S μ w) {i : Nat} {io : IOper} {q : NOp} (hp : Pos bf i S) (hio : nthO l i = some io) (hq : io.op = .n q)
    {b : Frame} {E : Fr} {k : List Item} {rest : List Nat} {cs : List Frame} (hE : ∀ d ∈ E.dfs, d < β.next) {id : Nat} {bk : Blk} (hm : (i, id, bk) ∈ L0) :
    ∃ μ1 w1, Inv P ng ts N0 K l bf e0 fin v t' σ' L0 μ0 σ0 w0 st prev C β L (i :: S) μ1 w1 ∧
      Steps P (lone (FS b E l v e0 ops k μ S (i :: rest)) cs w) (lone (FS b E l v e0 ops k μ1 (i :: S) rest) cs w1) := by
  obtain ⟨C1, io1, q1, f, h1, hp1, h3, h4, h5, h6, h7⟩ := X.nf _ hm
  simp only at h1 hp1 h3 h4 h5 h6 h7
  rw [hio] at h1; simp at h1; subst h1
  obtain ⟨o, ho, hc, hd, hop⟩ := X.op hio
  have hL : (i, id, bk) ∈ L := I.rem _ hm hp.out
  have D := I.ds.facts
  have hid : β.next ≤ id := D.ids _ hL
  rcases hop with hop | ⟨hok, hcop⟩
  · rw [hq] at hop; simp at hop
  rw [h3] at hcop
  have hng : ng ≤ id := Nat.le_trans I.rep.ngn hid
  -- the two of them look alike
  have hag := X.agree hio ho hp1 hp
  have hev : ∀ μ2, Agr μ2 μ β.next L S → execOp (evc μ2 (tm l v e0 C1)) o = execOp (evc μ (tm l v e0 S)) o := fun μ2 h2 => by
    rw [← exec_agree hcop hag, evc_of_concL (I.vals μ2 h2)]
  obtain ⟨ob, hrun, hro, hal, hb, hlt⟩ := evN_sound I.rep.glob hng h7 hcop hok h5 w
  refine ⟨upd μ id ⟨w.heap.size, 0, 0⟩, { w with heap := w.heap.push ob }, ?_, ?_⟩
  · -- whoever has another id
    have hne : ∀ a ∈ L, a.1 ∈ S → a.2.1 ≠ id := fun a ha hs he => by
      have := D.idu a ha _ hL he
      rw [this] at hs; exact hp.out hs
    have hlow : ∀ x, x < β.next → upd μ id ⟨w.heap.size, 0, 0⟩ x = μ x := fun x hx => upd_ne _ _ (by omega)
    have hold : Agr (upd μ id ⟨w.heap.size, 0, 0⟩) μ β.next L S := ⟨hlow, fun a ha hs => upd_ne _ _ (hne a ha hs)⟩
    have hagr : ∀ μ2, Agr μ2 (upd μ id ⟨w.heap.size, 0, 0⟩) β.next L (i :: S) → Agr μ2 μ β.next L S ∧ μ2 id = ⟨w.heap.size, 0, 0⟩ := fun μ2 h2 =>
      ⟨⟨fun x hx => (h2.1 x hx).trans (hlow x hx), fun a ha hs => (h2.2 a ha (List.mem_cons_of_mem _ hs)).trans (hold.2 a ha hs)⟩, by
        have := h2.2 _ hL (by simp); simpa [upd_same] using this⟩
    have hupd : ∀ μ2 : Nat → Loc, μ2 id = ⟨w.heap.size, 0, 0⟩ → upd μ2 id ⟨w.heap.size, 0, 0⟩ = μ2 := fun μ2 h => by
      funext x; unfold upd; split
      · rename_i hx; rw [hx, h]
      · rfl
    -- the same, at another place
    have hat : ∀ μ2, Agr μ2 (upd μ id ⟨w.heap.size, 0, 0⟩) β.next L (i :: S) → conc μ2 (f id) = conc (upd μ id ⟨w.heap.size, 0, 0⟩) (f id) ∧ BRep P ng ts μ2 (id + 1) id { w with heap := w.heap.push ob } bk := fun μ2 h2 => by
      obtain ⟨ha, hi⟩ := hagr μ2 h2
      have hg2 : Glob ng μ2 := ⟨fun g hg => by rw [ha.1 g (Nat.lt_of_lt_of_le hg I.rep.ngn)]; exact I.rep.glob.out g hg⟩
      obtain ⟨ob2, hrun2, _, _, hb2, _⟩ := evN_sound hg2 hng h7 hcop hok h5 w
      rw [hev μ2 ha, ← hev μ (Agr.refl _ _ _ _), hrun, hupd μ2 hi] at hrun2
      rw [hupd μ2 hi] at hb2
      simp only [Result.ok.injEq, Next.value.injEq] at hrun2
      obtain ⟨e1, e2⟩ := hrun2
      rw [← e2] at hb2
      exact ⟨e1.symm, hb2⟩
    have hmem : ∀ a ∈ L, a.1 ∈ i :: S → a = (i, id, bk) ∨ a.1 ∈ S := fun a ha h => by
      rcases List.mem_cons.1 h with h | h
      · exact .inl (D.uniq a ha _ hL h)
      · exact .inr h
    have hsz : ∀ a ∈ L, a.1 ∈ S → (upd μ id ⟨w.heap.size, 0, 0⟩ a.2.1) = μ a.2.1 := hold.2
    refine ⟨I.ds, (I.rep.agrμ hlow).grow rfl, (I.goes.agrμ (fun i b hi => (I.rep.blk i b hi).1) hlow).grow rfl rfl rfl rfl, hp.next, fun j hj io' g1 g2 => List.mem_cons_of_mem _ (I.eC j hj io' g1 g2), ?_, fun p h => List.mem_cons_of_mem _ (I.pv p h),
      fun a ha hn => I.rem a ha fun h => hn (List.mem_cons_of_mem _ h), I.sub, ?_, ?_, ?_, ?_, ?_, ?_⟩
    · intro j hj io' g1 g2
      rcases List.mem_cons.1 hj with rfl | hj
      · rw [hio] at g1; simp at g1; subst g1; rw [h3] at g2; simp [isE] at g2
      · exact I.eS j hj io' g1 g2
    · intro a ha hs μ2 h2
      rcases hmem a ha hs with rfl | hs
      · exact (hat μ2 h2).2
      · have ha2 := (hagr μ2 h2).1
        refine (I.pend a ha hs μ2 ha2).mono (fun _ _ => rfl) (by omega) (Nat.le_refl _) ?_
        rw [ha2.2 a ha hs]
        exact push_get w ob (I.pblk a ha hs).2
    · intro a ha hs
      rcases hmem a ha hs with rfl | hs
      · exact ⟨hro, hal⟩
      · exact I.pro a ha hs
    · intro a ha hs
      rcases hmem a ha hs with rfl | hs
      · simp only [upd_same]; exact ⟨I.goes.size, by simp⟩
      · rw [hsz a ha hs]; have := I.pblk a ha hs; simp; omega
    · intro a ha hs j c hj
      rw [hlow j (I.rep.blk j c hj).1]
      rcases hmem a ha hs with rfl | hs
      · have := I.rep.live hj; simp only [upd_same]; omega
      · rw [hsz a ha hs]; exact I.pdis a ha hs j c hj
    · intro a ha c hc' g1 g2 he
      rcases hmem a ha g1 with rfl | g1 <;> rcases hmem c hc' g2 with rfl | g2
      · rfl
      · rw [hsz c hc' g2] at he; simp only [upd_same] at he; have := (I.pblk c hc' g2).2; omega
      · rw [hsz a ha g1] at he; simp only [upd_same] at he; have := (I.pblk a ha g1).2; omega
      · rw [hsz a ha g1, hsz c hc' g2] at he; exact I.pdis2 a ha c hc' g1 g2 he
    · intro μ2 h2
      rw [tm, dst_eq hio]
      refine concL_put ((I.vals μ2 (hagr μ2 h2).1).trans (I.vals _ hold).symm) ?_
      rw [h6]; exact (hat μ2 h2).1
  · have hlow : ∀ x, x < β.next → upd μ id ⟨w.heap.size, 0, 0⟩ x = μ x := fun x hx => upd_ne _ _ (by omega)
    have hold : Agr (upd μ id ⟨w.heap.size, 0, 0⟩) μ β.next L S := ⟨hlow, fun a ha hs => upd_ne _ _ fun he => by
      have := D.idu a ha _ hL he
      rw [this] at hs; exact hp.out hs⟩
    refine .one ?_
    rw [← FS_finish hio ho hd (μ1 := upd μ id ⟨w.heap.size, 0, 0⟩) (I.vals _ hold) (fun d hd => hlow d (hE d hd)) rfl, h6]
    refine stX_value rfl rfl ho ?_ (cOp_nodefer hcop) ?_
    · rw [FS_tmps, wanted_eq hc, wanted_agree hag]; exact h4
    · rw [FS_ev, ← hev μ (Agr.refl _ _ _ _)]; exact hrun
end
end Go.Proofs.YtjpepfgbilbcdaaGreatDoor.Ai
