/- A PART OF THE PROOF THAT AN INTERPRETER OF THE PROGRAM'S FUNCTIONS IS SOUND: a step of it. -/
import Derived.Test.YtjpepfgbilbcdaaGreatDoorAiT
namespace Go.Proofs.YtjpepfgbilbcdaaGreatDoor.Ai
open Go
set_option linter.unusedSimpArgs false

/-! ### frames -/
def mark (μ : Nat → Loc) (d : Nat) : Deferred := { target := .collected (μ d).blk, args := #[] }
/-- a frame that runs: what it is (its function, its kind, whose round), what it holds, what is to do -/
def fr (b : Frame) (μ : Nat → Loc) (e : Fr) (todo : List Item) : Frame :=
  { fn := b.fn, tmps := ⟨concL μ e.tmps⟩, todo, defers := e.dfs.map (mark μ), mode := .run, kind := b.kind, roundOf := b.roundOf }

section
variable {P : Program} {b : Frame} {μ : Nat → Loc} {e : Fr} {k : List Item} {cs : List Frame} {w w' : World}

theorem fr_eval (x : Operand) : (fr b μ e k).eval x = evc μ e.tmps x := by
  cases x with
  | tmp t => exact getD_conc μ e.tmps t
  | _ => rfl
theorem fr_eval' : (fr b μ e k).eval = evc μ e.tmps := funext fr_eval

theorem st_skip : step P (lone (fr b μ e (.code .skip :: k)) cs w) = .next (lone (fr b μ e k) cs w) :=
  step_lone_go (by simp [stepG, stepG.exec, fr])
theorem st_label {l : Nat} : step P (lone (fr b μ e (.code (.label l) :: k)) cs w) = .next (lone (fr b μ e k) cs w) :=
  step_lone_go (by simp [stepG, stepG.exec, fr])
theorem st_inBlock {id : Nat} : step P (lone (fr b μ e (.inBlock id :: k)) cs w) = .next (lone (fr b μ e k) cs w) :=
  step_lone_go (by simp [stepG, stepG.exec, fr])
theorem st_seq {x y : Code} : step P (lone (fr b μ e (.code (.seq x y) :: k)) cs w) = .next (lone (fr b μ e (.code x :: .code y :: k)) cs w) :=
  step_lone_go (by simp [stepG, stepG.exec, fr])
theorem st_cond {c : Operand} {x y : Code} {t : Bool} (h : evc μ e.tmps c = .bool t) :
    step P (lone (fr b μ e (.code (.cond c x y) :: k)) cs w) = .next (lone (fr b μ e (.code (if t then x else y) :: k)) cs w) :=
  step_lone_go (by
    have := fr_eval (b := b) (μ := μ) (e := e) (k := .code (.cond c x y) :: k) c
    simp only [fr] at this
    simp [stepG, stepG.exec, fr, this, h])
theorem st_block {id : Nat} {c : Code} : step P (lone (fr b μ e (.code (.block id c) :: k)) cs w) = .next (lone (fr b μ e (.code c :: .inBlock id :: k)) cs w) :=
  step_lone_go (by simp [stepG, stepG.exec, fr])
theorem st_loop {c : Code} : step P (lone (fr b μ e (.code (.loop c) :: k)) cs w) = .next (lone (fr b μ e (.code c :: .inLoop c :: k)) cs w) :=
  step_lone_go (by simp [stepG, stepG.exec, fr])
theorem st_inLoop {c : Code} : step P (lone (fr b μ e (.inLoop c :: k)) cs w) = .next (lone (fr b μ e (.code c :: .inLoop c :: k)) cs w) :=
  step_lone_go (by simp [stepG, stepG.exec, fr])
theorem st_exit {id : Nat} {k' : List Item} (h : exitTo id k = some k') : step P (lone (fr b μ e (.code (.exit id) :: k)) cs w) = .next (lone (fr b μ e k') cs w) :=
  step_lone_go (by simp [stepG, stepG.exec, fr, h])
theorem st_region {id : Nat} {ops : Array Oper} :
    step P (lone (fr b μ e (.code (.region id ops false) :: k)) cs w) = .next (lone (fr b μ e (.inRegion ops (List.range ops.size) :: k)) cs w) :=
  step_lone_go (by simp [stepG, stepG.exec, fr])
theorem st_region_draw {id : Nat} {ops : Array Oper} :
    step P (lone (fr b μ e (.code (.region id ops true) :: k)) cs w) =
      .next (lone (fr b μ e (.inRegion ops (Region.schedule (P.follows .mixedOrders) ops (w.tape w.drawn (.order b.fn id))) :: k)) cs { w with drawn := w.drawn + 1 }) :=
  step_lone_go (by simp [stepG, stepG.exec, fr, choose, Sem.run, Question.forced, Question.cut])
theorem st_region_end {ops : Array Oper} : step P (lone (fr b μ e (.inRegion ops [] :: k)) cs w) = .next (lone (fr b μ e k) cs w) :=
  step_lone_go (by simp [stepG, stepG.exec, fr])

theorem fr_finish (ops : Array Oper) (i : Nat) (rest : List Nat) (v : Value) :
    (fr b μ e (.inRegion ops (i :: rest) :: k)).finish (conc μ v) = fr b μ { e with tmps := put e.tmps ((ops[i]?).bind (·.dst)) v } (.inRegion ops rest :: k) := by
  cases h : (ops[i]?).bind (·.dst) with
  | none => simp [Frame.finish, fr, h, put]
  | some d =>
    simp only [Frame.finish, fr, h, put]
    congr 1
    rw [setV_eq, concL_eq, concL_eq]
    apply Array.ext'
    simp [List.map_set]

/-- an operation that runs in a frame -/
theorem st_oper {ops : Array Oper} {i : Nat} {rest : List Nat} {o : Oper} (ho : ops[i]? = some o) (hw : Region.wanted o (yielded ops ⟨concL μ e.tmps⟩) = true) (hnd : ∀ c, o.op ≠ .defer c) :
    stepG P true { frame := fr b μ e (.inRegion ops (i :: rest) :: k), callers := cs, status := .running, dying := none } w =
      stepG.apply P true (fr b μ e (.inRegion ops (i :: rest) :: k)) cs none (execOp (evc μ e.tmps) o) w := by
  have he := fr_eval' (b := b) (μ := μ) (e := e) (k := .inRegion ops (i :: rest) :: k)
  have h1 : stepG P true { frame := fr b μ e (.inRegion ops (i :: rest) :: k), callers := cs, status := .running, dying := none } w =
      stepG.oper P true (fr b μ e (.inRegion ops (i :: rest) :: k)) cs none w := by
    simp [stepG, stepG.exec, fr, ho, hw]
  rw [h1]
  unfold stepG.oper
  have h2 : (fr b μ e (.inRegion ops (i :: rest) :: k)).oper? = some o := by simp [Frame.oper?, fr, ho]
  rw [h2]
  simp only
  split
  · rename_i l c _ hop; exact absurd hop (hnd c)
  · rw [he]
theorem st_value {ops : Array Oper} {i : Nat} {rest : List Nat} {o : Oper} (ho : ops[i]? = some o) (hw : Region.wanted o (yielded ops ⟨concL μ e.tmps⟩) = true) (hnd : ∀ c, o.op ≠ .defer c) {v : Value}
    (hr : (execOp (evc μ e.tmps) o).run P w = .ok (.value v) w') :
    step P (lone (fr b μ e (.inRegion ops (i :: rest) :: k)) cs w) = .next (lone ((fr b μ e (.inRegion ops (i :: rest) :: k)).finish v) cs w') :=
  step_lone_go (by rw [st_oper ho hw hnd]; simp [stepG.apply, hr])
theorem st_unit {ops : Array Oper} {i : Nat} {rest : List Nat} {o : Oper} (ho : ops[i]? = some o) (hw : Region.wanted o (yielded ops ⟨concL μ e.tmps⟩) = true) (hnd : ∀ c, o.op ≠ .defer c)
    (hr : (execOp (evc μ e.tmps) o).run P w = .ok .skip w') :
    step P (lone (fr b μ e (.inRegion ops (i :: rest) :: k)) cs w) = .next (lone ((fr b μ e (.inRegion ops (i :: rest) :: k)).finish undef) cs w') :=
  step_lone_go (by rw [st_oper ho hw hnd]; simp [stepG.apply, hr])
theorem st_enter {ops : Array Oper} {i : Nat} {rest : List Nat} {o : Oper} (ho : ops[i]? = some o) (hw : Region.wanted o (yielded ops ⟨concL μ e.tmps⟩) = true) (hnd : ∀ c, o.op ≠ .defer c) {f : FuncId} {args : Array Value}
    (hr : (execOp (evc μ e.tmps) o).run P w = .ok (.enter f args) w') :
    step P (lone (fr b μ e (.inRegion ops (i :: rest) :: k)) cs w) = .next (lone (Frame.enter P f args .normal) (fr b μ e (.inRegion ops (i :: rest) :: k) :: cs) w') :=
  step_lone_go (by rw [st_oper ho hw hnd]; simp [stepG.apply, hr, fr])
theorem st_round {ops : Array Oper} {i : Nat} {rest : List Nat} {o : Oper} (ho : ops[i]? = some o) (hw : Region.wanted o (yielded ops ⟨concL μ e.tmps⟩) = true) (hnd : ∀ c, o.op ≠ .defer c) {l f : Nat} {tm : Array Value} {as bo : Code}
    (hr : (execOp (evc μ e.tmps) o).run P w = .ok (.round l f tm as bo) w') :
    step P (lone (fr b μ e (.inRegion ops (i :: rest) :: k)) cs w) = .next (lone (Frame.round l f tm as bo .normal) (fr b μ e (.inRegion ops (i :: rest) :: k) :: cs) w') :=
  step_lone_go (by rw [st_oper ho hw hnd]; simp [stepG.apply, hr])
theorem st_unwanted {ops : Array Oper} {i : Nat} {rest : List Nat} (h : ((ops[i]?).map (Region.wanted · (yielded ops ⟨concL μ e.tmps⟩))).getD false = false) :
    step P (lone (fr b μ e (.inRegion ops (i :: rest) :: k)) cs w) = .next (lone ((fr b μ e (.inRegion ops (i :: rest) :: k)).finish undef) cs w) :=
  step_lone_go (by
    have h' := h
    simp only [fr] at *
    simp [stepG, stepG.exec, h'])

/-! ### the ends of frames -/
theorem st_ret (hr : b.roundOf = none) : step P (lone (fr b μ e (.code .ret :: k)) cs w) = .next (lone { fr b μ e (.code .ret :: k) with mode := .returning } cs w) :=
  step_lone_go (by simp [stepG, stepG.exec, fr, hr])
theorem st_end (hr : b.roundOf = none) : step P (lone (fr b μ e []) cs w) = .next (lone { fr b μ e [] with mode := .returning } cs w) :=
  step_lone_go (by simp [stepG, stepG.exec, fr, hr])
/-- a mark among the deferred calls -/
theorem st_mark {f : Frame} {blk : Nat} {ds : List Deferred} (hm : f.mode = .returning) (hd : f.defers = { target := .collected blk, args := #[] } :: ds) (hb : w.heap[blk]? = some (.deferred (some []))) :
    step P (lone f cs w) = .next (lone { f with defers := ds } cs { w with heap := w.heap.setIfInBounds blk (.deferred none) }) :=
  step_lone_go (by
    have ht : (Instr.takeDeferred blk).run P w = .ok [] { w with heap := w.heap.setIfInBounds blk (.deferred none) } := by
      simp [Instr.takeDeferred, getObj, setObj, Sem.run, Sem.bind, bind, hb]
    simp [stepG, hm, unwind, hd, ht])
theorem st_leave {f c : Frame} {fn : Func} {v : Value} (hm : f.mode = .returning) (hd : f.defers = []) (hk : f.kind = .normal) (hf : P.funcs[f.fn]? = some fn) (hr : (results fn f.tmps).run P w = .ok v w) :
    step P (lone f (c :: cs) w) = .next (lone (c.finish v) cs w) :=
  step_lone_go (by simp [stepG, hm, unwind, hd, hf, hr, doReturn, hk])
/-- a round is left -/
theorem st_endRound {f c : Frame} {l : Nat} {jump : Option Code} {v : Value} (hm : f.mode = .run) (hro : f.roundOf = some l) (hk : f.kind = .normal)
    (htodo : (f.todo = [] ∧ jump = none) ∨ (∃ k, f.todo = .code .ret :: k ∧ jump = some .ret) ∨ ∃ id k, f.todo = .code (.exit id) :: k ∧ exitTo id k = none ∧ jump = some (.exit id))
    (hr : (Instr.endRound l jump).run P w = .ok v w') : step P (lone f (c :: cs) w) = .next (lone (c.finish v) cs w') :=
  step_lone_go (by
    rcases htodo with ⟨h1, rfl⟩ | ⟨k, h1, rfl⟩ | ⟨id, k, h1, h2, rfl⟩
    · simp [stepG, hm, stepG.exec, h1, hro, hr, doReturn, hk]
    · simp [stepG, hm, stepG.exec, h1, hro, hr, doReturn, hk]
    · simp [stepG, hm, stepG.exec, h1, h2, hro, hr, doReturn, hk])
theorem st_beginRound {l : Nat} (hro : b.roundOf = some l) (hr : (Instr.beginRound l).run P w = .ok () w') : step P (lone (fr b μ e (.beginRound :: k)) cs w) = .next (lone (fr b μ e k) cs w') :=
  step_lone_go (by
    have : (fr b μ e (.beginRound :: k)).finish undef = fr b μ e k := by simp [Frame.finish, fr]
    have hrun : (do (fr b μ e (.beginRound :: k)).roundOf.elim (stuck "beginRound: no round") Instr.beginRound; pure Next.skip : Sem Next).run P w = .ok .skip w' := by simp [fr, hro, hr]
    have hs : stepG P true { frame := fr b μ e (.beginRound :: k), callers := cs, status := .running, dying := none } w = stepG.apply P true (fr b μ e (.beginRound :: k)) cs none (do (fr b μ e (.beginRound :: k)).roundOf.elim (stuck "beginRound: no round") Instr.beginRound; pure Next.skip) w := by
      simp [stepG, stepG.exec, fr]
    rw [hs]
    simp only [stepG.apply, Sem.runT_eq, hrun]
    simp [this])
end
end Go.Proofs.YtjpepfgbilbcdaaGreatDoor.Ai
