/- A PART OF THE PROOF THAT AN INTERPRETER OF THE PROGRAM'S FUNCTIONS IS SOUND: a step of it. -/
import Derived.Test.YtjpepfgbilbcdaaGreatDoorAiE
import Derived.Laws.Entries
namespace Go.Proofs.YtjpepfgbilbcdaaGreatDoor.Ai
open Go
set_option linter.unusedSimpArgs false

section
variable {P : Program} {ng n : Nat} {ts : List TypeId} {μ : Nat → Loc} {e : List Value} {w : World}

/-- an operand, in both readings -/
structure OpV (μ : Nat → Loc) (n : Nat) (e : List Value) (x : Operand) (X : Value) : Prop where
  ev : (cOpd x).ev e = X
  c : evc μ e x = conc μ X
  l : lt n X = true
theorem opV (hg : Glob ng μ) (hn : ng ≤ n) (he : ltL n e = true) {x : Operand} (hx : okOpd ng x = true) : OpV μ n e x ((cOpd x).ev e) :=
  ⟨rfl, opd_conc hg e hx, opd_lt hn he hx⟩

@[simp] theorem conc_bool (μ : Nat → Loc) (b : Bool) : conc μ (.bool b) = .bool b := by simp [conc]
@[simp] theorem conc_int (μ : Nat → Loc) (k : IntKind) (i : Int) : conc μ (.int k i) = .int k i := by simp [conc]
@[simp] theorem conc_string (μ : Nat → Loc) (s : ByteArray) : conc μ (.string s) = .string s := by simp [conc]
@[simp] theorem conc_pnone (μ : Nat → Loc) : conc μ (.pointer none) = .pointer none := by simp [conc]
@[simp] theorem conc_psome (μ : Nat → Loc) (a : Addr) : conc μ (.pointer (some a)) = .pointer (some (cAddr μ a)) := by simp [conc]
@[simp] theorem conc_snone (μ : Nat → Loc) (a b : Nat) : conc μ (.slice none a b) = .slice none a b := by simp [conc]
@[simp] theorem conc_ssome (μ : Nat → Loc) (x : Addr) (a b : Nat) : conc μ (.slice (some x) a b) = .slice (some (cAddr μ x)) a (b + (μ x.block).ex) := by simp [conc]
@[simp] theorem conc_mnone (μ : Nat → Loc) : conc μ (.map none) = .map none := by simp [conc]
@[simp] theorem conc_msome (μ : Nat → Loc) (r : Nat) : conc μ (.map (some r)) = .map (some (μ r).blk) := by simp [conc]
@[simp] theorem conc_nilFunc (μ : Nat → Loc) : conc μ .nilFunc = .nilFunc := by simp [conc]
@[simp] theorem conc_nilIface (μ : Nat → Loc) : conc μ .nilIface = .nilIface := by simp [conc]
@[simp] theorem conc_iface (μ : Nat → Loc) (t : TypeId) (v : Value) : conc μ (.iface t v) = .iface t (conc μ v) := by simp [conc]
@[simp] theorem conc_agg (μ : Nat → Loc) (l : List Value) : conc μ (.agg ⟨l⟩) = .agg ⟨concL μ l⟩ := by simp [conc]
@[simp] theorem conc_tuple (μ : Nat → Loc) (l : List Value) : conc μ (.tuple ⟨l⟩) = .tuple ⟨concL μ l⟩ := by simp [conc]
@[simp] theorem conc_func (μ : Nat → Loc) (f : Fn) (a b : List Value) : conc μ (.func f ⟨a⟩ ⟨b⟩) = .func (cFn μ f) ⟨concL μ a⟩ ⟨concL μ b⟩ := by simp [conc]
@[simp] theorem lt_bool (n : Nat) (b : Bool) : lt n (.bool b) = true := by simp [lt]
@[simp] theorem lt_int (n : Nat) (k : IntKind) (i : Int) : lt n (.int k i) = true := by simp [lt]
@[simp] theorem lt_string (n : Nat) (s : ByteArray) : lt n (.string s) = true := by simp [lt]
@[simp] theorem lt_psome (n : Nat) (a : Addr) : lt n (.pointer (some a)) = true ↔ a.block < n ∧ a.spot = none := by simp [lt]
@[simp] theorem lt_ssome (n : Nat) (x : Addr) (a b : Nat) : lt n (.slice (some x) a b) = true ↔ x.block < n ∧ x.spot = none := by simp [lt]
@[simp] theorem lt_snone (n : Nat) (a b : Nat) : lt n (.slice none a b) = true := by simp [lt]
@[simp] theorem lt_pnone (n : Nat) : lt n (.pointer none) = true := by simp [lt]
@[simp] theorem lt_mnone (n : Nat) : lt n (.map none) = true := by simp [lt]
@[simp] theorem lt_msome (n r : Nat) : lt n (.map (some r)) = true ↔ r < n := by simp [lt]
@[simp] theorem lt_nilIface (n : Nat) : lt n .nilIface = true := by simp [lt]
@[simp] theorem lt_nilFunc (n : Nat) : lt n .nilFunc = true := by simp [lt]
@[simp] theorem lt_agg (n : Nat) (l : List Value) : lt n (.agg ⟨l⟩) = ltL n l := by simp [lt]
@[simp] theorem lt_tuple (n : Nat) (l : List Value) : lt n (.tuple ⟨l⟩) = ltL n l := by simp [lt]
@[simp] theorem lt_iface (n : Nat) (t : TypeId) (v : Value) : lt n (.iface t v) = lt n v := by simp [lt]
@[simp] theorem lt_func (n : Nat) (f : Fn) (a b : List Value) : lt n (.func f ⟨a⟩ ⟨b⟩) = (ltFn n f && ltL n a && ltL n b) := by simp [lt]

theorem run_und {P : Program} {t : TypeId} {d : TypeDesc} (h : P.underlying t = some d) (w : World) : (underlying t).run P w = .ok d w := run_underlying h w
theorem run_info {P : Program} {t : TypeId} {i : TypeInfo} (h : P.info? t = some i) (w : World) : (typeInfo t).run P w = .ok i w := by
  simp [typeInfo, h]
theorem run_sz {P : Program} {t : TypeId} {k : Nat} (h : szOf P t = some k) (w : World) : (Go.sizeOf t).run P w = .ok k w := by
  simp only [szOf, Option.map_eq_some_iff] at h
  obtain ⟨i, hi, rfl⟩ := h
  simp [Go.sizeOf, run_info hi]
theorem run_agg {P : Program} {t : TypeId} {b : Bool} (h : aggOf P t = some b) (w : World) : (isAgg t).run P w = .ok b w := by
  simp only [aggOf, Option.map_eq_some_iff] at h
  obtain ⟨d, hd, rfl⟩ := h
  simp only [isAgg, Sem.run_bind, run_und hd, Result.andThen_ok]
  cases d <;> rfl
theorem add_spot (a : Addr) (h : a.spot = none) (k : Nat) : a.add k = ⟨a.block, a.off + k, none⟩ := by
  cases a; simp at h; subst h
  unfold Addr.add; split
  · rename_i h0; subst h0; rfl
  · rfl
theorem add_mk (b o k : Nat) : (⟨b, o, none⟩ : Addr).add k = ⟨b, o + k, none⟩ := add_spot _ rfl k
theorem cAddr_eta (μ : Nat → Loc) (a : Addr) (h : a.spot = none) : cAddr μ a = ⟨(μ a.block).blk, (μ a.block).sh + a.off, none⟩ := by simp [cAddr, h]

/-! ### the operations that only compute -/
theorem okOp_1 {op : Op} {x : Operand} (h : okOp ng op = true) (ho : op.operands = #[x]) : okOpd ng x = true := by
  simp [okOp, ho] at h; exact h
theorem okOp_2 {op : Op} {x y : Operand} (h : okOp ng op = true) (ho : op.operands = #[x, y]) : okOpd ng x = true ∧ okOpd ng y = true := by
  simp [okOp, ho] at h; exact h

/-- what is to be shown of an operation that only computes -/
def PSound (P : Program) (μ : Nat → Loc) (n : Nat) (e : List Value) (o : Oper) (v : Value) : Prop :=
  ∀ w, (execOp (evc μ e) o).run P w = .ok (.value (conc μ v)) w ∧ lt n v = true

theorem binInt_sound {op : BinOp} {k : IntKind} {a b : Int} {v : Value} (hs : isShift op = false) (h : binInt op k a b = some v) (w : World) :
    (match op with
    | .add | .sub | .mul => Op.intArith op k a b
    | .quo | .rem => Op.intDiv op k a b
    | .and | .or | .xor | .andNot => Op.intBits op k a b
    | _ => Op.intCmp op a b).run P w = .ok (conc μ v) w ∧ lt n v = true := by
  cases op <;> simp [binInt, isShift, bits] at h hs ⊢ <;> first
    | (obtain ⟨h1, rfl⟩ := h; simp [Op.intDiv, h1])
    | (subst h; simp [Op.intArith, Op.intBits, Op.intCmp])
theorem binStr_sound {op : BinOp} {a b : ByteArray} {v : Value} (h : binStr op a b = some v) (w : World) :
    (Op.stringOp op a b).run P w = .ok (conc μ v) w ∧ lt n v = true := by
  cases op <;> simp [binStr] at h <;> first
    | (subst h; simp [Op.stringOp]; done)
    | (obtain ⟨h1, rfl⟩ := h; simp [Op.stringOp, h1])
theorem bin_sound {op : BinOp} {t : TypeId} {X Y v : Value} (h : bin op X Y = some v) (w : World) :
    (binOp op t (conc μ X) (conc μ Y)).run P w = .ok (conc μ v) w ∧ lt n v = true := by
  unfold bin at h
  split at h
  · rename_i k a k' b
    split at h
    · rename_i hs
      unfold shiftInt at h
      split at h
      · simp at h
      · rename_i hb
        cases op <;> simp [isShift] at hs <;> simp at h <;> subst h <;> simp [binOp, Op.shift, hb, Nat.min]
    · rename_i hs
      split at h
      · rename_i hk; subst hk
        have hb := binInt_sound (P := P) (μ := μ) (n := n) (by simpa using hs) h w
        cases op <;> simp [isShift] at hs <;> simpa [binOp] using hb
      · simp at h
  · rename_i a b
    have hb := binStr_sound (P := P) (μ := μ) (n := n) h w
    cases op <;> simpa [binOp] using hb
  · simp at h
end
end Go.Proofs.YtjpepfgbilbcdaaGreatDoor.Ai
