/- A PART OF THE PROOF THAT AN INTERPRETER OF THE PROGRAM'S FUNCTIONS IS SOUND: from loaded functions to it. -/
import Derived.Test.YtjpepfgbilbcdaaGreatDoorAiC
namespace Go.Proofs.YtjpepfgbilbcdaaGreatDoor.Ai
open Go
set_option linter.unusedVariables false

/-! ### from loaded functions to the small language -/
def cOpd : Operand → Opd
  | .tmp t => .t t
  | .const v => .c v
  | .global g => .g g
  | .func f => .c (.func (.func f) #[] #[])
/-- an operand that is let: constants bear no addresses; variables are those that are given -/
def okOpd (ng : Nat) : Operand → Bool
  | .const v => lt 0 v
  | .global g => decide (g < ng)
  | _ => true

def szOf (P : Program) (t : TypeId) : Option Nat := (P.info? t).map (·.size)
def aggOf (P : Program) (t : TypeId) : Option Bool := (P.underlying t).map fun d => match d with | .struct _ | .array _ _ => true | _ => false
/-- none: one cell; some n: a row of n -/
def partOf (P : Program) (t : TypeId) : Option (Option Nat) :=
  match aggOf P t, szOf P t with
  | some true, some n => some (some n)
  | some false, some 1 => some none
  | _, _ => none
def zeroOf (P : Program) (t : TypeId) : Option Value :=
  match P.info? t with
  | some i => match i.zero with | some v => if lt 0 v then some v else none | none => none
  | none => none
def zeroCells (P : Program) (t : TypeId) : Option (List Value) :=
  match zeroOf P t, szOf P t with
  | some v, some n => if (cellsOf v).length = n && allCells (cellsOf v) then some (cellsOf v) else none
  | _, _ => none

def cEq (P : Program) : Nat → TypeId → Option EqT
  | 0, _ => none
  | d + 1, t =>
    match P.underlying t with
    | some .bool => some .bool
    | some (.int _) => some .int
    | some .string => some .str
    | some (.interface _) => some .iface
    | some (.struct fs) =>
      if P.stoodInHeld t then none else
      (fs.toList.mapM fun f => if f.name = "_" then none else do
        let n ← partOf P f.type
        let e ← cEq P d f.type
        pure (f.offset, n, e)).map EqT.strct
    | _ => none
/-- of a part that lies flat -/
def cFlat (P : Program) (t : TypeId) : Option EqT :=
  match P.underlying t with
  | some .bool => some .bool
  | some (.int _) => some .int
  | some .string => some .str
  | _ => none
def cFields (P : Program) : List Field → Option (List (Nat × Option Nat × EqT))
  | [] => some []
  | f :: fs =>
    if f.name = "_" then none else
    match partOf P f.type, cFlat P f.type, cFields P fs with
    | some n, some q, some r => some ((f.offset, n, q) :: r)
    | _, _, _ => none
/-- a key, or what is held against another one: flat, or a struct of what is flat -/
def cKey (P : Program) (t : TypeId) : Option EqT :=
  match cFlat P t with
  | some q => some q
  | none =>
    match P.underlying t with
    | some (.struct fs) => if P.stoodInHeld t || P.eqGuardType P.depth t then none else (cFields P fs.toList).map .strct
    | _ => none
/-- only what lies flat: no interface in it -/
def flatEq : EqT → Bool
  | .bool | .int | .str => true
  | .strct fs => fs.all fun x => match x.2.2 with | .bool | .int | .str => true | _ => false
  | _ => false

def cParts (fs : List (Nat × Nat)) (parts : Array (Nat × Operand)) : Option (List (Nat × Nat × Opd)) :=
  parts.toList.mapM fun (i, x) => (fs[i]?).map fun (off, n) => (off, n, cOpd x)

def cBuiltin (P : Program) (b : Builtin) (args : List Operand) (ts : List TypeId) : Option IOp :=
  match b, args, ts with
  | .len, [x], [t] =>
    match P.underlying t with
    | some .string => some (.p (.lenS (cOpd x)))
    | some (.slice _) => some (.p (.lenL (cOpd x)))
    | some (.array n _) => some (.p (.lenC n))
    | some (.map _ _) => some (.r (.lenM (cOpd x)))
    | some (.pointer a) => match P.underlying a with | some (.array n _) => some (.p (.lenC n)) | _ => none
    | _ => none
  | .cap, [x], [t] => match P.underlying t with | some (.slice _) => some (.r (.cap (cOpd x))) | _ => none
  | .max, [x, y], _ => some (.p (.max (cOpd x) (cOpd y)))
  | .min, [x, y], _ => some (.p (.min (cOpd x) (cOpd y)))
  | .append, [s, x], [t, u] =>
    match P.underlying t with
    | some (.slice el) =>
      match zeroCells P el, P.info? el, P.underlying u with
      | some z, some i, some (.int _) => if z.length = 0 || i.bytes = 0 then none else some (.e (.appendZ el z.length i.bytes z (cOpd s) (cOpd x)))
      | some z, some i, some .string => if z.length = 1 && i.bytes = 1 then some (.e (.append el 1 1 z (cOpd s) (cOpd x))) else none
      | some z, some i, some (.slice _) => if z.length = 0 || i.bytes = 0 then none else some (.e (.append el z.length i.bytes z (cOpd s) (cOpd x)))
      | _, _, _ => none
    | _ => none
  | .copy, [d, s], [t, _] =>
    match P.underlying t with
    | some (.slice el) => match zeroCells P el with | some z => if z.length = 0 then none else some (.e (.copy z.length (cOpd d) (cOpd s))) | none => none
    | _ => none
  | .delete, [m, k], [t, _] =>
    match P.underlying t with
    | some (.map _ _) => none
    | _ => none
  | .clear, [x], [t] =>
    match P.underlying t with
    | some (.slice el) => match zeroCells P el with | some z => if z.length = 0 then none else some (.e (.clear z (cOpd x))) | none => none
    | _ => none
  | .panic, [x], _ => some (.e (.panic (cOpd x)))
  | .unsafeSliceData, [x], _ => some (.e (.sdata (cOpd x)))
  | .unsafeString, [x, n], t :: _ =>
    match P.underlying t with
    | some (.pointer el) => match P.underlying el with | some (.int .u8) => if szOf P el = some 1 then some (.e (.ustr el (cOpd x) (cOpd n))) else none | _ => none
    | _ => none
  | _, _, _ => none

/-- the methods of that name of all types of the program, by their types: plain ones -/
def cMethods (P : Program) (name : String) (ts : List TypeId) : List (TypeId × FuncId) :=
  ts.filterMap fun t =>
    match P.info? t with
    | some i =>
      match i.methods.find? (·.name == name) with
      | some m => match m.path.isEmpty, m.func with
        | true, some (f, true) => (match P.underlying t with | some (.pointer _) => some (t, f) | _ => none)
        | true, some (f, false) => (match P.underlying t with | some (.pointer _) => none | some _ => some (t, f) | none => none)
        | _, _ => none
      | none => none
    | none => none

/-- names and types for which there is a plain method -/
def cNames (P : Program) (ts : List TypeId) : List (String × TypeId) :=
  ts.flatMap fun t =>
    match P.info? t with
    | some i => i.methods.toList.filterMap fun m => if ((cMethods P m.name [t]).lookup t).isSome then some (m.name, t) else none
    | none => []

def isConst : Operand → Bool
  | .const _ => true
  | _ => false

/-- types that lie flat, of those that interfaces bear -/
def cIfaces (P : Program) (ts : List TypeId) : List (TypeId × EqT) :=
  ts.filterMap fun t =>
    match P.info? t, cFlat P t with
    | some i, some q => if i.comparable then some (t, q) else none
    | _, _ => none
def cEqOp (P : Program) (ts : List TypeId) (op : BinOp) (t : TypeId) (d : TypeDesc) (x y : Operand) : Option IOp :=
  match d with
  | .struct _ => (cKey P t).map fun q => .p (.eqv (isNeq op) q (cOpd x) (cOpd y))
  | .pointer el => if (szOf P el).any (· ≠ 0) then some (.r (.peq (isNeq op) (cOpd x) (cOpd y))) else none
  | .slice _ => some (.p (.eqv (isNeq op) .nilS (cOpd x) (cOpd y)))
  | .map _ _ => some (.p (.eqv (isNeq op) .nilM (cOpd x) (cOpd y)))
  | .func _ _ _ => some (.p (.eqv (isNeq op) .nilF (cOpd x) (cOpd y)))
  | .interface _ => some (.p (.eqv (isNeq op) (if isConst x || isConst y then .ifaceN else if (cIfaces P ts).isEmpty then .iface else .ifaceT (cIfaces P ts)) (cOpd x) (cOpd y)))
  | .bool => some (.p (.eqv (isNeq op) .bool (cOpd x) (cOpd y)))
  | _ => none

def cOp (P : Program) (ts : List TypeId) (op : Op) : Option IOp :=
  match op with
  | .move x | .assign x => some (.p (.mov (cOpd x)))
  | .pick c a b => some (.p (.pick (cOpd c) (cOpd a) (cOpd b)))
  | .alloc t => match zeroCells P t with | some z => some (.n (.new t z.length z)) | none => none
  | .box t x => match szOf P t with | some n => some (.n (.box t n (cOpd x))) | none => none
  | .build t parts =>
    match P.underlying t, zeroCells P t with
    | some (.struct fs), some z => do
      let ns ← fs.toList.mapM fun f => (szOf P f.type).map fun n => (f.offset, n)
      let ps ← cParts ns parts
      if ps.all (fun q => q.2.1 != 0) then pure (.p (.build z ps)) else none
    | some (.array len el), some z => do
      let n ← szOf P el
      let ps ← parts.toList.mapM fun (i, x) => if i < len then some (i * n, n, cOpd x) else none
      if n != 0 then pure (.p (.build z ps)) else none
    | _, _ => none
  | .buildSlice t len parts =>
    match P.underlying t with
    | some (.slice el) => do
      let z ← zeroCells P el
      if z.length = 0 ∨ len * z.length > 16777216 then none else
      let ps ← parts.toList.mapM fun (i, x) => if i < len then some (i * z.length, z.length, cOpd x) else none
      pure (.n (.buildSlice el z.length len (List.replicate len z).flatten ps))
    | _ => none
  | .load t x => match partOf P t with | some none => some (.r (.ld (cOpd x))) | some (some n) => some (.r (.ldn n (cOpd x))) | none => none
  | .store t a x => match szOf P t with | some n => some (.e (.st n (cOpd a) (cOpd x))) | none => none
  | .nilCheck x => some (.p (.nilchk (cNames P ts) (cOpd x)))
  | .binOp op t x y _ =>
    match P.underlying t with
    | some (.int _) | some .string => some (.p (.bin op (cOpd x) (cOpd y)))
    | some d =>
      match op with
      | .eql | .neq => cEqOp P ts op t d x y
      | _ => none
    | none => none
  | .unOp op _ x => some (.p (.un op (cOpd x)))
  | .convert src dst x =>
    match P.underlying src, P.underlying dst with
    | some (.int _), some (.int k) => some (.p (.conv k (cOpd x)))
    | some .string, some .string => some (.p (.convStr (cOpd x)))
    | some .string, some (.slice el) => match P.underlying el, zeroCells P el with | some (.int .u8), some [.int .u8 0] => some (.e (.s2b el (cOpd x))) | _, _ => none
    | some (.slice el), some .string => match P.underlying el with | some (.int .u8) => if szOf P el = some 1 then some (.r (.b2s (cOpd x))) else none | _ => none
    | some (.pointer el), some .unsafePointer => if (szOf P el).any (· ≠ 0) then some (.r (.p2u (cOpd x))) else none
    | some .unsafePointer, some (.pointer el) => match szOf P el with | some (n + 1) => if liesAt P P.depth el 1 0 el 1 then some (.r (.u2p el (n + 1) (cOpd x))) else none | _ => none
    | _, _ => none
  | .makeInterface t x => match P.underlying t with | some (.interface _) => none | some _ => some (.p (.mkI t (cOpd x))) | none => none
  | .makeFunc fn first captured => match fn with | .func _ | .method _ => some (.p (.mkF fn (first.toList.map cOpd) (captured.toList.map cOpd))) | _ => none
  | .makeMap _ none => some (.n .mkMap)
  | .makeSlice t l c =>
    match P.underlying t with
    | some (.slice el) => match zeroCells P el, P.info? el with | some z, some i => if z.length = 0 then none else some (.n (.mkSlice el z.length i.bytes z (cOpd l) (cOpd c))) | _, _ => none
    | _ => none
  | .slice t x lo hi mx =>
    match P.underlying t, mx with
    | some .string, none => some (.p (.slS (cOpd x) (lo.map cOpd) (hi.map cOpd)))
    | some (.slice el), _ => match szOf P el with | some n => if n = 0 || (mx.isSome && hi.isNone) then none else some (.r (.slV n (cOpd x) (lo.map cOpd) (hi.map cOpd) (mx.map cOpd))) | none => none
    | some (.array len el), none => match szOf P el with | some n => some (.r (.slA n len (cOpd x) (lo.map cOpd) (hi.map cOpd))) | none => none
    | _, _ => none
  | .fieldAddr t x f =>
    match P.underlying t with
    | some (.struct fs) => match fs[f]? with | some fl => (match szOf P fl.type with | some (_ + 1) => some (.p (.faddr fl.offset (cOpd x))) | _ => none) | none => none
    | _ => none
  | .field t x f =>
    match P.underlying t with
    | some (.struct fs) => match fs[f]? with | some fl => (partOf P fl.type).map fun n => .p (.field fl.offset n (cOpd x)) | none => none
    | _ => none
  | .indexAddr t x i =>
    match P.underlying t with
    | some (.slice el) => (szOf P el).map fun n => .p (.iaddrS n (cOpd x) (cOpd i))
    | some (.array len el) => (szOf P el).map fun n => .p (.iaddrA n len (cOpd x) (cOpd i))
    | _ => none
  | .index t x i =>
    match P.underlying t with
    | some .string => some (.p (.idxS (cOpd x) (cOpd i)))
    | some (.array len el) => match szOf P el, partOf P el with | some n, some p => some (.p (.idxA n len p (cOpd x) (cOpd i))) | _, _ => none
    | _ => none
  | .lookup t x i ok =>
    match P.underlying t with
    | some (.map kt el) => match cKey P kt, zeroOf P el with | some q, some z => some (.r (.lookup q z ok (cOpd x) (cOpd i))) | _, _ => none
    | _ => none
  | .mapUpdate t m k v | .insert t m k v =>
    match P.underlying t with
    | some (.map kt _) => (cKey P kt).map fun q => .e (.mapUpd q (cOpd m) (cOpd k) (cOpd v))
    | _ => none
  | .mapEntry t m k =>
    match P.underlying t with
    | some (.map kt el) => match cKey P kt, zeroOf P el with | some q, some z => some (.e (.mapEnt q z (cOpd m) (cOpd k))) | _, _ => none
    | _ => none
  | .entryStore _ m s x => some (.e (.entSt (cOpd m) (cOpd s) (cOpd x)))
  | .typeAssert x _ t ok =>
    match P.underlying t with
    | some (.interface _) => none
    | some _ => if ok then (zeroOf P t).map fun z => .p (.tassert t (some z) (cOpd x)) else some (.p (.tassert t none (cOpd x)))
    | none => none
  | .extract x i => some (.p (.ext (cOpd x) i))
  | .call c =>
    match c.callee with
    | .builtin b => cBuiltin P b c.args.toList c.argTypes.toList
    | .value (.func f) =>
      match P.funcs[f]? with
      | some fn =>
        match fn.body, c.args.toList with
        | none, [x] => if fn.name = "internal/abi.NoEscape" ∧ fn.origin = "" then some (.p (.mov (cOpd x))) else none
        | none, [x, y] => if fn.name = "internal/bytealg.abigen_runtime_cmpstring" ∧ fn.origin = "" then some (.p (.cmpS (cOpd x) (cOpd y))) else if fn.name = "internal/bytealg.IndexByteString" ∧ fn.origin = "" then some (.p (.idxB (cOpd x) (cOpd y))) else none
        | none, _ => none
        | some _, _ => some (.e (.call f (c.args.toList.map cOpd)))
      | none => none
    | .value f => some (.e (.callv (cOpd f) (c.args.toList.map cOpd)))
    | .invoke x name => some (.e (.invoke (cMethods P name ts) (cOpd x) (c.args.toList.map cOpd)))
  | .panic x => some (.e (.panic (cOpd x)))
  | _ => none

def cGuard (ops : Array Oper) : Option (Nat × Bool) → Option (Option (Nat × Bool))
  | none => some none
  | some (j, w) => match (ops[j]?).bind (·.dst) with | some d => some (some (d, w)) | none => none
/-- every operand is let -/
def okOp (ng : Nat) (op : Op) : Bool := op.operands.all (okOpd ng)
def cOper (P : Program) (ng : Nat) (ts : List TypeId) (ops : Array Oper) (o : Oper) : Option IOper :=
  match cGuard ops o.guard with
  | some g => some { dst := o.dst, op := if okOp ng o.op then (cOp P ts o.op).getD .bad else .bad, guard := g }
  | none => none
def cOps (P : Program) (ng : Nat) (ts : List TypeId) (ops : Array Oper) : List Oper → Option (List IOper)
  | [] => some []
  | o :: l => match cOper P ng ts ops o, cOps P ng ts ops l with | some o, some l => some (o :: l) | _, _ => none

/-! ### the order of a region that draws -/
def isE : IOp → Bool | .e _ => true | _ => false
def isN : IOp → Bool | .n _ => true | _ => false
def isR : IOp → Bool | .r _ => true | _ => false
def nthN : List Nat → Nat → Nat
  | [], _ => 0
  | v :: _, 0 => v
  | _ :: l, n + 1 => nthN l n
def subMask (a b : Nat) : Bool := a &&& b == a
/-- the first of them that is not done, is of the kind, and all of whose forerunners are done -/
def firstOf (kind : Nat → IOp → Bool) (bf : List Nat) (done : Nat) : Nat → List IOper → Option Nat
  | _, [] => none
  | i, o :: l => if !done.testBit i && kind i o.op && subMask (nthN bf i) done then some i else firstOf kind bf done (i + 1) l
def nextE (done : Nat) : Nat → List IOper → Option Nat
  | _, [] => none
  | i, o :: l => if !done.testBit i && isE o.op then some i else nextE done (i + 1) l
/-- the reads that are done and may also come up behind the change (barred: what lies ahead of it) -/
def chkOf (done barred : Nat) : Nat → List IOper → List Nat
  | _, [] => []
  | i, o :: l => if done.testBit i && isR o.op && !barred.testBit i then i :: chkOf done barred (i + 1) l else chkOf done barred (i + 1) l
def sched (l : List IOper) (bf : List Nat) : Nat → Nat → List Nat → List Nat → List DStage × DStage
  | 0, _, chk, xs => ([], ⟨chk, xs.reverse, 0⟩)
  | k + 1, done, chk, xs =>
    match firstOf (fun _ o => !isE o && !isN o) bf done 0 l with
    | some i => sched l bf k (done ||| 2 ^ i) chk (i :: xs)
    | none =>
      match nextE done 0 l with
      | some e =>
        if subMask (nthN bf e) done then
          let r := sched l bf k (done ||| 2 ^ e) (chkOf done (nthN bf e) 0 l) []
          (⟨chk, xs.reverse, e⟩ :: r.1, r.2)
        else
          match firstOf (fun i o => isN o && (nthN bf e).testBit i) bf done 0 l with
          | some i => sched l bf k (done ||| 2 ^ i) chk (i :: xs)
          | none => ([], ⟨chk, xs.reverse, 0⟩)
      | none =>
        match firstOf (fun _ o => isN o) bf done 0 l with
        | some i => sched l bf k (done ||| 2 ^ i) chk (i :: xs)
        | none => ([], ⟨chk, xs.reverse, 0⟩)

/-! ### is that order good for all orders? -/
/-- the temporaries that an operation looks at -/
def seesT (o : Oper) (io : IOper) : List Nat :=
  (match io.guard with | some (d, _) => [d] | none => []) ++ o.op.operands.toList.filterMap fun | .tmp t => some t | _ => none
/-- whoever writes t is done ahead of i, or comes behind it (r: is done ahead of it) -/
def vWr (bf : List Nat) (i : Nat) (r : Bool) (t : Nat) : Nat → List IOper → Bool
  | _, [] => true
  | j, o :: l => (o.dst != some t || (nthN bf i).testBit j || (!r && (j == i || (nthN bf j).testBit i))) && vWr bf i r t (j + 1) l
def vSees (l : List IOper) (bf : List Nat) : Nat → List Oper → List IOper → Bool
  | i, o :: os, io :: ios => (seesT o io).all (fun t => vWr bf i (isR io.op) t 0 l) && vSees l bf (i + 1) os ios
  | _, _, _ => true
def dsts : List IOper → List Nat
  | [] => []
  | o :: l => match o.dst with | some d => d :: dsts l | none => dsts l
def vDst : List Nat → Bool
  | [] => true
  | d :: l => !l.contains d && vDst l
/-- prev: the change before; nx: the change behind -/
def vOne (bf : List Nat) (prev nx : Option Nat) (i done : Nat) (o : IOper) : Bool :=
  !done.testBit i && subMask (nthN bf i) done && !isE o.op &&
    (!isR o.op || match prev with | some p => (nthN bf i).testBit p | none => true) &&
    (!isN o.op || match nx with | some e => (nthN bf e).testBit i | none => true)
def vX (l : List IOper) (bf : List Nat) (prev : Option Nat) (nx : Option Nat) : List Nat → Nat → Option Nat
  | [], done => some done
  | i :: xs, done =>
    match nthO l i with
    | some o =>
      if vOne bf prev nx i done o then vX l bf prev nx xs (done ||| 2 ^ i) else none
    | none => none
def vChk (l : List IOper) (bf : List Nat) (prev : Option Nat) (chk : List Nat) (done : Nat) : Nat → List IOper → Bool
  | _, [] => true
  | i, o :: os => (!done.testBit i || !isR o.op || chk.contains i || (match prev with | some p => (nthN bf p).testBit i | none => false)) && vChk l bf prev chk done (i + 1) os
def vSt (l : List IOper) (bf : List Nat) (fin : DStage) : List DStage → Option Nat → Nat → Bool
  | [], prev, done => vChk l bf prev fin.chk done 0 l && (match vX l bf prev none fin.xs done with | some d => subMask (2 ^ l.length - 1) d | none => false)
  | s :: st, prev, done =>
    vChk l bf prev s.chk done 0 l &&
    match vX l bf prev (some s.e) s.xs done, nthO l s.e with
    | some d, some o => !d.testBit s.e && subMask (nthN bf s.e) d && isE o.op && (match prev with | some p => (nthN bf s.e).testBit p | none => true) && vSt l bf fin st (some s.e) (d ||| 2 ^ s.e)
    | _, _ => false
def vDraw (ops : Array Oper) (l : List IOper) (bf : List Nat) (st : List DStage) (fin : DStage) : Bool :=
  vDst (dsts l) && vSees l bf 0 ops.toList l && vSt l bf fin st none 0

/-! ### code -/
def cCode (P : Program) (ng : Nat) (ts : List TypeId) : Code → Option ICode
  | .skip => some .skip
  | .label _ => some .skip
  | .region _ ops false => (cOps P ng ts ops ops.toList).map .ops
  | .region _ ops true =>
    match cOps P ng ts ops ops.toList with
    | some l =>
      let bf := (Region.before ops).toList
      let r := sched l bf (l.length + 1) 0 [] []
      if vDraw ops l bf r.1 r.2 then some (.draw l r.1 r.2) else some .bad
    | none => none
  | .seq a b => match cCode P ng ts a, cCode P ng ts b with | some a, some b => some (.seq a b) | _, _ => none
  | .cond c a b => if okOpd ng c then (match cCode P ng ts a, cCode P ng ts b with | some a, some b => some (.cond (cOpd c) a b) | _, _ => none) else none
  | .block id b => (cCode P ng ts b).map (.block id)
  | .loop b => (cCode P ng ts b).map .loop
  | .rangeFunc f ps a b => if okOpd ng f then (match cCode P ng ts a, cCode P ng ts b with | some a, some b => some (.rangeF (cOpd f) ps.toList a b) | _, _ => none) else none
  | .exit id => some (.exit id)
  | .ret => some .ret
  | .refuse _ => some .bad
  | _ => none
def cRes (P : Program) : ResultVar → Option IRes
  | .tmp t => some (.tmp t)
  | .cell t ty => (partOf P ty).map (.cell t)
def cFunc (P : Program) (ng : Nat) (ts : List TypeId) (f : Func) : Option IFunc :=
  match f.body, f.results.toList.mapM (cRes P) with
  | some c, some rs => if f.name == "runtime.NumGoroutine" then none else (cCode P ng ts c).map fun b => { ntmps := f.ntmps, results := rs, body := b }
  | _, _ => none

end Go.Proofs.YtjpepfgbilbcdaaGreatDoor.Ai
