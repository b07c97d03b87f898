/- A PART OF THE PROOF THAT AN INTERPRETER OF THE PROGRAM'S FUNCTIONS IS SOUND: the small language and its memory. -/
import Derived.Test.YtjpepfgbilbcdaaGreatDoorAiA
namespace Go.Proofs.YtjpepfgbilbcdaaGreatDoor.Ai
open Go

/-! ### environments, operands -/
def getV : List Value → Nat → Value
  | [], _ => undef
  | v :: _, 0 => v
  | _ :: l, n + 1 => getV l n
def setV : List Value → Nat → Value → List Value
  | [], _, _ => []
  | _ :: l, 0, x => x :: l
  | v :: l, n + 1, x => v :: setV l n x

inductive Opd where
  | t (n : Nat)
  | c (v : Value)
  | g (n : Nat)
def Opd.ev (e : List Value) : Opd → Value
  | .t n => getV e n
  | .c v => v
  | .g n => .pointer (some ⟨n, 0, none⟩)

/-! ### operations: what only computes, what reads, what makes one block, and the rest -/
/-- how '==' goes at a type -/
inductive EqT where
  | bool
  | int
  | str
  | iface
  | ifaceN
  | nilS
  | nilM
  | nilF
  | strct (fs : List (Nat × Option Nat × EqT))
  | ifaceT (l : List (TypeId × EqT))

inductive POp where
  | mov (x : Opd)
  | pick (c a b : Opd)
  | build (zero : List Value) (parts : List (Nat × Nat × Opd))
  | nilchk (mm : List (String × TypeId)) (x : Opd)
  | bin (op : BinOp) (x y : Opd)
  | eqv (neg : Bool) (t : EqT) (x y : Opd)
  | un (op : UnOp) (x : Opd)
  | conv (k : IntKind) (x : Opd)
  | convStr (x : Opd)
  | mkI (t : TypeId) (x : Opd)
  | mkF (fn : Fn) (first captured : List Opd)
  | faddr (off : Nat) (x : Opd)
  | field (off : Nat) (n : Option Nat) (x : Opd)
  | iaddrS (esz : Nat) (x i : Opd)
  | iaddrA (esz len : Nat) (x i : Opd)
  | idxS (x i : Opd)
  | idxA (esz len : Nat) (n : Option Nat) (x i : Opd)
  | slS (x : Opd) (lo hi : Option Opd)
  | ext (x : Opd) (i : Nat)
  | lenS (x : Opd)
  | lenL (x : Opd)
  | lenC (n : Nat)
  | max (x y : Opd)
  | min (x y : Opd)
  | tassert (t : TypeId) (ok : Option Value) (x : Opd)
  | cmpS (x y : Opd)
  | idxB (x c : Opd)

inductive ROp where
  | ld (x : Opd)
  | ldn (n : Nat) (x : Opd)
  | slV (esz : Nat) (x : Opd) (lo hi mx : Option Opd)
  | slA (esz len : Nat) (x : Opd) (lo hi : Option Opd)
  | cap (x : Opd)
  | lenM (x : Opd)
  | peq (neg : Bool) (x y : Opd)
  | lookup (kt : EqT) (zero : Value) (ok : Bool) (x k : Opd)
  | b2s (x : Opd)
  | p2u (x : Opd)
  | u2p (t : TypeId) (n : Nat) (x : Opd)

inductive NOp where
  | new (t : TypeId) (esz : Nat) (zero : List Value)
  | box (t : TypeId) (esz : Nat) (x : Opd)
  | buildSlice (t : TypeId) (esz : Nat) (len : Nat) (zero : List Value) (parts : List (Nat × Nat × Opd))
  | mkSlice (t : TypeId) (esz bytes : Nat) (zero : List Value) (len cap : Opd)
  | mkMap

inductive EOp where
  | st (n : Nat) (a x : Opd)
  | append (t : TypeId) (esz bytes : Nat) (zero : List Value) (s x : Opd)
  | appendZ (t : TypeId) (esz bytes : Nat) (zero : List Value) (s n : Opd)
  | copy (esz : Nat) (d s : Opd)
  | mapUpd (kt : EqT) (m k v : Opd)
  | mapEnt (kt : EqT) (zero : Value) (m k : Opd)
  | entSt (m s x : Opd)
  | delete (kt : EqT) (m k : Opd)
  | clear (zero : List Value) (x : Opd)
  | s2b (t : TypeId) (x : Opd)
  | sdata (x : Opd)
  | ustr (t : TypeId) (x n : Opd)
  | range (x : Opd)
  | next (x : Opd)
  | call (f : FuncId) (args : List Opd)
  | callv (f : Opd) (args : List Opd)
  | invoke (ms : List (TypeId × FuncId)) (x : Opd) (args : List Opd)
  | panic (x : Opd)

inductive IOp where
  | p (o : POp)
  | r (o : ROp)
  | n (o : NOp)
  | e (o : EOp)
  | bad

structure IOper where
  dst : Option Nat
  op : IOp
  guard : Option (Nat × Bool)

/-- a stretch of a region that draws, up to a change (e) -/
structure DStage where
  chk : List Nat
  xs : List Nat
  e : Nat

inductive ICode where
  | skip
  | ops (l : List IOper)
  | draw (l : List IOper) (st : List DStage) (fin : DStage)
  | seq (a b : ICode)
  | cond (c : Opd) (a b : ICode)
  | block (id : Nat) (b : ICode)
  | loop (b : ICode)
  | rangeF (f : Opd) (params : List Nat) (assign body : ICode)
  | exit (id : Nat)
  | ret
  | bad

inductive IRes where
  | tmp (t : Nat)
  | cell (t : Nat) (n : Option Nat)

structure IFunc where
  ntmps : Nat
  results : List IRes
  body : ICode

/-! ### the abstract memory -/
structure CB where
  cs : List Value
  ty : TypeId
  esz : Nat
  ro : Bool
  exact : Bool
  retired : Bool
  frozen : Bool
  al : List Nat

inductive IExit where
  | normal
  | exit (id : Nat)
  | ret
  | panic (chain : List PanicEntry)

structure ALoop where
  state : LoopState
  pending : Option IExit
  tmps : List Value
  params : List Nat
  assign : ICode
  body : ICode
  defers : Nat

inductive Blk where
  | cells (b : CB)
  | map (es : List (Value × Value × Nat)) (clock : Nat)
  | loop (l : ALoop)
  | deferred (taken : Bool)
  | strIter (s : ByteArray) (pos : Nat)

structure AW where
  next : Nat
  heap : Tr Blk

def AW.cells? (σ : AW) (i : Nat) : Option CB := match σ.heap.get i with | some (.cells b) => some b | _ => none

def AW.exactAt (σ : AW) (i : Nat) : Bool := match σ.cells? i with | some b => b.exact | none => false

def nthV : List Value → Nat → Option Value
  | [], _ => none
  | v :: _, 0 => some v
  | _ :: l, n + 1 => nthV l n
/-- just so many from there on -/
def cutV : Nat → List Value → Option (List Value)
  | 0, _ => some []
  | _ + 1, [] => none
  | n + 1, v :: l => (cutV n l).map (v :: ·)
def dropV : Nat → List Value → List Value
  | 0, l => l
  | _ + 1, [] => []
  | n + 1, _ :: l => dropV n l
/-- written over from the front on: there is room for all of it -/
def overV : List Value → List Value → Option (List Value)
  | cs, [] => some cs
  | [], _ :: _ => none
  | _ :: cs, v :: vs => (overV cs vs).map (v :: ·)
def spliceV : List Value → Nat → List Value → Option (List Value)
  | cs, 0, vs => overV cs vs
  | [], _ + 1, vs => if vs.isEmpty then some [] else none
  | c :: cs, n + 1, vs => (spliceV cs n vs).map (c :: ·)

def AW.rd (σ : AW) (a : Addr) : Option Value := match σ.cells? a.block with | some b => nthV b.cs a.off | none => none
def AW.rdN (σ : AW) (a : Addr) (n : Nat) : Option (List Value) := match σ.cells? a.block with | some b => cutV n (dropV a.off b.cs) | none => none

def killAll : List Nat → Tr Blk → Tr Blk
  | [], h => h
  | i :: l, h => killAll l (h.del i)
def isCell : Value → Bool
  | .agg _ | .tuple _ => false
  | _ => true
def allCells : List Value → Bool
  | [] => true
  | v :: l => isCell v && allCells l
def AW.wrN (σ : AW) (i off : Nat) (vs : List Value) : Option AW :=
  match σ.cells? i with
  | some b =>
    if b.ro || b.retired || b.frozen || !allCells vs then none else
    match spliceV b.cs off vs with
    | some cs => some { σ with heap := (killAll b.al σ.heap).set i (.cells { b with cs, al := [] }) }
    | none => none
  | none => none
def most : Nat := 4611686018427387904
def AW.push (σ : AW) (b : Blk) : Option (Nat × AW) :=
  if σ.next < most then some (σ.next, { next := σ.next + 1, heap := σ.heap.set σ.next b }) else none
def newCB (t : TypeId) (esz : Nat) (cs : List Value) (exact : Bool) (al : List Nat) : CB :=
  { cs, ty := t, esz, ro := false, exact, retired := false, frozen := false, al }

/-! ### what only computes -/
def bits (op : BinOp) (k : IntKind) (x y : Int) : Option Value :=
  let a := BitVec.ofInt k.bits x
  let b := BitVec.ofInt k.bits y
  match op with
  | .and => some (.int k (k.wrap (a &&& b).toNat))
  | .or => some (.int k (k.wrap (a ||| b).toNat))
  | .xor => some (.int k (k.wrap (a ^^^ b).toNat))
  | .andNot => some (.int k (k.wrap (a &&& ~~~b).toNat))
  | _ => none
def binInt (op : BinOp) (k : IntKind) (x y : Int) : Option Value :=
  match op with
  | .add => some (.int k (k.wrap (x + y)))
  | .sub => some (.int k (k.wrap (x - y)))
  | .mul => some (.int k (k.wrap (x * y)))
  | .quo => if y = 0 then none else some (.int k (k.wrap (x.tdiv y)))
  | .rem => if y = 0 then none else some (.int k (x.tmod y))
  | .and => bits .and k x y
  | .or => bits .or k x y
  | .xor => bits .xor k x y
  | .andNot => bits .andNot k x y
  | .eql => some (.bool (x == y))
  | .neq => some (.bool (x != y))
  | .lss => some (.bool (x < y))
  | .leq => some (.bool (x ≤ y))
  | .gtr => some (.bool (x > y))
  | .geq => some (.bool (x ≥ y))
  | _ => none
def binStr (op : BinOp) (x y : ByteArray) : Option Value :=
  let eq := x.toList == y.toList
  let lt := Op.bytesLess x.toList y.toList
  match op with
  | .add => if ((x.size + y.size : Nat) : Int) > IntKind.i64.max then none else some (.string (x ++ y))
  | .eql => some (.bool eq)
  | .neq => some (.bool !eq)
  | .lss => some (.bool lt)
  | .leq => some (.bool (lt || eq))
  | .gtr => some (.bool !(lt || eq))
  | .geq => some (.bool !lt)
  | _ => none
def shiftInt (op : BinOp) (k : IntKind) (x y : Int) : Option Value :=
  if y < 0 then none else
  match op with
  | .shl => some (.int k (k.wrap (x * 2 ^ (Nat.min y.toNat k.bits))))
  | .shr => some (.int k (x.fdiv (2 ^ (Nat.min y.toNat k.bits))))
  | _ => none
def isNeq : BinOp → Bool
  | .neq => true
  | _ => false
def isShift : BinOp → Bool
  | .shl | .shr => true
  | _ => false
def bin (op : BinOp) (x y : Value) : Option Value :=
  match x, y with
  | .int k a, .int k' b => if isShift op then shiftInt op k a b else if k = k' then binInt op k a b else none
  | .string a, .string b => binStr op a b
  | _, _ => none

def partV (n : Option Nat) (cs : List Value) (off : Nat) : Option Value :=
  match n with
  | some n => some (.agg ⟨(cs.take (off + n)).drop off⟩)
  | none => nthV cs off

def eqFlat : EqT → Value → Value → Option Bool
  | .bool, .bool a, .bool b => some (a == b)
  | .int, .int k a, .int k' b => if k = k' then some (a == b) else none
  | .str, .string a, .string b => some (a == b)
  | _, _, _ => none
mutual
def eqv : EqT → Value → Value → Option Bool
  | .bool, .bool a, .bool b => some (a == b)
  | .int, .int k a, .int k' b => if k = k' then some (a == b) else none
  | .str, .string a, .string b => some (a == b)
  | .iface, .nilIface, .nilIface => none
  | .ifaceN, .nilIface, .nilIface => some true
  | .ifaceN, .nilIface, .iface _ _ => some false
  | .ifaceN, .iface _ _, .nilIface => some false
  | .iface, .nilIface, .iface _ _ => some false
  | .iface, .iface _ _, .nilIface => some false
  | .nilS, .slice none _ _, .slice none _ _ => some true
  | .nilS, .slice none _ _, .slice (some _) _ _ => some false
  | .nilS, .slice (some _) _ _, .slice none _ _ => some false
  | .nilM, .map none, .map none => some true
  | .nilM, .map none, .map (some _) => some false
  | .nilM, .map (some _), .map none => some false
  | .nilF, .nilFunc, .nilFunc => some true
  | .nilF, .nilFunc, .func _ _ _ => some false
  | .nilF, .func _ _ _, .nilFunc => some false
  | .strct fs, .agg ⟨x⟩, .agg ⟨y⟩ => eqvFs fs x y
  | .ifaceT _, .nilIface, .iface _ _ => some false
  | .ifaceT _, .iface _ _, .nilIface => some false
  | .ifaceT l, .iface t x, .iface u y =>
    if t = u then
      match l.lookup t with
      | some q => eqFlat q x y
      | none => none
    else some false
  | _, _, _ => none
def eqvFs : List (Nat × Option Nat × EqT) → List Value → List Value → Option Bool
  | [], _, _ => some true
  | (off, n, t) :: fs, x, y =>
    match partV n x off, partV n y off with
    | some a, some b =>
      match eqv t a b with
      | some true => eqvFs fs x y
      | some false => some false
      | none => none
    | _, _ => none
end

/-- can it be looked up? (a struct whose parts are there) -/
def keyOK : EqT → Value → Bool
  | .strct fs, .agg ⟨x⟩ => fs.all fun f => (partV f.2.1 x f.1).isSome
  | .strct _, _ => false
  | _, _ => true

def evs (e : List Value) : List Opd → List Value
  | [] => []
  | x :: l => x.ev e :: evs e l
def cellsOf : Value → List Value
  | .agg ⟨l⟩ => l
  | v => [v]
def fillV (e : List Value) : List Value → List (Nat × Nat × Opd) → Option (List Value)
  | cs, [] => some cs
  | cs, (off, n, x) :: l =>
    let v := cellsOf (x.ev e)
    if v.length = n then (spliceV cs off v).bind fun cs => fillV e cs l else none
/-- the bounds of a slice expression -/
def bound (e : List Value) (d : Nat) (y : Nat) : Option Opd → Option Nat
  | none => some d
  | some x => match x.ev e with | .int _ i => if 0 ≤ i ∧ i ≤ y then some i.toNat else none | _ => none

def evP (e : List Value) : POp → Option Value
  | .mov x => some (x.ev e)
  | .pick c a b => match c.ev e with | .bool true => some (a.ev e) | .bool false => some (b.ev e) | _ => none
  | .build zero parts => (fillV e zero parts).map fun cs => .agg ⟨cs⟩
  | .nilchk mm x =>
    match x.ev e with
    | .pointer none | .nilIface | .nilFunc => none
    | .func (.method nm) ⟨l⟩ c =>
      match l with
      | [.iface t v] => if mm.contains (nm, t) then some (.func (.method nm) ⟨[.iface t v]⟩ c) else none
      | _ => none
    | v => some v
  | .bin op x y => bin op (x.ev e) (y.ev e)
  | .eqv neg t x y => (eqv t (x.ev e) (y.ev e)).map fun b => .bool (b != neg)
  | .un op x =>
    match op, x.ev e with
    | .neg, .int k n => some (.int k (k.wrap (0 - n)))
    | .xor, .int k n => bits .xor k (if k.signed then -1 else k.max) n
    | .not, .bool b => some (.bool !b)
    | _, _ => none
  | .conv k x => match x.ev e with | .int _ n => some (.int k (k.wrap n)) | _ => none
  | .convStr x => match x.ev e with | .string s => some (.string s) | _ => none
  | .mkI t x => some (.iface t (x.ev e))
  | .mkF fn first captured => some (.func fn ⟨evs e first⟩ ⟨evs e captured⟩)
  | .faddr off x => match x.ev e with | .pointer (some a) => some (.pointer (some ⟨a.block, a.off + off, none⟩)) | _ => none
  | .field off n x => match x.ev e with | .agg ⟨cs⟩ => partV n cs off | _ => none
  | .iaddrS esz x i =>
    match x.ev e, i.ev e with
    | .slice (some a) len _, .int _ j => if 0 ≤ j ∧ j < len then some (.pointer (some ⟨a.block, a.off + j.toNat * esz, none⟩)) else none
    | _, _ => none
  | .iaddrA esz len x i =>
    match x.ev e, i.ev e with
    | .pointer (some a), .int _ j => if 0 ≤ j ∧ j < len then some (.pointer (some ⟨a.block, a.off + j.toNat * esz, none⟩)) else none
    | _, _ => none
  | .idxS x i =>
    match x.ev e, i.ev e with
    | .string s, .int _ j => if 0 ≤ j then (s[j.toNat]?).map fun b => .int .u8 b.toNat else none
    | _, _ => none
  | .idxA esz len n x i =>
    match x.ev e, i.ev e with
    | .agg ⟨cs⟩, .int _ j => if 0 ≤ j ∧ j < len then partV n cs (j.toNat * esz) else none
    | _, _ => none
  | .slS x lo hi =>
    match x.ev e with
    | .string s => (bound e s.size s.size hi).bind fun h => (bound e 0 h lo).map fun l => .string (s.extract l h)
    | _ => none
  | .ext x i => match x.ev e with | .tuple ⟨vs⟩ => nthV vs i | _ => none
  | .lenS x => match x.ev e with | .string s => some (.int .i64 s.size) | _ => none
  | .lenL x => match x.ev e with | .slice _ n _ => some (.int .i64 n) | _ => none
  | .lenC n => some (.int .i64 n)
  | .max x y => match x.ev e, y.ev e with | .int k a, .int _ b => some (.int k (if b > a then b else a)) | _, _ => none
  | .min x y => match x.ev e, y.ev e with | .int k a, .int _ b => some (.int k (if b < a then b else a)) | _, _ => none
  | .tassert t ok x =>
    match x.ev e, ok with
    | .iface u v, none => if u = t then some v else none
    | .iface u v, some z => if u = t then some (.tuple ⟨[v, .bool true]⟩) else some (.tuple ⟨[z, .bool false]⟩)
    | .nilIface, some z => some (.tuple ⟨[z, .bool false]⟩)
    | _, _ => none
  | .cmpS x y => match x.ev e, y.ev e with | .string a, .string b => some (.int .i64 (Extern.BytealgCompare.cmp a b)) | _, _ => none
  | .idxB x c => match x.ev e, c.ev e with | .string s, .int .u8 b => some (.int .i64 (match (List.range s.size).find? fun i => s[i]! == b.toNat.toUInt8 with | some i => (i : Int) | none => -1)) | _, _ => none

/-! ### what reads -/
def findK (kt : EqT) (k : Value) : List (Value × Value × Nat) → Nat → Option (Option (Nat × Value))
  | [], _ => some none
  | (k', v, _) :: l, i =>
    match eqv kt k k' with
    | some true => some (some (i, v))
    | some false => findK kt k l (i + 1)
    | none => none
def byteOf : Value → Option UInt8
  | .int .u8 n => if 0 ≤ n ∧ n < 256 then some (UInt8.ofNat n.toNat) else none
  | _ => none
def bytesOf : List Value → Option (List UInt8)
  | [] => some []
  | v :: l => match byteOf v, bytesOf l with | some b, some r => some (b :: r) | _, _ => none
def evR (e : List Value) (σ : AW) : ROp → Option Value
  | .ld x => match x.ev e with | .pointer (some a) => σ.rd a | _ => none
  | .ldn n x => match x.ev e with | .pointer (some a) => (σ.rdN a n).map fun l => .agg ⟨l⟩ | _ => none
  | .slV esz x lo hi mx =>
    match x.ev e with
    | .slice a len cap =>
      if len ≤ cap then
      (bound e cap cap mx).bind fun m => (bound e len m hi).bind fun h => (bound e 0 h lo).bind fun l =>
        match a with
        | none => some (.slice none (h - l) (m - l))
        | some a =>
          if (mx.isNone && (l == 0 || Nat.blt l cap)) || σ.exactAt a.block then
            some (.slice (some (if m = l then a else ⟨a.block, a.off + l * esz, none⟩)) (h - l) (m - l))
          else none
      else none
    | _ => none
  | .slA esz len x lo hi =>
    match x.ev e with
    | .pointer (some a) => (bound e len len hi).bind fun h => (bound e 0 h lo).bind fun l =>
      match σ.cells? a.block with
      | some b => if b.exact then some (.slice (some (if len = l then a else ⟨a.block, a.off + l * esz, none⟩)) (h - l) (len - l)) else none
      | none => none
    | _ => none
  | .cap x =>
    match x.ev e with
    | .slice none _ c => some (.int .i64 c)
    | .slice (some a) _ c => match σ.cells? a.block with | some b => if b.exact then some (.int .i64 c) else none | none => none
    | _ => none
  | .lenM x =>
    match x.ev e with
    | .map none => some (.int .i64 0)
    | .map (some r) => match σ.heap.get r with | some (.map es _) => some (.int .i64 es.length) | _ => none
    | _ => none
  | .peq neg x y =>
    match x.ev e, y.ev e with
    | .pointer none, .pointer b => some (.bool (b.isNone != neg))
    | .pointer (some _), .pointer none => some (.bool (false != neg))
    | .pointer (some a), .pointer (some b) => if a.block = b.block then some (.bool ((a.off == b.off) != neg)) else none
    | _, _ => none
  | .lookup kt zero ok x k =>
    let es := match x.ev e with
      | .map none => some []
      | .map (some r) => match σ.heap.get r with | some (.map es _) => some es | _ => none
      | _ => none
    match es with
    | some es =>
      if keyOK kt (k.ev e) then
        match findK kt (k.ev e) es 0 with
        | some (some (_, v)) => some (if ok then .tuple ⟨[v, .bool true]⟩ else v)
        | some none => some (if ok then .tuple ⟨[zero, .bool false]⟩ else zero)
        | none => none
      else none
    | none => none
  | .b2s x =>
    match x.ev e with
    | .slice none _ _ => some (.string .empty)
    | .slice (some a) n _ => (σ.rdN a n).bind fun l => (bytesOf l).map fun b => .string ⟨⟨b⟩⟩
    | _ => none
  | .p2u x =>
    match x.ev e with
    | .pointer none => some (.pointer none)
    | .pointer (some a) => match σ.cells? a.block with | some b => if a.off < b.cs.length then some (.pointer (some a)) else none | none => none
    | _ => none
  | .u2p t n x =>
    match x.ev e with
    | .pointer none => some (.pointer none)
    | .pointer (some a) => match σ.cells? a.block with | some b => if b.ty = t ∧ b.exact ∧ b.cs.length = n ∧ a.off = 0 ∧ ¬ b.ro then some (.pointer (some a)) else none | none => none
    | _ => none

/-! ### what makes one block: the block, and the value by its id -/
def evN (e : List Value) : NOp → Option (Blk × (Nat → Value))
  | .new t esz zero => some (.cells (newCB t esz zero true []), fun i => .pointer (some ⟨i, 0, none⟩))
  | .box t esz x => some (.cells (newCB t esz (cellsOf (x.ev e)) true []), fun i => .pointer (some ⟨i, 0, none⟩))
  | .buildSlice t esz len zero parts => (fillV e zero parts).map fun cs => (.cells (newCB t esz cs true []), fun i => .slice (some ⟨i, 0, none⟩) len len)
  | .mkSlice t esz bytes zero len cap =>
    match len.ev e, cap.ev e with
    | .int _ l, .int _ c =>
      if 0 ≤ l ∧ l ≤ c ∧ c * bytes ≤ 140737488355328 ∧ c ≤ 140737488355328 then
        some (.cells (newCB t esz (List.replicate c.toNat zero).flatten true []), fun i => .slice (some ⟨i, 0, none⟩) l.toNat c.toNat)
      else none
    | _, _ => none
  | .mkMap => some (.map [] 0, fun i => .map (some i))

end Go.Proofs.YtjpepfgbilbcdaaGreatDoor.Ai
