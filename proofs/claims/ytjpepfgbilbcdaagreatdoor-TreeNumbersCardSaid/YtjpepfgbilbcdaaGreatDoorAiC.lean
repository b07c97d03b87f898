/- A PART OF THE PROOF THAT AN INTERPRETER OF THE PROGRAM'S FUNCTIONS IS SOUND: its interpreter. -/
import Derived.Test.YtjpepfgbilbcdaaGreatDoorAiB
namespace Go.Proofs.YtjpepfgbilbcdaaGreatDoor.Ai
open Go

/-! ### calls, and what changes memory -/
inductive IRet where
  | ret (v : Value)
  | pan (chain : List PanicEntry)

structure Ks where
  call : FuncId → List Value → AW → Option (IRet × AW)
  yield : Nat → List Value → AW → Option (IRet × AW)

def callV (K : Ks) (f : Value) (args : List Value) (σ : AW) : Option (IRet × AW) :=
  match f with
  | .func (.func i) ⟨first⟩ ⟨captured⟩ => K.call i (first ++ (args ++ captured)) σ
  | .func (.yield l) ⟨first⟩ _ => K.yield l (first ++ args) σ
  | _ => none

/-- cells put behind those of a slice -/
def appendV (σ : AW) (t : TypeId) (esz bytes : Nat) (s : Value) (new : List Value) (n : Nat) : Option (Value × AW) :=
  match s with
  | .slice base len cap =>
    if len + n ≤ cap then
      if n = 0 then some (.slice base len cap, σ) else
      match base with
      | some a => (σ.wrN a.block (a.off + len * esz) new).map fun σ' => (.slice base (len + n) cap, σ')
      | none => none
    else if (2 * (len + n) + 768) * bytes > 140737488355328 then none
    else if !allCells new then none
    else
      match base with
      | none => if len = 0 then (σ.push (.cells (newCB t esz new false []))).map fun (i, σ') => (.slice (some ⟨i, 0, none⟩) n n, σ') else none
      | some a =>
        match σ.cells? a.block with
        | none => none
        | some b =>
          match cutV (len * esz) (dropV a.off b.cs) with
          | none => none
          | some old =>
            if b.exact then (σ.push (.cells (newCB t esz (old ++ new) false []))).map fun (i, σ') => (.slice (some ⟨i, 0, none⟩) (len + n) (len + n), σ')
            else if b.retired || b.frozen || b.ro || a.off + cap * esz != b.cs.length || esz != b.esz || t != b.ty then none
            else if len = cap then
              ({ σ with heap := σ.heap.set a.block (.cells { b with retired := true }) }.push (.cells (newCB t esz (old ++ new) false (a.block :: b.al)))).map
                fun (i, σ') => (.slice (some ⟨i, 0, none⟩) (len + n) (len + n), σ')
            else
              ({ σ with heap := killAll (a.block :: b.al) σ.heap }.push (.cells (newCB t esz (old ++ new) false []))).map
                fun (i, σ') => (.slice (some ⟨i, 0, none⟩) (len + n) (len + n), σ')
  | _ => none

def strCells (s : ByteArray) : List Value := s.data.toList.map fun b => .int .u8 b.toNat
/-- the cells of the first n elements of a source -/
def srcV (σ : AW) (esz : Nat) (x : Value) (n : Nat) : Option (List Value) :=
  match x with
  | .slice none _ _ => if n = 0 then some [] else none
  | .slice (some a) _ _ => σ.rdN a (n * esz)
  | .string s => if esz = 1 ∧ n ≤ s.size then some ((strCells s).take n) else none
  | _ => none
def lenV : Value → Option Nat
  | .slice _ n _ => some n
  | .string s => some s.size
  | _ => none
def setAt (es : List (Value × Value × Nat)) (i : Nat) (k v : Value) : List (Value × Value × Nat) :=
  match es, i with
  | [], _ => []
  | (_, _, c) :: l, 0 => (k, v, c) :: l
  | x :: l, i + 1 => x :: setAt l i k v
def delAt (es : List (Value × Value × Nat)) (i : Nat) : List (Value × Value × Nat) :=
  match es, i with
  | [], _ => []
  | _ :: l, 0 => l
  | x :: l, i + 1 => x :: delAt l i
/-- keys that are the same to the bit where they are equal -/
def sameK : Value → Value → Bool
  | .bool a, .bool b => a == b
  | .int j a, .int k b => j == k && a == b
  | .string a, .string b => a == b
  | .agg ⟨a⟩, .agg ⟨b⟩ => sameKs a b
  | _, _ => false
where sameKs : List Value → List Value → Bool
  | [], [] => true
  | .bool x :: a, .bool y :: b => x == y && sameKs a b
  | .int j x :: a, .int k y :: b => j == k && x == y && sameKs a b
  | .string x :: a, .string y :: b => x == y && sameKs a b
  | _, _ => false

/-- does that key stay to the bit? -/
def sameAt (es : List (Value × Value × Nat)) (i : Nat) (k : Value) : Bool :=
  match es, i with
  | [], _ => false
  | (k', _, _) :: _, 0 => sameK k' k
  | _ :: l, i + 1 => sameAt l i k
def bornAt (es : List (Value × Value × Nat)) (i : Nat) : Nat :=
  match es, i with
  | [], _ => 0
  | (_, _, c) :: _, 0 => c
  | _ :: l, i + 1 => bornAt l i
def findB (b : Int) : List (Value × Value × Nat) → Nat → Option (Nat × Value)
  | [], _ => none
  | (k, _, c) :: l, i => if (c : Int) == b then some (i, k) else findB b l (i + 1)

def runE (K : Ks) (e : List Value) (σ : AW) : EOp → Option (IRet × AW)
  | .st n a x =>
    match a.ev e with
    | .pointer (some a) =>
      let v := cellsOf (x.ev e)
      if v.length = n then (σ.wrN a.block a.off v).map fun σ' => (.ret undef, σ') else none
    | _ => none
  | .append t esz bytes _ s x =>
    let x := x.ev e
    match lenV x with
    | some n => (srcV σ esz x n).bind fun new => (appendV σ t esz bytes (s.ev e) new n).map fun (v, σ') => (.ret v, σ')
    | none => none
  | .appendZ t esz bytes zero s n =>
    match n.ev e with
    | .int _ l =>
      let l := IntKind.i64.wrap l
      if 0 ≤ l ∧ l ≤ 140737488355328 ∧ l * bytes ≤ 140737488355328 then (appendV σ t esz bytes (s.ev e) (List.replicate l.toNat zero).flatten l.toNat).map fun (v, σ') => (.ret v, σ') else none
    | _ => none
  | .copy esz d s =>
    match d.ev e with
    | .slice base dl _ =>
      let s := s.ev e
      match lenV s with
      | some n =>
        let n := Nat.min n dl
        (srcV σ esz s n).bind fun cs =>
          match base with
          | some a => (σ.wrN a.block a.off cs).map fun σ' => (.ret (.int .i64 n), σ')
          | none => some (.ret (.int .i64 n), σ)
      | none => none
    | _ => none
  | .mapUpd kt m k v =>
    match m.ev e with
    | .map (some r) =>
      match σ.heap.get r with
      | some (.map es clock) =>
        if keyOK kt (k.ev e) then
          match findK kt (k.ev e) es 0 with
          | some (some (i, _)) =>
            if sameAt es i (k.ev e) then some (.ret undef, { σ with heap := σ.heap.set r (.map (setAt es i (k.ev e) (v.ev e)) clock) }) else none
          | some none => some (.ret undef, { σ with heap := σ.heap.set r (.map (es ++ [(k.ev e, v.ev e, clock)]) (clock + 1)) })
          | none => none
        else none
      | _ => none
    | _ => none
  | .mapEnt kt zero m k =>
    match m.ev e with
    | .map (some r) =>
      match σ.heap.get r with
      | some (.map es clock) =>
        if keyOK kt (k.ev e) then
          match findK kt (k.ev e) es 0 with
          | some (some (i, v)) =>
            if sameAt es i (k.ev e) then some (.ret (.tuple ⟨[v, .int .i64 (bornAt es i)]⟩), { σ with heap := σ.heap.set r (.map (setAt es i (k.ev e) v) clock) }) else none
          | some none => some (.ret (.tuple ⟨[zero, .int .i64 clock]⟩), { σ with heap := σ.heap.set r (.map (es ++ [(k.ev e, zero, clock)]) (clock + 1)) })
          | none => none
        else none
      | _ => none
    | _ => none
  | .entSt m s x =>
    match m.ev e, s.ev e with
    | .map (some r), .int _ b =>
      match σ.heap.get r with
      | some (.map es clock) =>
        match findB b es 0 with
        | some (i, k) => some (.ret undef, { σ with heap := σ.heap.set r (.map (setAt es i k (x.ev e)) clock) })
        | none => none
      | _ => none
    | _, _ => none
  | .delete kt m k =>
    match m.ev e with
    | .map (some r) =>
      match σ.heap.get r with
      | some (.map es clock) =>
        if keyOK kt (k.ev e) then
          match findK kt (k.ev e) es 0 with
          | some (some (i, _)) => some (.ret (.tuple ⟨[]⟩), { σ with heap := σ.heap.set r (.map (delAt es i) clock) })
          | some none => some (.ret (.tuple ⟨[]⟩), { σ with heap := σ.heap.set r (.map es clock) })
          | none => none
        else none
      | _ => none
    | _ => none
  | .clear zero x =>
    match x.ev e with
    | .slice none _ _ => some (.ret (.tuple ⟨[]⟩), σ)
    | .slice (some a) n _ => if n = 0 then some (.ret (.tuple ⟨[]⟩), σ) else (σ.wrN a.block a.off (List.replicate n zero).flatten).map fun σ' => (.ret (.tuple ⟨[]⟩), σ')
    | _ => none
  | .s2b t x =>
    match x.ev e with
    | .string s => (σ.push (.cells (newCB t 1 (strCells s) false []))).map fun (i, σ') => (.ret (.slice (some ⟨i, 0, none⟩) s.size s.size), σ')
    | _ => none
  | .sdata x =>
    match x.ev e with
    | .slice none _ _ => some (.ret (.pointer none), σ)
    | .slice (some a) _ c => if c = 0 then none else some (.ret (.pointer (some a)), σ)
    | _ => none
  | .ustr t x n =>
    match x.ev e, n.ev e with
    | .pointer p, .int _ n =>
      if n = 0 then some (.ret (.string .empty), σ)
      else if n < 0 ∨ n > 140737488355328 then none
      else match p with
        | some a =>
          match σ.cells? a.block, σ.rdN a n.toNat with
          | some b, some l =>
            if b.ro || b.retired || b.ty != t then none else (bytesOf l).map fun l => (.ret (.string ⟨⟨l⟩⟩), { σ with heap := (killAll b.al σ.heap).set a.block (.cells { b with frozen := true, al := [] }) })
          | _, _ => none
        | none => none
    | _, _ => none
  | .range x =>
    match x.ev e with
    | .string s => (σ.push (.strIter s 0)).map fun (i, σ') => (.ret (.pointer (some ⟨i, 0, none⟩)), σ')
    | _ => none
  | .next x =>
    match x.ev e with
    | .pointer (some ⟨r, 0, none⟩) =>
      match σ.heap.get r with
      | some (.strIter s pos) =>
        if pos < s.size then
          let (c, width) := Utf8.decode s pos
          some (.ret (.tuple ⟨[.bool true, .int .i64 pos, .int .i32 c]⟩), { σ with heap := σ.heap.set r (.strIter s (pos + width)) })
        else some (.ret (.tuple ⟨[.bool false]⟩), σ)
      | _ => none
    | _ => none
  | .call f args => K.call f (evs e args) σ
  | .callv f args => callV K (f.ev e) (evs e args) σ
  | .invoke ms x args =>
    match x.ev e with
    | .iface t v =>
      match ms.lookup t with
      | some f => K.call f (v :: evs e args) σ
      | none => none
    | _ => none
  | .panic _ => none

/-! ### rows of operations -/
def IOper.wanted (o : IOper) (e : List Value) : Bool :=
  match o.guard with
  | none => true
  | some (j, want) => match getV e j with | .bool b => b == want | _ => false
def put (e : List Value) (d : Option Nat) (v : Value) : List Value :=
  match d with
  | some d => setV e d v
  | none => e
def runOp (K : Ks) (i : Nat) (e : List Value) (σ : AW) : IOp → Option (IRet × AW)
  | .p o => (evP e o).map fun v => (.ret v, σ)
  | .r o => (evR e σ o).map fun v => (.ret v, σ)
  | .n o => (evN e o).bind fun (b, f) => if i < most then some (.ret (f i), { next := Nat.max σ.next (i + 1), heap := σ.heap.set i b }) else none
  | .e o => runE K e σ o
  | .bad => none
def runOps (K : Ks) : List IOper → List Value → AW → Option (IExit × List Value × AW)
  | [], e, σ => some (.normal, e, σ)
  | o :: l, e, σ =>
    if o.wanted e then
      match runOp K σ.next e σ o.op with
      | some (.ret v, σ') => runOps K l (put e o.dst v) σ'
      | some (.pan _, _) => none
      | none => none
    else runOps K l (put e o.dst undef) σ

/-- the same to the bit -/
def beq0 : Value → Value → Bool
  | .bool a, .bool b => a == b
  | .int j a, .int k b => j == k && a == b
  | .string a, .string b => a.data.toList == b.data.toList
  | .pointer none, .pointer none => true
  | .pointer (some a), .pointer (some b) => a == b
  | .slice none a b, .slice none c d => a == c && b == d
  | .slice (some x) a b, .slice (some y) c d => x == y && a == c && b == d
  | .map a, .map b => a == b
  | .nilFunc, .nilFunc => true
  | .nilIface, .nilIface => true
  | _, _ => false
def beq0s : List Value → List Value → Bool
  | [], [] => true
  | x :: a, y :: b => beq0 x y && beq0s a b
  | _, _ => false
def beq1 : Value → Value → Bool
  | .func (.func f) ⟨a⟩ ⟨b⟩, .func (.func g) ⟨c⟩ ⟨d⟩ => f == g && beq0s a c && beq0s b d
  | .iface t a, .iface u b => t == u && beq0 a b
  | a, b => beq0 a b
def beqs : List Value → List Value → Bool
  | [], [] => true
  | x :: a, y :: b => beq1 x y && beqs a b
  | _, _ => false
def beqV : Value → Value → Bool
  | .agg ⟨a⟩, .agg ⟨b⟩ => beqs a b
  | .tuple ⟨a⟩, .tuple ⟨b⟩ => beqs a b
  | a, b => beq1 a b

def nthO : List IOper → Nat → Option IOper
  | [], _ => none
  | v :: _, 0 => some v
  | _ :: l, n + 1 => nthO l n
def chkR (l : List IOper) (e : List Value) (σ : AW) : List Nat → Bool
  | [] => true
  | i :: is =>
    (match nthO l i with
      | some o =>
        if o.wanted e then
          match o.op, o.dst with
          | .r r, some d => match evR e σ r with | some v => beqV v (getV e d) | none => false
          | _, _ => false
        else true
      | none => false) && chkR l e σ is
/-- what only computes, reads (as of the stage's start), makes blocks -/
def runX (l : List IOper) (β : AW) : List Nat → List Value → AW → Option (List Value × AW)
  | [], e, σ => some (e, σ)
  | i :: xs, e, σ =>
    match nthO l i with
    | none => none
    | some o =>
      if o.wanted e then
        match o.op with
        | .p q => match evP e q with | some v => runX l β xs (put e o.dst v) σ | none => none
        | .r q => match evR e β q with | some v => runX l β xs (put e o.dst v) σ | none => none
        | .n q =>
          match evN e q with
          | some (b, f) => if σ.next < most then runX l β xs (put e o.dst (f σ.next)) { next := σ.next + 1, heap := σ.heap.set σ.next b } else none
          | none => none
        | _ => none
      else runX l β xs (put e o.dst undef) σ
def runDraw (K : Ks) (l : List IOper) (fin : DStage) : List DStage → List Value → AW → Option (List Value × AW)
  | [], e, β => if chkR l e β fin.chk then runX l β fin.xs e β else none
  | s :: st, e, β =>
    if chkR l e β s.chk then
      match runX l β s.xs e β with
      | some (e1, γ) =>
        match nthO l s.e with
        | some o =>
          if o.wanted e1 then
            match o.op with
            | .e q => match runE K e1 γ q with | some (.ret v, β') => runDraw K l fin st (put e1 o.dst v) β' | _ => none
            | _ => none
          else runDraw K l fin st (put e1 o.dst undef) γ
        | none => none
      | none => none
    else none

/-! ### code -/
structure Fr where
  tmps : List Value
  dfs : List Nat

def loopN (body : Fr → AW → Option (IExit × Fr × AW)) : Nat → Fr → AW → Option (IExit × Fr × AW)
  | 0, _, _ => none
  | n + 1, e, σ =>
    match body e σ with
    | some (.normal, e', σ') => loopN body n e' σ'
    | r => r

def setLoop (σ : AW) (l : Nat) (r : ALoop) : AW := { σ with heap := σ.heap.set l (.loop r) }

/-- the block for the rounds' deferred calls: the outer loop's, or a new one -/
def startOf (rnd : Option Nat) (σ : AW) : Option (Nat × List Nat × AW) :=
  match rnd with
  | some l => match σ.heap.get l with | some (.loop r) => some (r.defers, [], σ) | _ => none
  | none => (σ.push (.deferred false)).map fun (i, σ') => (i, [i], σ')
/-- rnd: the loop over a function whose round this frame is -/
def evC (K : Ks) (fuel : Nat) (rnd : Option Nat) : ICode → Fr → AW → Option (IExit × Fr × AW)
  | .skip, e, σ => some (.normal, e, σ)
  | .ops l, e, σ => (runOps K l e.tmps σ).map fun (x, t, σ') => (x, { e with tmps := t }, σ')
  | .draw l st fin, e, σ => (runDraw K l fin st e.tmps σ).map fun (t, σ') => (.normal, { e with tmps := t }, σ')
  | .seq a b, e, σ =>
    match evC K fuel rnd a e σ with
    | some (.normal, e', σ') => evC K fuel rnd b e' σ'
    | r => r
  | .cond c a b, e, σ =>
    match c.ev e.tmps with
    | .bool true => evC K fuel rnd a e σ
    | .bool false => evC K fuel rnd b e σ
    | _ => none
  | .block id b, e, σ =>
    match evC K fuel rnd b e σ with
    | some (.exit i, e', σ') => some (if i = id then .normal else .exit i, e', σ')
    | r => r
  | .loop b, e, σ => loopN (evC K fuel rnd b) fuel e σ
  | .rangeF f params assign body, e, σ =>
    (startOf rnd σ).bind fun (d, m, σ) =>
      (σ.push (.loop { state := .ready, pending := none, tmps := e.tmps, params, assign, body, defers := d })).bind fun (l, σ) =>
        match callV K (f.ev e.tmps) [.func (.yield l) #[] #[]] σ with
        | some (.ret _, σ) =>
          match σ.heap.get l with
          | some (.loop r) =>
            if r.state == .busy then none else
            some (match r.pending with | some (.exit i) => .exit i | some .ret => .ret | _ => .normal, { e with dfs := m ++ e.dfs }, setLoop σ l { r with state := .exhausted })
          | _ => none
        | _ => none
  | .exit id, e, σ => some (.exit id, e, σ)
  | .ret, e, σ => some (.ret, e, σ)
  | .bad, _, _ => none

/-- what the deferred calls are: only marks of loops over functions -/
def runDfs : List Nat → AW → Option AW
  | [], σ => some σ
  | d :: l, σ => match σ.heap.get d with | some (.deferred false) => runDfs l { σ with heap := σ.heap.set d (.deferred true) } | _ => none
def resV (e : List Value) (σ : AW) : IRes → Option Value
  | .tmp t => some (getV e t)
  | .cell t n =>
    match getV e t with
    | .pointer (some a) => match n with | some n => (σ.rdN a n).map fun l => .agg ⟨l⟩ | none => σ.rd a
    | _ => none
def resVs (e : List Value) (σ : AW) : List IRes → Option (List Value)
  | [] => some []
  | r :: l => match resV e σ r, resVs e σ l with | some v, some vs => some (v :: vs) | _, _ => none
def tupleOf : List Value → Value
  | [v] => v
  | l => .tuple ⟨l⟩

def callF (K : Ks) (C : Tr IFunc) (fuel : Nat) (f : FuncId) (args : List Value) (σ : AW) : Option (IRet × AW) :=
  match C.get f with
  | none => none
  | some fn =>
    match evC K fuel none fn.body { tmps := args ++ List.replicate (fn.ntmps - args.length) undef, dfs := [] } σ with
    | some (.normal, e, σ) | some (.ret, e, σ) => (runDfs e.dfs σ).bind fun σ => (resVs e.tmps σ fn.results).map fun vs => (.ret (tupleOf vs), σ)
    | _ => none

def setParams : List Value → List Nat → List Value → Option (List Value)
  | e, [], [] => some e
  | e, p :: ps, v :: vs => setParams (setV e p v) ps vs
  | _, _, _ => none
def yieldF (K : Ks) (fuel : Nat) (l : Nat) (args : List Value) (σ : AW) : Option (IRet × AW) :=
  match σ.heap.get l with
  | some (.loop r0) =>
    (setParams r0.tmps r0.params args).bind fun e =>
      match evC K fuel (some l) r0.assign { tmps := e, dfs := [] } σ with
      | some (.normal, e, σ) =>
        match σ.heap.get l with
        | some (.loop r) =>
          if r.state == .ready then
            match evC K fuel (some l) r0.body e (setLoop σ l { r with state := .busy, pending := r.pending }) with
            | some (x, _, σ) =>
              match σ.heap.get l with
              | some (.loop r) =>
                match x with
                | .normal => some (.ret (.bool true), setLoop σ l { r with state := .ready, pending := none })
                | .exit i => some (.ret (.bool false), setLoop σ l { r with state := .done, pending := some (.exit i) })
                | .ret => some (.ret (.bool false), setLoop σ l { r with state := .done, pending := some .ret })
                | _ => none
              | _ => none
            | none => none
          else none
        | _ => none
      | _ => none
  | _ => none

def ksN (C : Tr IFunc) : Nat → Ks
  | 0 => { call := fun _ _ _ => none, yield := fun _ _ _ => none }
  | n + 1 => { call := callF (ksN C n) C n, yield := yieldF (ksN C n) n }

end Go.Proofs.YtjpepfgbilbcdaaGreatDoor.Ai
