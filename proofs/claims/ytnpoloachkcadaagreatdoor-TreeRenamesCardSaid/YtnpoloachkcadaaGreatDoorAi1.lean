/- A PART OF THE PROOF: a step of the proof that the law's code does what its contracts say, by an interpreter of the program's functions that is proved to be sound. -/
import Derived.Calls
import Derived.Below
import Derived.KernelRfl
import Derived.Laws.IdiomCopy
import Derived.Laws.Entries
import Derived.WalkLawsBesides
namespace Go.Proofs.YtnpoloachkcadaaGreatDoor.Ai
open Go
inductive Tr (α:Type) where
 | nil
 | node (l:Tr α) (v:Option α) (r:Tr α)
namespace Tr
variable {α:Type}
def get:Tr α→Nat→Option α
 | nil,_=>none
 | node l v r,n=>if n=0 then v else if n % 2=1 then l.get (n / 2) else r.get (n / 2 - 1)
def put (x:Option α):(fuel:Nat)→Tr α→Nat→Tr α
 | 0,t,_=>t
 | f + 1,nil,n=>if n=0 then node nil x nil else if n % 2=1 then node (put x f nil (n / 2)) none nil else node nil none (put x f nil (n / 2 - 1))
 | f + 1,node l v r,n=>if n=0 then node l x r else if n % 2=1 then node (put x f l (n / 2)) v r else node l v (put x f r (n / 2 - 1))
def set (t:Tr α) (n:Nat) (x:α):Tr α:=put (some x) (n + 1) t n
def del (t:Tr α) (n:Nat):Tr α:=put none (n + 1) t n
theorem get_put (x:Option α):∀ (f:Nat) (t:Tr α) (n m:Nat),n + 1 < 2 ^ f→(put x f t n).get m=if m=n then x else t.get m:=by
 intro f
 induction f with
 | zero=>intro t n m h;simp at h
 | succ f ih=>
  intro t n m h
  have h2:2 ^ (f + 1)=2 * 2 ^ f:=by rw [Nat.pow_succ];omega
  rw [h2] at h
  cases t with
  | nil=>
   simp only [put]
   split
   ·rename_i h0;subst h0
    simp only [get]
    split
    ·simp
    ·split <;> rfl
   ·split
    ·rename_i h0 h1
     simp only [get]
     split
     ·rename_i hm;subst hm;rw [if_neg (by omega)]
     ·split
      ·rename_i hm hm1
       rw [ih _ _ _ (by omega)]
       by_cases e:m=n
       ·subst e;simp
       ·rw [if_neg (by omega),if_neg e];rfl
      ·rw [if_neg (by intro e;subst e;contradiction)];try rfl
    ·rename_i h0 h1
     simp only [get]
     split
     ·rename_i hm;subst hm;rw [if_neg (by omega)]
     ·split
      ·rw [if_neg (by intro e;subst e;contradiction)];try rfl
      ·rename_i hm hm1
       rw [ih _ _ _ (by omega)]
       by_cases e:m=n
       ·subst e;simp
       ·rw [if_neg (by omega),if_neg e];rfl
  | node l v r=>
   simp only [put]
   split
   ·rename_i h0;subst h0
    simp only [get]
    split
    ·simp
    ·simp
   ·split
    ·rename_i h0 h1
     simp only [get]
     split
     ·rename_i hm;subst hm;rw [if_neg (by omega)]
     ·split
      ·rename_i hm hm1
       rw [ih _ _ _ (by omega)]
       by_cases e:m=n
       ·subst e;simp
       ·rw [if_neg (by omega),if_neg e]
      ·rw [if_neg (by intro e;subst e;contradiction)]
    ·rename_i h0 h1
     simp only [get]
     split
     ·rename_i hm;subst hm;rw [if_neg (by omega)]
     ·split
      ·rw [if_neg (by intro e;subst e;contradiction)]
      ·rename_i hm hm1
       rw [ih _ _ _ (by omega)]
       by_cases e:m=n
       ·subst e;simp
       ·rw [if_neg (by omega),if_neg e]
theorem get_set (t:Tr α) (n m:Nat) (x:α) (_h:n < n + 1):(t.set n x).get m=if m=n then some x else t.get m:=get_put _ (n + 1) t n m Nat.lt_two_pow_self
theorem get_del (t:Tr α) (n m:Nat) (_h:n < n + 1):(t.del n).get m=if m=n then none else t.get m:=get_put _ (n + 1) t n m Nat.lt_two_pow_self
end Tr
structure Loc where
 blk:Nat
 sh:Nat
 ex:Nat
def cAddr (μ:Nat→Loc) (a:Addr):Addr:=⟨(μ a.block).blk,(μ a.block).sh + a.off,a.spot⟩
def cFn (μ:Nat→Loc):Fn→Fn
 | .yield l=>.yield (μ l).blk
 | f=>f
mutual
def conc (μ:Nat→Loc):Value→Value
 | .pointer (some a)=>.pointer (some (cAddr μ a))
 | .slice (some a) n c=>.slice (some (cAddr μ a)) n (c + (μ a.block).ex)
 | .map (some r)=>.map (some (μ r).blk)
 | .func f ⟨x⟩ ⟨y⟩=>.func (cFn μ f) ⟨concL μ x⟩ ⟨concL μ y⟩
 | .iface t v=>.iface t (conc μ v)
 | .agg ⟨x⟩=>.agg ⟨concL μ x⟩
 | .tuple ⟨x⟩=>.tuple ⟨concL μ x⟩
 | v=>v
def concL (μ:Nat→Loc):List Value→List Value
 | []=>[]
 | v::l=>conc μ v::concL μ l
end
def ltFn (n:Nat):Fn→Bool
 | .yield l=>decide (l < n)
 | _=>true
mutual
def lt (n:Nat):Value→Bool
 | .pointer (some a)=>decide (a.block < n) && a.spot.isNone
 | .slice (some a) m c=>decide (a.block < n) && (a.spot.isNone || (m == 0 && c == 0))
 | .map (some r)=>decide (r < n)
 | .chan (some _)=>false
 | .func f ⟨x⟩ ⟨y⟩=>ltFn n f && ltL n x && ltL n y
 | .iface _ v=>lt n v
 | .agg ⟨x⟩=>ltL n x
 | .tuple ⟨x⟩=>ltL n x
 | _=>true
def ltL (n:Nat):List Value→Bool
 | []=>true
 | v::l=>lt n v && ltL n l
end
theorem concL_eq (μ:Nat→Loc):∀ l,concL μ l=l.map (conc μ)
 | []=>by simp [concL]
 | v::l=>by simp [concL,concL_eq μ l]
theorem ltL_iff (n:Nat):∀ l,ltL n l=true↔∀ v∈l,lt n v=true
 | []=>by simp [ltL]
 | v::l=>by simp [ltL,ltL_iff n l]
#print axioms concL_eq
end Go.Proofs.YtnpoloachkcadaaGreatDoor.Ai
namespace Go.Proofs.YtnpoloachkcadaaGreatDoor.Ai
open Go
def getV:List Value→Nat→Value
 | [],_=>undef
 | v::_,0=>v
 | _::l,n + 1=>getV l n
def setV:List Value→Nat→Value→List Value
 | [],_,_=>[]
 | _::l,0,x=>x::l
 | v::l,n + 1,x=>v::setV l n x
inductive Opd where
 | t (n:Nat)
 | c (v:Value)
 | g (n:Nat)
def Opd.ev (e:List Value):Opd→Value
 | .t n=>getV e n
 | .c v=>v
 | .g n=>.pointer (some ⟨n,0,none⟩)
inductive EqT where
 | bool
 | int
 | str
 | iface
 | ifaceN
 | nilS
 | nilM
 | nilF
 | strct (fs:List (Nat × Option Nat × EqT))
 | ifaceT (l:List (TypeId × EqT))
inductive POp where
 | mov (x:Opd)
 | pick (c a b:Opd)
 | build (zero:List Value) (parts:List (Nat × Nat × Opd))
 | nilchk (mm:List (String × TypeId)) (x:Opd)
 | bin (op:BinOp) (x y:Opd)
 | eqv (neg:Bool) (t:EqT) (x y:Opd)
 | un (op:UnOp) (x:Opd)
 | conv (k:IntKind) (x:Opd)
 | convStr (x:Opd)
 | mkI (t:TypeId) (x:Opd)
 | mkF (fn:Fn) (first captured:List Opd)
 | faddr (off:Nat) (x:Opd)
 | field (off:Nat) (n:Option Nat) (x:Opd)
 | iaddrS (esz:Nat) (x i:Opd)
 | iaddrA (esz len:Nat) (x i:Opd)
 | idxS (x i:Opd)
 | idxA (esz len:Nat) (n:Option Nat) (x i:Opd)
 | slS (x:Opd) (lo hi:Option Opd)
 | ext (x:Opd) (i:Nat)
 | lenS (x:Opd)
 | lenL (x:Opd)
 | lenC (n:Nat)
 | max (x y:Opd)
 | min (x y:Opd)
 | tassert (t:TypeId) (ok:Option Value) (x:Opd)
 | cmpS (x y:Opd)
 | idxB (x c:Opd)
inductive ROp where
 | ld (x:Opd)
 | ldn (n:Nat) (x:Opd)
 | slV (esz:Nat) (x:Opd) (lo hi mx:Option Opd)
 | slA (esz len:Nat) (x:Opd) (lo hi:Option Opd)
 | cap (x:Opd)
 | lenM (x:Opd)
 | peq (neg:Bool) (x y:Opd)
 | lookup (kt:EqT) (zero:Value) (ok:Bool) (x k:Opd)
 | b2s (x:Opd)
 | p2u (x:Opd)
 | u2p (t:TypeId) (n:Nat) (x:Opd)
inductive NOp where
 | new (t:TypeId) (esz:Nat) (zero:List Value)
 | box (t:TypeId) (esz:Nat) (x:Opd)
 | buildSlice (t:TypeId) (esz:Nat) (len:Nat) (zero:List Value) (parts:List (Nat × Nat × Opd))
 | mkSlice (t:TypeId) (esz bytes:Nat) (zero:List Value) (len cap:Opd)
 | mkMap
inductive EOp where
 | st (n:Nat) (a x:Opd)
 | append (t:TypeId) (esz bytes:Nat) (zero:List Value) (s x:Opd)
 | appendZ (t:TypeId) (esz bytes:Nat) (zero:List Value) (s n:Opd)
 | copy (esz:Nat) (d s:Opd)
 | mapUpd (kt:EqT) (m k v:Opd)
 | mapEnt (kt:EqT) (zero:Value) (m k:Opd)
 | entSt (m s x:Opd)
 | delete (kt:EqT) (m k:Opd)
 | clear (zero:List Value) (x:Opd)
 | s2b (t:TypeId) (x:Opd)
 | sdata (x:Opd)
 | ustr (t:TypeId) (x n:Opd)
 | range (x:Opd)
 | next (x:Opd)
 | call (f:FuncId) (args:List Opd)
 | callv (f:Opd) (args:List Opd)
 | invoke (ms:List (TypeId × FuncId)) (x:Opd) (args:List Opd)
 | panic (x:Opd)
inductive IOp where
 | p (o:POp)
 | r (o:ROp)
 | n (o:NOp)
 | e (o:EOp)
 | bad
structure IOper where
 dst:Option Nat
 op:IOp
 guard:Option (Nat × Bool)
structure DStage where
 chk:List Nat
 xs:List Nat
 e:Nat
inductive ICode where
 | skip
 | ops (l:List IOper)
 | draw (l:List IOper) (st:List DStage) (fin:DStage)
 | seq (a b:ICode)
 | cond (c:Opd) (a b:ICode)
 | block (id:Nat) (b:ICode)
 | loop (b:ICode)
 | rangeF (f:Opd) (params:List Nat) (assign body:ICode)
 | exit (id:Nat)
 | ret
 | bad
inductive IRes where
 | tmp (t:Nat)
 | cell (t:Nat) (n:Option Nat)
structure IFunc where
 ntmps:Nat
 results:List IRes
 body:ICode
structure CB where
 cs:List Value
 ty:TypeId
 esz:Nat
 ro:Bool
 exact:Bool
 retired:Bool
 frozen:Bool
 al:List Nat
inductive IExit where
 | normal
 | exit (id:Nat)
 | ret
 | panic (chain:List PanicEntry)
structure ALoop where
 state:LoopState
 pending:Option IExit
 tmps:List Value
 params:List Nat
 assign:ICode
 body:ICode
 defers:Nat
inductive Blk where
 | cells (b:CB)
 | map (es:List (Value × Value × Nat)) (clock:Nat)
 | loop (l:ALoop)
 | deferred (taken:Bool)
 | strIter (s:ByteArray) (pos:Nat)
structure AW where
 next:Nat
 heap:Tr Blk
def AW.cells? (σ:AW) (i:Nat):Option CB:=match σ.heap.get i with | some (.cells b)=>some b | _=>none
def AW.exactAt (σ:AW) (i:Nat):Bool:=match σ.cells? i with | some b=>b.exact | none=>false
def nthV:List Value→Nat→Option Value
 | [],_=>none
 | v::_,0=>some v
 | _::l,n + 1=>nthV l n
def cutV:Nat→List Value→Option (List Value)
 | 0,_=>some []
 | _ + 1,[]=>none
 | n + 1,v::l=>(cutV n l).map (v::·)
def dropV:Nat→List Value→List Value
 | 0,l=>l
 | _ + 1,[]=>[]
 | n + 1,_::l=>dropV n l
def overV:List Value→List Value→Option (List Value)
 | cs,[]=>some cs
 | [],_::_=>none
 | _::cs,v::vs=>(overV cs vs).map (v::·)
def spliceV:List Value→Nat→List Value→Option (List Value)
 | cs,0,vs=>overV cs vs
 | [],_ + 1,vs=>if vs.isEmpty then some [] else none
 | c::cs,n + 1,vs=>(spliceV cs n vs).map (c::·)
def AW.rd (σ:AW) (a:Addr):Option Value:=match σ.cells? a.block with | some b=>nthV b.cs a.off | none=>none
def AW.rdN (σ:AW) (a:Addr) (n:Nat):Option (List Value):=match σ.cells? a.block with | some b=>cutV n (dropV a.off b.cs) | none=>none
def killAll:List Nat→Tr Blk→Tr Blk
 | [],h=>h
 | i::l,h=>killAll l (h.del i)
def isCell:Value→Bool
 | .agg _ | .tuple _=>false
 | _=>true
def allCells:List Value→Bool
 | []=>true
 | v::l=>isCell v && allCells l
def AW.wrN (σ:AW) (i off:Nat) (vs:List Value):Option AW:=
 match σ.cells? i with
 | some b=>
  if b.ro || b.retired || b.frozen || !allCells vs then none else
  match spliceV b.cs off vs with
  | some cs=>some {σ with heap:=(killAll b.al σ.heap).set i (.cells {b with cs,al:=[] }) }
  | none=>none
 | none=>none
def most (n:Nat):Nat:=n + 1
def AW.push (σ:AW) (b:Blk):Option (Nat × AW):=
 if σ.next < most σ.next then some (σ.next,{next:=σ.next + 1,heap:=σ.heap.set σ.next b }) else none
def newCB (t:TypeId) (esz:Nat) (cs:List Value) (exact:Bool) (al:List Nat):CB:=
 {cs,ty:=t,esz,ro:=false,exact,retired:=false,frozen:=false,al }
def bits (op:BinOp) (k:IntKind) (x y:Int):Option Value:=
 let a:=BitVec.ofInt k.bits x
 let b:=BitVec.ofInt k.bits y
 match op with
 | .and=>some (.int k (k.wrap (a &&& b).toNat))
 | .or=>some (.int k (k.wrap (a ||| b).toNat))
 | .xor=>some (.int k (k.wrap (a ^^^ b).toNat))
 | .andNot=>some (.int k (k.wrap (a &&& ~~~b).toNat))
 | _=>none
def binInt (op:BinOp) (k:IntKind) (x y:Int):Option Value:=
 match op with
 | .add=>some (.int k (k.wrap (x + y)))
 | .sub=>some (.int k (k.wrap (x - y)))
 | .mul=>some (.int k (k.wrap (x * y)))
 | .quo=>if y=0 then none else some (.int k (k.wrap (x.tdiv y)))
 | .rem=>if y=0 then none else some (.int k (x.tmod y))
 | .and=>bits .and k x y
 | .or=>bits .or k x y
 | .xor=>bits .xor k x y
 | .andNot=>bits .andNot k x y
 | .eql=>some (.bool (x == y))
 | .neq=>some (.bool (x != y))
 | .lss=>some (.bool (x < y))
 | .leq=>some (.bool (x≤y))
 | .gtr=>some (.bool (x > y))
 | .geq=>some (.bool (x ≥ y))
 | _=>none
def binStr (op:BinOp) (x y:ByteArray):Option Value:=
 let eq:=x.toList == y.toList
 let lt:=Op.bytesLess x.toList y.toList
 match op with
 | .add=>if ((x.size + y.size:Nat):Int) > IntKind.i64.max then none else some (.string (x++y))
 | .eql=>some (.bool eq)
 | .neq=>some (.bool !eq)
 | .lss=>some (.bool lt)
 | .leq=>some (.bool (lt || eq))
 | .gtr=>some (.bool !(lt || eq))
 | .geq=>some (.bool !lt)
 | _=>none
def shiftInt (op:BinOp) (k:IntKind) (x y:Int):Option Value:=
 if y < 0 then none else
 match op with
 | .shl=>some (.int k (k.wrap (x * 2 ^ (Nat.min y.toNat k.bits))))
 | .shr=>some (.int k (x.fdiv (2 ^ (Nat.min y.toNat k.bits))))
 | _=>none
def isNeq:BinOp→Bool
 | .neq=>true
 | _=>false
def isShift:BinOp→Bool
 | .shl | .shr=>true
 | _=>false
def bin (op:BinOp) (x y:Value):Option Value:=
 match x,y with
 | .int k a,.int k' b=>if isShift op then shiftInt op k a b else if k=k' then binInt op k a b else none
 | .string a,.string b=>binStr op a b
 | _,_=>none
def partV (n:Option Nat) (cs:List Value) (off:Nat):Option Value:=
 match n with
 | some n=>some (.agg ⟨(cs.take (off + n)).drop off⟩)
 | none=>nthV cs off
def eqFlat:EqT→Value→Value→Option Bool
 | .bool,.bool a,.bool b=>some (a == b)
 | .int,.int k a,.int k' b=>if k=k' then some (a == b) else none
 | .str,.string a,.string b=>some (a == b)
 | _,_,_=>none
mutual
def eqv:EqT→Value→Value→Option Bool
 | .bool,.bool a,.bool b=>some (a == b)
 | .int,.int k a,.int k' b=>if k=k' then some (a == b) else none
 | .str,.string a,.string b=>some (a == b)
 | .iface,.nilIface,.nilIface=>none
 | .ifaceN,.nilIface,.nilIface=>some true
 | .ifaceN,.nilIface,.iface _ _=>some false
 | .ifaceN,.iface _ _,.nilIface=>some false
 | .iface,.nilIface,.iface _ _=>some false
 | .iface,.iface _ _,.nilIface=>some false
 | .nilS,.slice none _ _,.slice none _ _=>some true
 | .nilS,.slice none _ _,.slice (some _) _ _=>some false
 | .nilS,.slice (some _) _ _,.slice none _ _=>some false
 | .nilM,.map none,.map none=>some true
 | .nilM,.map none,.map (some _)=>some false
 | .nilM,.map (some _),.map none=>some false
 | .nilF,.nilFunc,.nilFunc=>some true
 | .nilF,.nilFunc,.func _ _ _=>some false
 | .nilF,.func _ _ _,.nilFunc=>some false
 | .strct fs,.agg ⟨x⟩,.agg ⟨y⟩=>eqvFs fs x y
 | .ifaceT _,.nilIface,.iface _ _=>some false
 | .ifaceT _,.iface _ _,.nilIface=>some false
 | .ifaceT l,.iface t x,.iface u y=>
  if t=u then
   match l.lookup t with
   | some q=>eqFlat q x y
   | none=>none
  else some false
 | _,_,_=>none
def eqvFs:List (Nat × Option Nat × EqT)→List Value→List Value→Option Bool
 | [],_,_=>some true
 | (off,n,t)::fs,x,y=>
  match partV n x off,partV n y off with
  | some a,some b=>
   match eqv t a b with
   | some true=>eqvFs fs x y
   | some false=>some false
   | none=>none
  | _,_=>none
end
def keyOK:EqT→Value→Bool
 | .strct fs,.agg ⟨x⟩=>fs.all fun f=>(partV f.2.1 x f.1).isSome
 | .strct _,_=>false
 | _,_=>true
def evs (e:List Value):List Opd→List Value
 | []=>[]
 | x::l=>x.ev e::evs e l
def cellsOf:Value→List Value
 | .agg ⟨l⟩=>l
 | v=>[v]
def fillV (e:List Value):List Value→List (Nat × Nat × Opd)→Option (List Value)
 | cs,[]=>some cs
 | cs,(off,n,x)::l=>
  let v:=cellsOf (x.ev e)
  if v.length=n then (spliceV cs off v).bind fun cs=>fillV e cs l else none
def bound (e:List Value) (d:Nat) (y:Nat):Option Opd→Option Nat
 | none=>some d
 | some x=>match x.ev e with | .int _ i=>if 0≤i∧i≤y then some i.toNat else none | _=>none
def evP (e:List Value):POp→Option Value
 | .mov x=>some (x.ev e)
 | .pick c a b=>match c.ev e with | .bool true=>some (a.ev e) | .bool false=>some (b.ev e) | _=>none
 | .build zero parts=>(fillV e zero parts).map fun cs=>.agg ⟨cs⟩
 | .nilchk mm x=>
  match x.ev e with
  | .pointer none | .nilIface | .nilFunc=>none
  | .func (.method nm) ⟨l⟩ c=>
   match l with
   | [.iface t v]=>if mm.contains (nm,t) then some (.func (.method nm) ⟨[.iface t v]⟩ c) else none
   | _=>none
  | v=>some v
 | .bin op x y=>bin op (x.ev e) (y.ev e)
 | .eqv neg t x y=>(eqv t (x.ev e) (y.ev e)).map fun b=>.bool (b != neg)
 | .un op x=>
  match op,x.ev e with
  | .neg,.int k n=>some (.int k (k.wrap (0 - n)))
  | .xor,.int k n=>bits .xor k (if k.signed then -1 else k.max) n
  | .not,.bool b=>some (.bool !b)
  | _,_=>none
 | .conv k x=>match x.ev e with | .int _ n=>some (.int k (k.wrap n)) | _=>none
 | .convStr x=>match x.ev e with | .string s=>some (.string s) | _=>none
 | .mkI t x=>some (.iface t (x.ev e))
 | .mkF fn first captured=>some (.func fn ⟨evs e first⟩ ⟨evs e captured⟩)
 | .faddr off x=>match x.ev e with | .pointer (some a)=>some (.pointer (some ⟨a.block,a.off + off,none⟩)) | _=>none
 | .field off n x=>match x.ev e with | .agg ⟨cs⟩=>partV n cs off | _=>none
 | .iaddrS esz x i=>
  match x.ev e,i.ev e with
  | .slice (some a) len _,.int _ j=>if 0≤j∧j < len then some (.pointer (some ⟨a.block,a.off + j.toNat * esz,none⟩)) else none
  | _,_=>none
 | .iaddrA esz len x i=>
  match x.ev e,i.ev e with
  | .pointer (some a),.int _ j=>if 0≤j∧j < len then some (.pointer (some ⟨a.block,a.off + j.toNat * esz,none⟩)) else none
  | _,_=>none
 | .idxS x i=>
  match x.ev e,i.ev e with
  | .string s,.int _ j=>if 0≤j then (s[j.toNat]?).map fun b=>.int .u8 b.toNat else none
  | _,_=>none
 | .idxA esz len n x i=>
  match x.ev e,i.ev e with
  | .agg ⟨cs⟩,.int _ j=>if 0≤j∧j < len then partV n cs (j.toNat * esz) else none
  | _,_=>none
 | .slS x lo hi=>
  match x.ev e with
  | .string s=>(bound e s.size s.size hi).bind fun h=>(bound e 0 h lo).map fun l=>.string (s.extract l h)
  | _=>none
 | .ext x i=>match x.ev e with | .tuple ⟨vs⟩=>nthV vs i | _=>none
 | .lenS x=>match x.ev e with | .string s=>some (.int .i64 s.size) | _=>none
 | .lenL x=>match x.ev e with | .slice _ n _=>some (.int .i64 n) | _=>none
 | .lenC n=>some (.int .i64 n)
 | .max x y=>match x.ev e,y.ev e with | .int k a,.int _ b=>some (.int k (if b > a then b else a)) | _,_=>none
 | .min x y=>match x.ev e,y.ev e with | .int k a,.int _ b=>some (.int k (if b < a then b else a)) | _,_=>none
 | .tassert t ok x=>
  match x.ev e,ok with
  | .iface u v,none=>if u=t then some v else none
  | .iface u v,some z=>if u=t then some (.tuple ⟨[v,.bool true]⟩) else some (.tuple ⟨[z,.bool false]⟩)
  | .nilIface,some z=>some (.tuple ⟨[z,.bool false]⟩)
  | _,_=>none
 | .cmpS x y=>match x.ev e,y.ev e with | .string a,.string b=>some (.int .i64 (Extern.BytealgCompare.cmp a b)) | _,_=>none
 | .idxB x c=>match x.ev e,c.ev e with | .string s,.int .u8 b=>some (.int .i64 (match (List.range s.size).find? fun i=>s[i]! == b.toNat.toUInt8 with | some i=>(i:Int) | none=>-1)) | _,_=>none
def findK (kt:EqT) (k:Value):List (Value × Value × Nat)→Nat→Option (Option (Nat × Value))
 | [],_=>some none
 | (k',v,_)::l,i=>
  match eqv kt k k' with
  | some true=>some (some (i,v))
  | some false=>findK kt k l (i + 1)
  | none=>none
def byteOf:Value→Option UInt8
 | .int .u8 n=>if 0≤n∧n < 256 then some (UInt8.ofNat n.toNat) else none
 | _=>none
def bytesOf:List Value→Option (List UInt8)
 | []=>some []
 | v::l=>match byteOf v,bytesOf l with | some b,some r=>some (b::r) | _,_=>none
def evR (e:List Value) (σ:AW):ROp→Option Value
 | .ld x=>match x.ev e with | .pointer (some a)=>σ.rd a | _=>none
 | .ldn n x=>match x.ev e with | .pointer (some a)=>(σ.rdN a n).map fun l=>.agg ⟨l⟩ | _=>none
 | .slV esz x lo hi mx=>
  match x.ev e with
  | .slice a len cap=>
   if len≤cap then
   (bound e cap cap mx).bind fun m=>(bound e len m hi).bind fun h=>(bound e 0 h lo).bind fun l=>
    match a with
    | none=>some (.slice none (h - l) (m - l))
    | some a=>
     if (mx.isNone && (l == 0 || Nat.blt l cap)) || σ.exactAt a.block then
      some (.slice (some (if m=l then a else ⟨a.block,a.off + l * esz,none⟩)) (h - l) (m - l))
     else none
   else none
  | _=>none
 | .slA esz len x lo hi=>
  match x.ev e with
  | .pointer (some a)=>(bound e len len hi).bind fun h=>(bound e 0 h lo).bind fun l=>
   match σ.cells? a.block with
   | some b=>if b.exact then some (.slice (some (if len=l then a else ⟨a.block,a.off + l * esz,none⟩)) (h - l) (len - l)) else none
   | none=>none
  | _=>none
 | .cap x=>
  match x.ev e with
  | .slice none _ c=>some (.int .i64 c)
  | .slice (some a) _ c=>match σ.cells? a.block with | some b=>if b.exact then some (.int .i64 c) else none | none=>none
  | _=>none
 | .lenM x=>
  match x.ev e with
  | .map none=>some (.int .i64 0)
  | .map (some r)=>match σ.heap.get r with | some (.map es _)=>some (.int .i64 es.length) | _=>none
  | _=>none
 | .peq neg x y=>
  match x.ev e,y.ev e with
  | .pointer none,.pointer b=>some (.bool (b.isNone != neg))
  | .pointer (some _),.pointer none=>some (.bool (false != neg))
  | .pointer (some a),.pointer (some b)=>if a.block=b.block then some (.bool ((a.off == b.off) != neg)) else none
  | _,_=>none
 | .lookup kt zero ok x k=>
  let es:=match x.ev e with
   | .map none=>some []
   | .map (some r)=>match σ.heap.get r with | some (.map es _)=>some es | _=>none
   | _=>none
  match es with
  | some es=>
   if keyOK kt (k.ev e) then
    match findK kt (k.ev e) es 0 with
    | some (some (_,v))=>some (if ok then .tuple ⟨[v,.bool true]⟩ else v)
    | some none=>some (if ok then .tuple ⟨[zero,.bool false]⟩ else zero)
    | none=>none
   else none
  | none=>none
 | .b2s x=>
  match x.ev e with
  | .slice none _ _=>some (.string .empty)
  | .slice (some a) n _=>if n=0 then some (.string .empty) else (σ.rdN a n).bind fun l=>(bytesOf l).map fun b=>.string ⟨⟨b⟩⟩
  | _=>none
 | .p2u x=>
  match x.ev e with
  | .pointer none=>some (.pointer none)
  | .pointer (some a)=>match σ.cells? a.block with | some b=>if a.off < b.cs.length then some (.pointer (some a)) else none | none=>none
  | _=>none
 | .u2p t n x=>
  match x.ev e with
  | .pointer none=>some (.pointer none)
  | .pointer (some a)=>match σ.cells? a.block with | some b=>if b.ty=t∧b.exact∧b.cs.length=n∧a.off=0∧¬ b.ro then some (.pointer (some a)) else none | none=>none
  | _=>none
def evN (e:List Value):NOp→Option (Blk × (Nat→Value))
 | .new t esz zero=>some (.cells (newCB t esz zero true []),fun i=>.pointer (some ⟨i,0,none⟩))
 | .box t esz x=>some (.cells (newCB t esz (cellsOf (x.ev e)) true []),fun i=>.pointer (some ⟨i,0,none⟩))
 | .buildSlice t esz len zero parts=>(fillV e zero parts).map fun cs=>(.cells (newCB t esz cs true []),fun i=>.slice (some ⟨i,0,none⟩) len len)
 | .mkSlice t esz bytes zero len cap=>
  match len.ev e,cap.ev e with
  | .int _ l,.int _ c=>
   if 0≤l∧l≤c∧c * bytes≤140737488355328∧c≤140737488355328 then
    some (.cells (newCB t esz (List.replicate c.toNat zero).flatten true []),fun i=>.slice (some ⟨i,0,none⟩) l.toNat c.toNat)
   else none
  | _,_=>none
 | .mkMap=>some (.map [] 0,fun i=>.map (some i))
end Go.Proofs.YtnpoloachkcadaaGreatDoor.Ai
namespace Go.Proofs.YtnpoloachkcadaaGreatDoor.Ai
open Go
inductive IRet where
 | ret (v:Value)
 | pan (chain:List PanicEntry)
structure Ks where
 call:FuncId→List Value→AW→Option (IRet × AW)
 yield:Nat→List Value→AW→Option (IRet × AW)
def callV (K:Ks) (f:Value) (args:List Value) (σ:AW):Option (IRet × AW):=
 match f with
 | .func (.func i) ⟨first⟩ ⟨captured⟩=>K.call i (first++(args++captured)) σ
 | .func (.yield l) ⟨first⟩ _=>K.yield l (first++args) σ
 | _=>none
def appendV (σ:AW) (t:TypeId) (esz bytes:Nat) (s:Value) (new:List Value) (n:Nat):Option (Value × AW):=
 match s with
 | .slice base len cap=>
  if len + n≤cap then
   if n=0 then some (.slice base len cap,σ) else
   match base with
   | some a=>(σ.wrN a.block (a.off + len * esz) new).map fun σ'=>(.slice base (len + n) cap,σ')
   | none=>none
  else if (2 * (len + n) + 768) * bytes > 140737488355328 then none
  else if !allCells new then none
  else
   match base with
   | none=>if len=0 then (σ.push (.cells (newCB t esz new false []))).map fun (i,σ')=>(.slice (some ⟨i,0,none⟩) n n,σ') else none
   | some a=>
    if a.spot.isSome then none else
    match σ.cells? a.block with
    | none=>none
    | some b=>
     match cutV (len * esz) (dropV a.off b.cs) with
     | none=>none
     | some old=>
      if b.exact then (σ.push (.cells (newCB t esz (old++new) false []))).map fun (i,σ')=>(.slice (some ⟨i,0,none⟩) (len + n) (len + n),σ')
      else if b.retired || b.frozen || b.ro || a.off + cap * esz != b.cs.length || esz != b.esz || t != b.ty then none
      else if len=cap then
       ({σ with heap:=σ.heap.set a.block (.cells {b with retired:=true }) }.push (.cells (newCB t esz (old++new) false (a.block::b.al)))).map
        fun (i,σ')=>(.slice (some ⟨i,0,none⟩) (len + n) (len + n),σ')
      else
       ({σ with heap:=killAll (a.block::b.al) σ.heap }.push (.cells (newCB t esz (old++new) false []))).map
        fun (i,σ')=>(.slice (some ⟨i,0,none⟩) (len + n) (len + n),σ')
 | _=>none
def strCells (s:ByteArray):List Value:=s.data.toList.map fun b=>.int .u8 b.toNat
def srcV (σ:AW) (esz:Nat) (x:Value) (n:Nat):Option (List Value):=
 match x with
 | .slice none _ _=>if n=0 then some [] else none
 | .slice (some a) _ _=>if n=0 then some [] else if a.spot.isSome then none else σ.rdN a (n * esz)
 | .string s=>if esz=1∧n≤s.size then some ((strCells s).take n) else none
 | _=>none
def lenV:Value→Option Nat
 | .slice _ n _=>some n
 | .string s=>some s.size
 | _=>none
def setAt (es:List (Value × Value × Nat)) (i:Nat) (k v:Value):List (Value × Value × Nat):=
 match es,i with
 | [],_=>[]
 | (_,_,c)::l,0=>(k,v,c)::l
 | x::l,i + 1=>x::setAt l i k v
def delAt (es:List (Value × Value × Nat)) (i:Nat):List (Value × Value × Nat):=
 match es,i with
 | [],_=>[]
 | _::l,0=>l
 | x::l,i + 1=>x::delAt l i
def sameK:Value→Value→Bool
 | .bool a,.bool b=>a == b
 | .int j a,.int k b=>j == k && a == b
 | .string a,.string b=>a == b
 | .agg ⟨a⟩,.agg ⟨b⟩=>sameKs a b
 | _,_=>false
where sameKs:List Value→List Value→Bool
 | [],[]=>true
 | .bool x::a,.bool y::b=>x == y && sameKs a b
 | .int j x::a,.int k y::b=>j == k && x == y && sameKs a b
 | .string x::a,.string y::b=>x == y && sameKs a b
 | _,_=>false
def sameAt (es:List (Value × Value × Nat)) (i:Nat) (k:Value):Bool:=
 match es,i with
 | [],_=>false
 | (k',_,_)::_,0=>sameK k' k
 | _::l,i + 1=>sameAt l i k
def bornAt (es:List (Value × Value × Nat)) (i:Nat):Nat:=
 match es,i with
 | [],_=>0
 | (_,_,c)::_,0=>c
 | _::l,i + 1=>bornAt l i
def findB (b:Int):List (Value × Value × Nat)→Nat→Option (Nat × Value)
 | [],_=>none
 | (k,_,c)::l,i=>if (c:Int) == b then some (i,k) else findB b l (i + 1)
def runE (K:Ks) (e:List Value) (σ:AW):EOp→Option (IRet × AW)
 | .st n a x=>
  match a.ev e with
  | .pointer (some a)=>
   let v:=cellsOf (x.ev e)
   if v.length=n then (σ.wrN a.block a.off v).map fun σ'=>(.ret undef,σ') else none
  | _=>none
 | .append t esz bytes _ s x=>
  let x:=x.ev e
  match lenV x with
  | some n=>(srcV σ esz x n).bind fun new=>(appendV σ t esz bytes (s.ev e) new n).map fun (v,σ')=>(.ret v,σ')
  | none=>none
 | .appendZ t esz bytes zero s n=>
  match n.ev e with
  | .int _ l=>
   let l:=IntKind.i64.wrap l
   if 0≤l∧l≤140737488355328∧l * bytes≤140737488355328 then (appendV σ t esz bytes (s.ev e) (List.replicate l.toNat zero).flatten l.toNat).map fun (v,σ')=>(.ret v,σ') else none
  | _=>none
 | .copy esz d s=>
  match d.ev e with
  | .slice base dl _=>
   let s:=s.ev e
   match lenV s with
   | some n=>
    let n:=Nat.min n dl
    (srcV σ esz s n).bind fun cs=>
     match base with
     | some a=>if a.spot.isSome then none else (σ.wrN a.block a.off cs).map fun σ'=>(.ret (.int .i64 n),σ')
     | none=>some (.ret (.int .i64 n),σ)
   | none=>none
  | _=>none
 | .mapUpd kt m k v=>
  match m.ev e with
  | .map (some r)=>
   match σ.heap.get r with
   | some (.map es clock)=>
    if keyOK kt (k.ev e) then
     match findK kt (k.ev e) es 0 with
     | some (some (i,_))=>
      if sameAt es i (k.ev e) then some (.ret undef,{σ with heap:=σ.heap.set r (.map (setAt es i (k.ev e) (v.ev e)) clock) }) else none
     | some none=>some (.ret undef,{σ with heap:=σ.heap.set r (.map (es++[(k.ev e,v.ev e,clock)]) (clock + 1)) })
     | none=>none
    else none
   | _=>none
  | _=>none
 | .mapEnt kt zero m k=>
  match m.ev e with
  | .map (some r)=>
   match σ.heap.get r with
   | some (.map es clock)=>
    if keyOK kt (k.ev e) then
     match findK kt (k.ev e) es 0 with
     | some (some (i,v))=>
      if sameAt es i (k.ev e) then some (.ret (.tuple ⟨[v,.int .i64 (bornAt es i)]⟩),{σ with heap:=σ.heap.set r (.map (setAt es i (k.ev e) v) clock) }) else none
     | some none=>some (.ret (.tuple ⟨[zero,.int .i64 clock]⟩),{σ with heap:=σ.heap.set r (.map (es++[(k.ev e,zero,clock)]) (clock + 1)) })
     | none=>none
    else none
   | _=>none
  | _=>none
 | .entSt m s x=>
  match m.ev e,s.ev e with
  | .map (some r),.int _ b=>
   match σ.heap.get r with
   | some (.map es clock)=>
    match findB b es 0 with
    | some (i,k)=>some (.ret undef,{σ with heap:=σ.heap.set r (.map (setAt es i k (x.ev e)) clock) })
    | none=>none
   | _=>none
  | _,_=>none
 | .delete kt m k=>
  match m.ev e with
  | .map (some r)=>
   match σ.heap.get r with
   | some (.map es clock)=>
    if keyOK kt (k.ev e) then
     match findK kt (k.ev e) es 0 with
     | some (some (i,_))=>some (.ret (.tuple ⟨[]⟩),{σ with heap:=σ.heap.set r (.map (delAt es i) clock) })
     | some none=>some (.ret (.tuple ⟨[]⟩),{σ with heap:=σ.heap.set r (.map es clock) })
     | none=>none
    else none
   | _=>none
  | _=>none
 | .clear zero x=>
  match x.ev e with
  | .slice none _ _=>some (.ret (.tuple ⟨[]⟩),σ)
  | .slice (some a) n _=>if n=0 then some (.ret (.tuple ⟨[]⟩),σ) else (σ.wrN a.block a.off (List.replicate n zero).flatten).map fun σ'=>(.ret (.tuple ⟨[]⟩),σ')
  | _=>none
 | .s2b t x=>
  match x.ev e with
  | .string s=>(σ.push (.cells (newCB t 1 (strCells s) false []))).map fun (i,σ')=>(.ret (.slice (some ⟨i,0,none⟩) s.size s.size),σ')
  | _=>none
 | .sdata x=>
  match x.ev e with
  | .slice none _ _=>some (.ret (.pointer none),σ)
  | .slice (some a) _ c=>if c=0 then none else some (.ret (.pointer (some a)),σ)
  | _=>none
 | .ustr t x n=>
  match x.ev e,n.ev e with
  | .pointer p,.int _ n=>
   if n=0 then some (.ret (.string .empty),σ)
   else if n < 0∨n > 140737488355328 then none
   else match p with
    | some a=>
     match σ.cells? a.block,σ.rdN a n.toNat with
     | some b,some l=>
      if b.ro || b.retired || b.ty != t then none else (bytesOf l).map fun l=>(.ret (.string ⟨⟨l⟩⟩),{σ with heap:=(killAll b.al σ.heap).set a.block (.cells {b with frozen:=true,al:=[] }) })
     | _,_=>none
    | none=>none
  | _,_=>none
 | .range x=>
  match x.ev e with
  | .string s=>(σ.push (.strIter s 0)).map fun (i,σ')=>(.ret (.pointer (some ⟨i,0,none⟩)),σ')
  | _=>none
 | .next x=>
  match x.ev e with
  | .pointer (some ⟨r,0,none⟩)=>
   match σ.heap.get r with
   | some (.strIter s pos)=>
    if pos < s.size then
     let (c,width):=Utf8.decode s pos
     some (.ret (.tuple ⟨[.bool true,.int .i64 pos,.int .i32 c]⟩),{σ with heap:=σ.heap.set r (.strIter s (pos + width)) })
    else some (.ret (.tuple ⟨[.bool false]⟩),σ)
   | _=>none
  | _=>none
 | .call f args=>K.call f (evs e args) σ
 | .callv f args=>callV K (f.ev e) (evs e args) σ
 | .invoke ms x args=>
  match x.ev e with
  | .iface t v=>
   match ms.lookup t with
   | some f=>K.call f (v::evs e args) σ
   | none=>none
  | _=>none
 | .panic _=>none
def IOper.wanted (o:IOper) (e:List Value):Bool:=
 match o.guard with
 | none=>true
 | some (j,want)=>match getV e j with | .bool b=>b == want | _=>false
def put (e:List Value) (d:Option Nat) (v:Value):List Value:=
 match d with
 | some d=>setV e d v
 | none=>e
def runOp (K:Ks) (i:Nat) (e:List Value) (σ:AW):IOp→Option (IRet × AW)
 | .p o=>(evP e o).map fun v=>(.ret v,σ)
 | .r o=>(evR e σ o).map fun v=>(.ret v,σ)
 | .n o=>(evN e o).bind fun (b,f)=>if i < most i then some (.ret (f i),{next:=Nat.max σ.next (i + 1),heap:=σ.heap.set i b }) else none
 | .e o=>runE K e σ o
 | .bad=>none
def runOps (K:Ks):List IOper→List Value→AW→Option (IExit × List Value × AW)
 | [],e,σ=>some (.normal,e,σ)
 | o::l,e,σ=>
  if o.wanted e then
   match runOp K σ.next e σ o.op with
   | some (.ret v,σ')=>runOps K l (put e o.dst v) σ'
   | some (.pan _,_)=>none
   | none=>none
  else runOps K l (put e o.dst undef) σ
def beq0:Value→Value→Bool
 | .bool a,.bool b=>a == b
 | .int j a,.int k b=>j == k && a == b
 | .string a,.string b=>a.data.toList == b.data.toList
 | .pointer none,.pointer none=>true
 | .pointer (some a),.pointer (some b)=>a == b
 | .slice none a b,.slice none c d=>a == c && b == d
 | .slice (some x) a b,.slice (some y) c d=>x == y && a == c && b == d
 | .map a,.map b=>a == b
 | .nilFunc,.nilFunc=>true
 | .nilIface,.nilIface=>true
 | _,_=>false
def beq0s:List Value→List Value→Bool
 | [],[]=>true
 | x::a,y::b=>beq0 x y && beq0s a b
 | _,_=>false
def beq1:Value→Value→Bool
 | .func (.func f) ⟨a⟩ ⟨b⟩,.func (.func g) ⟨c⟩ ⟨d⟩=>f == g && beq0s a c && beq0s b d
 | .iface t a,.iface u b=>t == u && beq0 a b
 | a,b=>beq0 a b
def beqs:List Value→List Value→Bool
 | [],[]=>true
 | x::a,y::b=>beq1 x y && beqs a b
 | _,_=>false
def beqV:Value→Value→Bool
 | .agg ⟨a⟩,.agg ⟨b⟩=>beqs a b
 | .tuple ⟨a⟩,.tuple ⟨b⟩=>beqs a b
 | a,b=>beq1 a b
def nthO:List IOper→Nat→Option IOper
 | [],_=>none
 | v::_,0=>some v
 | _::l,n + 1=>nthO l n
def chkR (l:List IOper) (e:List Value) (σ:AW):List Nat→Bool
 | []=>true
 | i::is=>
  (match nthO l i with
   | some o=>
    if o.wanted e then
     match o.op,o.dst with
     | .r r,some d=>match evR e σ r with | some v=>beqV v (getV e d) | none=>false
     | _,_=>false
    else true
   | none=>false) && chkR l e σ is
def runX (l:List IOper) (β:AW):List Nat→List Value→AW→Option (List Value × AW)
 | [],e,σ=>some (e,σ)
 | i::xs,e,σ=>
  match nthO l i with
  | none=>none
  | some o=>
   if o.wanted e then
    match o.op with
    | .p q=>match evP e q with | some v=>runX l β xs (put e o.dst v) σ | none=>none
    | .r q=>match evR e β q with | some v=>runX l β xs (put e o.dst v) σ | none=>none
    | .n q=>
     match evN e q with
     | some (b,f)=>if σ.next < most σ.next then runX l β xs (put e o.dst (f σ.next)) {next:=σ.next + 1,heap:=σ.heap.set σ.next b } else none
     | none=>none
    | _=>none
   else runX l β xs (put e o.dst undef) σ
def runDraw (K:Ks) (l:List IOper) (fin:DStage):List DStage→List Value→AW→Option (List Value × AW)
 | [],e,β=>if chkR l e β fin.chk then runX l β fin.xs e β else none
 | s::st,e,β=>
  if chkR l e β s.chk then
   match runX l β s.xs e β with
   | some (e1,γ)=>
    match nthO l s.e with
    | some o=>
     if o.wanted e1 then
      match o.op with
      | .e q=>match runE K e1 γ q with | some (.ret v,β')=>runDraw K l fin st (put e1 o.dst v) β' | _=>none
      | _=>none
     else runDraw K l fin st (put e1 o.dst undef) γ
    | none=>none
   | none=>none
  else none
structure Fr where
 tmps:List Value
 dfs:List Nat
def loopN (body:Fr→AW→Option (IExit × Fr × AW)):Nat→Fr→AW→Option (IExit × Fr × AW)
 | 0,_,_=>none
 | n + 1,e,σ=>
  match body e σ with
  | some (.normal,e',σ')=>loopN body n e' σ'
  | r=>r
def setLoop (σ:AW) (l:Nat) (r:ALoop):AW:={σ with heap:=σ.heap.set l (.loop r) }
def startOf (rnd:Option Nat) (σ:AW):Option (Nat × List Nat × AW):=
 match rnd with
 | some l=>match σ.heap.get l with | some (.loop r)=>some (r.defers,[],σ) | _=>none
 | none=>(σ.push (.deferred false)).map fun (i,σ')=>(i,[i],σ')
def evC (K:Ks) (fuel:Nat) (rnd:Option Nat):ICode→Fr→AW→Option (IExit × Fr × AW)
 | .skip,e,σ=>some (.normal,e,σ)
 | .ops l,e,σ=>(runOps K l e.tmps σ).map fun (x,t,σ')=>(x,{e with tmps:=t },σ')
 | .draw l st fin,e,σ=>(runDraw K l fin st e.tmps σ).map fun (t,σ')=>(.normal,{e with tmps:=t },σ')
 | .seq a b,e,σ=>
  match evC K fuel rnd a e σ with
  | some (.normal,e',σ')=>evC K fuel rnd b e' σ'
  | r=>r
 | .cond c a b,e,σ=>
  match c.ev e.tmps with
  | .bool true=>evC K fuel rnd a e σ
  | .bool false=>evC K fuel rnd b e σ
  | _=>none
 | .block id b,e,σ=>
  match evC K fuel rnd b e σ with
  | some (.exit i,e',σ')=>some (if i=id then .normal else .exit i,e',σ')
  | r=>r
 | .loop b,e,σ=>loopN (evC K fuel rnd b) fuel e σ
 | .rangeF f params assign body,e,σ=>
  (startOf rnd σ).bind fun (d,m,σ)=>
   (σ.push (.loop {state:=.ready,pending:=none,tmps:=e.tmps,params,assign,body,defers:=d })).bind fun (l,σ)=>
    match callV K (f.ev e.tmps) [.func (.yield l) #[] #[]] σ with
    | some (.ret _,σ)=>
     match σ.heap.get l with
     | some (.loop r)=>
      if r.state == .busy then none else
      some (match r.pending with | some (.exit i)=>.exit i | some .ret=>.ret | _=>.normal,{e with dfs:=m++e.dfs },setLoop σ l {r with state:=.exhausted })
     | _=>none
    | _=>none
 | .exit id,e,σ=>some (.exit id,e,σ)
 | .ret,e,σ=>some (.ret,e,σ)
 | .bad,_,_=>none
def runDfs:List Nat→AW→Option AW
 | [],σ=>some σ
 | d::l,σ=>match σ.heap.get d with | some (.deferred false)=>runDfs l {σ with heap:=σ.heap.set d (.deferred true) } | _=>none
def resV (e:List Value) (σ:AW):IRes→Option Value
 | .tmp t=>some (getV e t)
 | .cell t n=>
  match getV e t with
  | .pointer (some a)=>match n with | some n=>(σ.rdN a n).map fun l=>.agg ⟨l⟩ | none=>σ.rd a
  | _=>none
def resVs (e:List Value) (σ:AW):List IRes→Option (List Value)
 | []=>some []
 | r::l=>match resV e σ r,resVs e σ l with | some v,some vs=>some (v::vs) | _,_=>none
def tupleOf:List Value→Value
 | [v]=>v
 | l=>.tuple ⟨l⟩
def callF (K:Ks) (C:Tr IFunc) (fuel:Nat) (f:FuncId) (args:List Value) (σ:AW):Option (IRet × AW):=
 match C.get f with
 | none=>none
 | some fn=>
  match evC K fuel none fn.body {tmps:=args++List.replicate (fn.ntmps - args.length) undef,dfs:=[] } σ with
  | some (.normal,e,σ) | some (.ret,e,σ)=>(runDfs e.dfs σ).bind fun σ=>(resVs e.tmps σ fn.results).map fun vs=>(.ret (tupleOf vs),σ)
  | _=>none
def setParams:List Value→List Nat→List Value→Option (List Value)
 | e,[],[]=>some e
 | e,p::ps,v::vs=>setParams (setV e p v) ps vs
 | _,_,_=>none
def yieldF (K:Ks) (fuel:Nat) (l:Nat) (args:List Value) (σ:AW):Option (IRet × AW):=
 match σ.heap.get l with
 | some (.loop r0)=>
  (setParams r0.tmps r0.params args).bind fun e=>
   match evC K fuel (some l) r0.assign {tmps:=e,dfs:=[] } σ with
   | some (.normal,e,σ)=>
    match σ.heap.get l with
    | some (.loop r)=>
     if r.state == .ready then
      match evC K fuel (some l) r0.body e (setLoop σ l {r with state:=.busy,pending:=r.pending }) with
      | some (x,_,σ)=>
       match σ.heap.get l with
       | some (.loop r)=>
        match x with
        | .normal=>some (.ret (.bool true),setLoop σ l {r with state:=.ready,pending:=none })
        | .exit i=>some (.ret (.bool false),setLoop σ l {r with state:=.done,pending:=some (.exit i) })
        | .ret=>some (.ret (.bool false),setLoop σ l {r with state:=.done,pending:=some .ret })
        | _=>none
       | _=>none
      | none=>none
     else none
    | _=>none
   | _=>none
 | _=>none
def ksN (C:Tr IFunc):Nat→Ks
 | 0=>{call:=fun _ _ _=>none,yield:=fun _ _ _=>none }
 | n + 1=>{call:=callF (ksN C n) C n,yield:=yieldF (ksN C n) n }
end Go.Proofs.YtnpoloachkcadaaGreatDoor.Ai
namespace Go.Proofs.YtnpoloachkcadaaGreatDoor.Ai
open Go
set_option linter.unusedVariables false
def cOpd:Operand→Opd
 | .tmp t=>.t t
 | .const v=>.c v
 | .global g=>.g g
 | .func f=>.c (.func (.func f) #[] #[])
def okOpd (ng:Nat):Operand→Bool
 | .const v=>lt 0 v
 | .global g=>decide (g < ng)
 | _=>true
def szOf (P:Program) (t:TypeId):Option Nat:=(P.info? t).map (·.size)
def aggOf (P:Program) (t:TypeId):Option Bool:=(P.underlying t).map fun d=>match d with | .struct _ | .array _ _=>true | _=>false
def partOf (P:Program) (t:TypeId):Option (Option Nat):=
 match aggOf P t,szOf P t with
 | some true,some n=>some (some n)
 | some false,some 1=>some none
 | _,_=>none
def zeroOf (P:Program) (t:TypeId):Option Value:=
 match P.info? t with
 | some i=>match i.zero with | some v=>if lt 0 v then some v else none | none=>none
 | none=>none
def zeroCells (P:Program) (t:TypeId):Option (List Value):=
 match zeroOf P t,szOf P t with
 | some v,some n=>if (cellsOf v).length=n && allCells (cellsOf v) then some (cellsOf v) else none
 | _,_=>none
def cEq (P:Program):Nat→TypeId→Option EqT
 | 0,_=>none
 | d + 1,t=>
  match P.underlying t with
  | some .bool=>some .bool
  | some (.int _)=>some .int
  | some .string=>some .str
  | some (.interface _)=>some .iface
  | some (.struct fs)=>
   if P.stoodInHeld t then none else
   (fs.toList.mapM fun f=>if f.name = "_" then none else do
    let n ← partOf P f.type
    let e ← cEq P d f.type
    pure (f.offset,n,e)).map EqT.strct
  | _=>none
def cFlat (P:Program) (t:TypeId):Option EqT:=
 match P.underlying t with
 | some .bool=>some .bool
 | some (.int _)=>some .int
 | some .string=>some .str
 | _=>none
def cFields (P:Program):List Field→Option (List (Nat × Option Nat × EqT))
 | []=>some []
 | f::fs=>
  if f.name = "_" then none else
  match partOf P f.type,cFlat P f.type,cFields P fs with
  | some n,some q,some r=>some ((f.offset,n,q)::r)
  | _,_,_=>none
def cKey (P:Program) (t:TypeId):Option EqT:=
 match cFlat P t with
 | some q=>some q
 | none=>
  match P.underlying t with
  | some (.struct fs)=>if P.stoodInHeld t || P.eqGuardType P.depth t then none else (cFields P fs.toList).map .strct
  | _=>none
def flatEq:EqT→Bool
 | .bool | .int | .str=>true
 | .strct fs=>fs.all fun x=>match x.2.2 with | .bool | .int | .str=>true | _=>false
 | _=>false
def cParts (fs:List (Nat × Nat)) (parts:Array (Nat × Operand)):Option (List (Nat × Nat × Opd)):=
 parts.toList.mapM fun (i,x)=>(fs[i]?).map fun (off,n)=>(off,n,cOpd x)
def cBuiltin (P:Program) (b:Builtin) (args:List Operand) (ts:List TypeId):Option IOp:=
 match b,args,ts with
 | .len,[x],[t]=>
  match P.underlying t with
  | some .string=>some (.p (.lenS (cOpd x)))
  | some (.slice _)=>some (.p (.lenL (cOpd x)))
  | some (.array n _)=>some (.p (.lenC n))
  | some (.map _ _)=>some (.r (.lenM (cOpd x)))
  | some (.pointer a)=>match P.underlying a with | some (.array n _)=>some (.p (.lenC n)) | _=>none
  | _=>none
 | .cap,[x],[t]=>match P.underlying t with | some (.slice _)=>some (.r (.cap (cOpd x))) | _=>none
 | .max,[x,y],_=>some (.p (.max (cOpd x) (cOpd y)))
 | .min,[x,y],_=>some (.p (.min (cOpd x) (cOpd y)))
 | .append,[s,x],[t,u]=>
  match P.underlying t with
  | some (.slice el)=>
   match zeroCells P el,P.info? el,P.underlying u with
   | some z,some i,some (.int _)=>if z.length=0 || i.bytes=0 then none else some (.e (.appendZ el z.length i.bytes z (cOpd s) (cOpd x)))
   | some z,some i,some .string=>if z.length=1 && i.bytes=1 then some (.e (.append el 1 1 z (cOpd s) (cOpd x))) else none
   | some z,some i,some (.slice _)=>if z.length=0 || i.bytes=0 then none else some (.e (.append el z.length i.bytes z (cOpd s) (cOpd x)))
   | _,_,_=>none
  | _=>none
 | .copy,[d,s],[t,_]=>
  match P.underlying t with
  | some (.slice el)=>match zeroCells P el with | some z=>if z.length=0 then none else some (.e (.copy z.length (cOpd d) (cOpd s))) | none=>none
  | _=>none
 | .delete,[m,k],[t,_]=>
  match P.underlying t with
  | some (.map _ _)=>none
  | _=>none
 | .clear,[x],[t]=>
  match P.underlying t with
  | some (.slice el)=>match zeroCells P el with | some z=>if z.length=0 then none else some (.e (.clear z (cOpd x))) | none=>none
  | _=>none
 | .panic,[x],_=>some (.e (.panic (cOpd x)))
 | .unsafeSliceData,[x],_=>some (.e (.sdata (cOpd x)))
 | .unsafeString,[x,n],t::_=>
  match P.underlying t with
  | some (.pointer el)=>match P.underlying el with | some (.int .u8)=>if szOf P el=some 1 then some (.e (.ustr el (cOpd x) (cOpd n))) else none | _=>none
  | _=>none
 | _,_,_=>none
def cMethods (P:Program) (name:String) (ts:List TypeId):List (TypeId × FuncId):=
 ts.filterMap fun t=>
  match P.info? t with
  | some i=>
   match i.methods.find? (·.name == name) with
   | some m=>match m.path.isEmpty,m.func with
    | true,some (f,true)=>(match P.underlying t with | some (.pointer _)=>some (t,f) | _=>none)
    | true,some (f,false)=>(match P.underlying t with | some (.pointer _)=>none | some _=>some (t,f) | none=>none)
    | _,_=>none
   | none=>none
  | none=>none
def cNames (P:Program) (ts:List TypeId):List (String × TypeId):=
 ts.flatMap fun t=>
  match P.info? t with
  | some i=>i.methods.toList.filterMap fun m=>if ((cMethods P m.name [t]).lookup t).isSome then some (m.name,t) else none
  | none=>[]
def isConst:Operand→Bool
 | .const _=>true
 | _=>false
def cIfaces (P:Program) (ts:List TypeId):List (TypeId × EqT):=
 ts.filterMap fun t=>
  match P.info? t,cFlat P t with
  | some i,some q=>if i.comparable then some (t,q) else none
  | _,_=>none
def cEqOp (P:Program) (ts:List TypeId) (op:BinOp) (t:TypeId) (d:TypeDesc) (x y:Operand):Option IOp:=
 match d with
 | .struct _=>(cKey P t).map fun q=>.p (.eqv (isNeq op) q (cOpd x) (cOpd y))
 | .pointer el=>if (szOf P el).any (· ≠ 0) then some (.r (.peq (isNeq op) (cOpd x) (cOpd y))) else none
 | .slice _=>some (.p (.eqv (isNeq op) .nilS (cOpd x) (cOpd y)))
 | .map _ _=>some (.p (.eqv (isNeq op) .nilM (cOpd x) (cOpd y)))
 | .func _ _ _=>some (.p (.eqv (isNeq op) .nilF (cOpd x) (cOpd y)))
 | .interface _=>some (.p (.eqv (isNeq op) (if isConst x || isConst y then .ifaceN else if (cIfaces P ts).isEmpty then .iface else .ifaceT (cIfaces P ts)) (cOpd x) (cOpd y)))
 | .bool=>some (.p (.eqv (isNeq op) .bool (cOpd x) (cOpd y)))
 | _=>none
def cOp (P:Program) (ts:List TypeId) (op:Op):Option IOp:=
 match op with
 | .move x | .assign x=>some (.p (.mov (cOpd x)))
 | .pick c a b=>some (.p (.pick (cOpd c) (cOpd a) (cOpd b)))
 | .alloc t=>match zeroCells P t with | some z=>some (.n (.new t z.length z)) | none=>none
 | .box t x=>match szOf P t with | some n=>some (.n (.box t n (cOpd x))) | none=>none
 | .build t parts=>
  match P.underlying t,zeroCells P t with
  | some (.struct fs),some z=>do
   let ns ← fs.toList.mapM fun f=>(szOf P f.type).map fun n=>(f.offset,n)
   let ps ← cParts ns parts
   if ps.all (fun q=>q.2.1 != 0) then pure (.p (.build z ps)) else none
  | some (.array len el),some z=>do
   let n ← szOf P el
   let ps ← parts.toList.mapM fun (i,x)=>if i < len then some (i * n,n,cOpd x) else none
   if n != 0 then pure (.p (.build z ps)) else none
  | _,_=>none
 | .buildSlice t len parts=>
  match P.underlying t with
  | some (.slice el)=>do
   let z ← zeroCells P el
   if z.length=0∨len * z.length > 16777216 then none else
   let ps ← parts.toList.mapM fun (i,x)=>if i < len then some (i * z.length,z.length,cOpd x) else none
   pure (.n (.buildSlice el z.length len (List.replicate len z).flatten ps))
  | _=>none
 | .load t x=>match partOf P t with | some none=>some (.r (.ld (cOpd x))) | some (some n)=>some (.r (.ldn n (cOpd x))) | none=>none
 | .store t a x=>match szOf P t with | some n=>some (.e (.st n (cOpd a) (cOpd x))) | none=>none
 | .nilCheck x=>some (.p (.nilchk (cNames P ts) (cOpd x)))
 | .binOp op t x y _=>
  match P.underlying t with
  | some (.int _) | some .string=>some (.p (.bin op (cOpd x) (cOpd y)))
  | some d=>
   match op with
   | .eql | .neq=>cEqOp P ts op t d x y
   | _=>none
  | none=>none
 | .unOp op _ x=>some (.p (.un op (cOpd x)))
 | .convert src dst x=>
  match P.underlying src,P.underlying dst with
  | some (.int _),some (.int k)=>some (.p (.conv k (cOpd x)))
  | some .string,some .string=>some (.p (.convStr (cOpd x)))
  | some .string,some (.slice el)=>match P.underlying el,zeroCells P el with | some (.int .u8),some [.int .u8 0]=>some (.e (.s2b el (cOpd x))) | _,_=>none
  | some (.slice el),some .string=>match P.underlying el with | some (.int .u8)=>if szOf P el=some 1 then some (.r (.b2s (cOpd x))) else none | _=>none
  | some (.pointer el),some .unsafePointer=>if (szOf P el).any (· ≠ 0) then some (.r (.p2u (cOpd x))) else none
  | some .unsafePointer,some (.pointer el)=>match szOf P el with | some (n + 1)=>if liesAt P P.depth el 1 0 el 1 then some (.r (.u2p el (n + 1) (cOpd x))) else none | _=>none
  | _,_=>none
 | .makeInterface t x=>match P.underlying t with | some (.interface _)=>none | some _=>some (.p (.mkI t (cOpd x))) | none=>none
 | .makeFunc fn first captured=>match fn with | .func _ | .method _=>some (.p (.mkF fn (first.toList.map cOpd) (captured.toList.map cOpd))) | _=>none
 | .makeMap _ none=>some (.n .mkMap)
 | .makeSlice t l c=>
  match P.underlying t with
  | some (.slice el)=>match zeroCells P el,P.info? el with | some z,some i=>if z.length=0 then none else some (.n (.mkSlice el z.length i.bytes z (cOpd l) (cOpd c))) | _,_=>none
  | _=>none
 | .slice t x lo hi mx=>
  match P.underlying t,mx with
  | some .string,none=>some (.p (.slS (cOpd x) (lo.map cOpd) (hi.map cOpd)))
  | some (.slice el),_=>match szOf P el with | some n=>if n=0 || (mx.isSome && hi.isNone) then none else some (.r (.slV n (cOpd x) (lo.map cOpd) (hi.map cOpd) (mx.map cOpd))) | none=>none
  | some (.array len el),none=>match szOf P el with | some n=>some (.r (.slA n len (cOpd x) (lo.map cOpd) (hi.map cOpd))) | none=>none
  | _,_=>none
 | .fieldAddr t x f=>
  match P.underlying t with
  | some (.struct fs)=>match fs[f]? with | some fl=>(match szOf P fl.type with | some (_ + 1)=>some (.p (.faddr fl.offset (cOpd x))) | _=>none) | none=>none
  | _=>none
 | .field t x f=>
  match P.underlying t with
  | some (.struct fs)=>match fs[f]? with | some fl=>(partOf P fl.type).map fun n=>.p (.field fl.offset n (cOpd x)) | none=>none
  | _=>none
 | .indexAddr t x i=>
  match P.underlying t with
  | some (.slice el)=>(szOf P el).map fun n=>.p (.iaddrS n (cOpd x) (cOpd i))
  | some (.array len el)=>(szOf P el).map fun n=>.p (.iaddrA n len (cOpd x) (cOpd i))
  | _=>none
 | .index t x i=>
  match P.underlying t with
  | some .string=>some (.p (.idxS (cOpd x) (cOpd i)))
  | some (.array len el)=>match szOf P el,partOf P el with | some n,some p=>some (.p (.idxA n len p (cOpd x) (cOpd i))) | _,_=>none
  | _=>none
 | .lookup t x i ok=>
  match P.underlying t with
  | some (.map kt el)=>match cKey P kt,zeroOf P el with | some q,some z=>some (.r (.lookup q z ok (cOpd x) (cOpd i))) | _,_=>none
  | _=>none
 | .mapUpdate t m k v | .insert t m k v=>
  match P.underlying t with
  | some (.map kt _)=>(cKey P kt).map fun q=>.e (.mapUpd q (cOpd m) (cOpd k) (cOpd v))
  | _=>none
 | .mapEntry t m k=>
  match P.underlying t with
  | some (.map kt el)=>match cKey P kt,zeroOf P el with | some q,some z=>some (.e (.mapEnt q z (cOpd m) (cOpd k))) | _,_=>none
  | _=>none
 | .entryStore _ m s x=>some (.e (.entSt (cOpd m) (cOpd s) (cOpd x)))
 | .typeAssert x _ t ok=>
  match P.underlying t with
  | some (.interface _)=>none
  | some _=>if ok then (zeroOf P t).map fun z=>.p (.tassert t (some z) (cOpd x)) else some (.p (.tassert t none (cOpd x)))
  | none=>none
 | .extract x i=>some (.p (.ext (cOpd x) i))
 | .call c=>
  match c.callee with
  | .builtin b=>cBuiltin P b c.args.toList c.argTypes.toList
  | .value (.func f)=>
   match P.funcs[f]? with
   | some fn=>
    match fn.body,c.args.toList with
    | none,[x]=>if fn.name = "internal/abi.NoEscape" ∧ fn.origin = "" then some (.p (.mov (cOpd x))) else none
    | none,[x,y]=>if fn.name = "internal/bytealg.abigen_runtime_cmpstring" ∧ fn.origin = "" then some (.p (.cmpS (cOpd x) (cOpd y))) else if fn.name = "internal/bytealg.IndexByteString" ∧ fn.origin = "" then some (.p (.idxB (cOpd x) (cOpd y))) else none
    | none,_=>none
    | some _,_=>some (.e (.call f (c.args.toList.map cOpd)))
   | none=>none
  | .value f=>some (.e (.callv (cOpd f) (c.args.toList.map cOpd)))
  | .invoke x name=>some (.e (.invoke (cMethods P name ts) (cOpd x) (c.args.toList.map cOpd)))
 | .panic x=>some (.e (.panic (cOpd x)))
 | _=>none
def cGuard (ops:Array Oper):Option (Nat × Bool)→Option (Option (Nat × Bool))
 | none=>some none
 | some (j,w)=>match (ops[j]?).bind (·.dst) with | some d=>some (some (d,w)) | none=>none
def okOp (ng:Nat) (op:Op):Bool:=op.operands.all (okOpd ng)
def cOper (P:Program) (ng:Nat) (ts:List TypeId) (ops:Array Oper) (o:Oper):Option IOper:=
 match cGuard ops o.guard with
 | some g=>some {dst:=o.dst,op:=if okOp ng o.op then (cOp P ts o.op).getD .bad else .bad,guard:=g }
 | none=>none
def cOps (P:Program) (ng:Nat) (ts:List TypeId) (ops:Array Oper):List Oper→Option (List IOper)
 | []=>some []
 | o::l=>match cOper P ng ts ops o,cOps P ng ts ops l with | some o,some l=>some (o::l) | _,_=>none
def isE:IOp→Bool | .e _=>true | _=>false
def isN:IOp→Bool | .n _=>true | _=>false
def isR:IOp→Bool | .r _=>true | _=>false
def nthN:List Nat→Nat→Nat
 | [],_=>0
 | v::_,0=>v
 | _::l,n + 1=>nthN l n
def subMask (a b:Nat):Bool:=a &&& b == a
def firstOf (kind:Nat→IOp→Bool) (bf:List Nat) (done:Nat):Nat→List IOper→Option Nat
 | _,[]=>none
 | i,o::l=>if !done.testBit i && kind i o.op && subMask (nthN bf i) done then some i else firstOf kind bf done (i + 1) l
def nextE (done:Nat):Nat→List IOper→Option Nat
 | _,[]=>none
 | i,o::l=>if !done.testBit i && isE o.op then some i else nextE done (i + 1) l
def chkOf (done barred:Nat):Nat→List IOper→List Nat
 | _,[]=>[]
 | i,o::l=>if done.testBit i && isR o.op && !barred.testBit i then i::chkOf done barred (i + 1) l else chkOf done barred (i + 1) l
def sched (l:List IOper) (bf:List Nat):Nat→Nat→List Nat→List Nat→List DStage × DStage
 | 0,_,chk,xs=>([],⟨chk,xs.reverse,0⟩)
 | k + 1,done,chk,xs=>
  match firstOf (fun _ o=>!isE o && !isN o) bf done 0 l with
  | some i=>sched l bf k (done ||| 2 ^ i) chk (i::xs)
  | none=>
   match nextE done 0 l with
   | some e=>
    if subMask (nthN bf e) done then
     let r:=sched l bf k (done ||| 2 ^ e) (chkOf done (nthN bf e) 0 l) []
     (⟨chk,xs.reverse,e⟩::r.1,r.2)
    else
     match firstOf (fun i o=>isN o && (nthN bf e).testBit i) bf done 0 l with
     | some i=>sched l bf k (done ||| 2 ^ i) chk (i::xs)
     | none=>([],⟨chk,xs.reverse,0⟩)
   | none=>
    match firstOf (fun _ o=>isN o) bf done 0 l with
    | some i=>sched l bf k (done ||| 2 ^ i) chk (i::xs)
    | none=>([],⟨chk,xs.reverse,0⟩)
def seesT (o:Oper) (io:IOper):List Nat:=
 (match io.guard with | some (d,_)=>[d] | none=>[])++o.op.operands.toList.filterMap fun | .tmp t=>some t | _=>none
def vWr (bf:List Nat) (i:Nat) (r:Bool) (t:Nat):Nat→List IOper→Bool
 | _,[]=>true
 | j,o::l=>(o.dst != some t || (nthN bf i).testBit j || (!r && (j == i || (nthN bf j).testBit i))) && vWr bf i r t (j + 1) l
def vSees (l:List IOper) (bf:List Nat):Nat→List Oper→List IOper→Bool
 | i,o::os,io::ios=>(seesT o io).all (fun t=>vWr bf i (isR io.op) t 0 l) && vSees l bf (i + 1) os ios
 | _,_,_=>true
def dsts:List IOper→List Nat
 | []=>[]
 | o::l=>match o.dst with | some d=>d::dsts l | none=>dsts l
def vDst:List Nat→Bool
 | []=>true
 | d::l=>!l.contains d && vDst l
def vOne (bf:List Nat) (prev nx:Option Nat) (i done:Nat) (o:IOper):Bool:=
 !done.testBit i && subMask (nthN bf i) done && !isE o.op &&
  (!isR o.op || match prev with | some p=>(nthN bf i).testBit p | none=>true) &&
  (!isN o.op || match nx with | some e=>(nthN bf e).testBit i | none=>true)
def vX (l:List IOper) (bf:List Nat) (prev:Option Nat) (nx:Option Nat):List Nat→Nat→Option Nat
 | [],done=>some done
 | i::xs,done=>
  match nthO l i with
  | some o=>
   if vOne bf prev nx i done o then vX l bf prev nx xs (done ||| 2 ^ i) else none
  | none=>none
def vChk (l:List IOper) (bf:List Nat) (prev:Option Nat) (chk:List Nat) (done:Nat):Nat→List IOper→Bool
 | _,[]=>true
 | i,o::os=>(!done.testBit i || !isR o.op || chk.contains i || (match prev with | some p=>(nthN bf p).testBit i | none=>false)) && vChk l bf prev chk done (i + 1) os
def vSt (l:List IOper) (bf:List Nat) (fin:DStage):List DStage→Option Nat→Nat→Bool
 | [],prev,done=>vChk l bf prev fin.chk done 0 l && (match vX l bf prev none fin.xs done with | some d=>subMask (2 ^ l.length - 1) d | none=>false)
 | s::st,prev,done=>
  vChk l bf prev s.chk done 0 l &&
  match vX l bf prev (some s.e) s.xs done,nthO l s.e with
  | some d,some o=>!d.testBit s.e && subMask (nthN bf s.e) d && isE o.op && (match prev with | some p=>(nthN bf s.e).testBit p | none=>true) && vSt l bf fin st (some s.e) (d ||| 2 ^ s.e)
  | _,_=>false
def vDraw (ops:Array Oper) (l:List IOper) (bf:List Nat) (st:List DStage) (fin:DStage):Bool:=
 vDst (dsts l) && vSees l bf 0 ops.toList l && vSt l bf fin st none 0
def cCode (P:Program) (ng:Nat) (ts:List TypeId):Code→Option ICode
 | .skip=>some .skip
 | .label _=>some .skip
 | .region _ ops false=>(cOps P ng ts ops ops.toList).map .ops
 | .region _ ops true=>
  match cOps P ng ts ops ops.toList with
  | some l=>
   let bf:=(Region.before ops).toList
   let r:=sched l bf (l.length + 1) 0 [] []
   if vDraw ops l bf r.1 r.2 then some (.draw l r.1 r.2) else some .bad
  | none=>none
 | .seq a b=>match cCode P ng ts a,cCode P ng ts b with | some a,some b=>some (.seq a b) | _,_=>none
 | .cond c a b=>if okOpd ng c then (match cCode P ng ts a,cCode P ng ts b with | some a,some b=>some (.cond (cOpd c) a b) | _,_=>none) else none
 | .block id b=>(cCode P ng ts b).map (.block id)
 | .loop b=>(cCode P ng ts b).map .loop
 | .rangeFunc f ps a b=>if okOpd ng f then (match cCode P ng ts a,cCode P ng ts b with | some a,some b=>some (.rangeF (cOpd f) ps.toList a b) | _,_=>none) else none
 | .exit id=>some (.exit id)
 | .ret=>some .ret
 | .refuse _=>some .bad
 | _=>none
def cRes (P:Program):ResultVar→Option IRes
 | .tmp t=>some (.tmp t)
 | .cell t ty=>(partOf P ty).map (.cell t)
def cFunc (P:Program) (ng:Nat) (ts:List TypeId) (f:Func):Option IFunc:=
 match f.body,f.results.toList.mapM (cRes P) with
 | some c,some rs=>if f.name == "runtime.NumGoroutine" then none else (cCode P ng ts c).map fun b=>{ntmps:=f.ntmps,results:=rs,body:=b }
 | _,_=>none
end Go.Proofs.YtnpoloachkcadaaGreatDoor.Ai
namespace Go.Proofs.YtnpoloachkcadaaGreatDoor.Ai
open Go
mutual
theorem conc_congr {μ μ':Nat→Loc} {n:Nat} (h:∀ i,i < n→μ i=μ' i):∀ v,lt n v=true→conc μ v=conc μ' v
 | .pointer (some a),hv=>by simp [lt] at hv;simp [conc,cAddr,h _ hv.1]
 | .slice (some a) _ _,hv=>by simp [lt] at hv;simp [conc,cAddr,h _ hv.1]
 | .map (some r),hv=>by simp [lt] at hv;simp [conc,h _ hv]
 | .func f ⟨x⟩ ⟨y⟩,hv=>by
  simp [lt] at hv
  have hf:cFn μ f=cFn μ' f:=by
   cases f <;> simp_all [cFn,ltFn]
  simp [conc,hf,concL_congr h x hv.1.2,concL_congr h y hv.2]
 | .iface t v,hv=>by simp [lt] at hv;simp [conc,conc_congr h v hv]
 | .agg ⟨x⟩,hv=>by simp [lt] at hv;simp [conc,concL_congr h x hv]
 | .tuple ⟨x⟩,hv=>by simp [lt] at hv;simp [conc,concL_congr h x hv]
 | .bool _,_=>by simp [conc]
 | .int _ _,_=>by simp [conc]
 | .float _ _,_=>by simp [conc]
 | .complex _ _ _,_=>by simp [conc]
 | .string _,_=>by simp [conc]
 | .pointer none,_=>by simp [conc]
 | .slice none _ _,_=>by simp [conc]
 | .map none,_=>by simp [conc]
 | .chan _,_=>by simp [conc]
 | .nilFunc,_=>by simp [conc]
 | .nilIface,_=>by simp [conc]
theorem concL_congr {μ μ':Nat→Loc} {n:Nat} (h:∀ i,i < n→μ i=μ' i):∀ l,ltL n l=true→concL μ l=concL μ' l
 | [],_=>by simp [concL]
 | v::l,hv=>by simp [ltL] at hv;simp [concL,conc_congr h v hv.1,concL_congr h l hv.2]
end
mutual
theorem lt_mono {n m:Nat} (h:n≤m):∀ v,lt n v=true→lt m v=true
 | .pointer (some a),hv=>by simp [lt] at hv ⊢;exact ⟨by omega,hv.2⟩
 | .slice (some a) _ _,hv=>by simp [lt] at hv ⊢;exact ⟨by omega,hv.2⟩
 | .map (some r),hv=>by simp [lt] at hv ⊢;omega
 | .func f ⟨x⟩ ⟨y⟩,hv=>by
  simp [lt] at hv ⊢
  refine ⟨⟨?_,ltL_mono h x hv.1.2⟩,ltL_mono h y hv.2⟩
  cases f <;> simp_all [ltFn];omega
 | .iface t v,hv=>by simp [lt] at hv ⊢;exact lt_mono h v hv
 | .agg ⟨x⟩,hv=>by simp [lt] at hv ⊢;exact ltL_mono h x hv
 | .tuple ⟨x⟩,hv=>by simp [lt] at hv ⊢;exact ltL_mono h x hv
 | .bool _,_=>by simp [lt]
 | .int _ _,_=>by simp [lt]
 | .float _ _,_=>by simp [lt]
 | .complex _ _ _,_=>by simp [lt]
 | .string _,_=>by simp [lt]
 | .pointer none,_=>by simp [lt]
 | .slice none _ _,_=>by simp [lt]
 | .map none,_=>by simp [lt]
 | .chan none,_=>by simp [lt]
 | .chan (some _),hv=>by simp [lt] at hv
 | .nilFunc,_=>by simp [lt]
 | .nilIface,_=>by simp [lt]
theorem ltL_mono {n m:Nat} (h:n≤m):∀ l,ltL n l=true→ltL m l=true
 | [],_=>by simp [ltL]
 | v::l,hv=>by simp [ltL] at hv ⊢;exact ⟨lt_mono h v hv.1,ltL_mono h l hv.2⟩
end
mutual
theorem conc_zero (μ:Nat→Loc):∀ v,lt 0 v=true→conc μ v=v
 | .pointer (some a),hv=>by simp [lt] at hv
 | .slice (some a) _ _,hv=>by simp [lt] at hv
 | .map (some r),hv=>by simp [lt] at hv
 | .func f ⟨x⟩ ⟨y⟩,hv=>by
  simp [lt] at hv
  have hf:cFn μ f=f:=by cases f <;> simp_all [cFn,ltFn]
  simp [conc,hf,concL_zero μ x hv.1.2,concL_zero μ y hv.2]
 | .iface t v,hv=>by simp [lt] at hv;simp [conc,conc_zero μ v hv]
 | .agg ⟨x⟩,hv=>by simp [lt] at hv;simp [conc,concL_zero μ x hv]
 | .tuple ⟨x⟩,hv=>by simp [lt] at hv;simp [conc,concL_zero μ x hv]
 | .bool _,_=>by simp [conc]
 | .int _ _,_=>by simp [conc]
 | .float _ _,_=>by simp [conc]
 | .complex _ _ _,_=>by simp [conc]
 | .string _,_=>by simp [conc]
 | .pointer none,_=>by simp [conc]
 | .slice none _ _,_=>by simp [conc]
 | .map none,_=>by simp [conc]
 | .chan _,_=>by simp [conc]
 | .nilFunc,_=>by simp [conc]
 | .nilIface,_=>by simp [conc]
theorem concL_zero (μ:Nat→Loc):∀ l,ltL 0 l=true→concL μ l=l
 | [],_=>by simp [concL]
 | v::l,hv=>by simp [ltL] at hv;simp [concL,conc_zero μ v hv.1,concL_zero μ l hv.2]
end
theorem conc_undef (μ:Nat→Loc):conc μ undef=undef:=by simp [undef,conc,concL]
theorem lt_undef (n:Nat):lt n undef=true:=by simp [undef,lt,ltL]
theorem isCell_conc (μ:Nat→Loc) (v:Value):isCell (conc μ v)=isCell v:=by
 cases v with
 | pointer a=>cases a <;> simp [conc,isCell]
 | slice a _ _=>cases a <;> simp [conc,isCell]
 | map a=>cases a <;> simp [conc,isCell]
 | _=>simp [conc,isCell]
theorem isCell_oneCell (v:Value):isCell v=v.oneCell':=by cases v <;> rfl
theorem getV_eq (l:List Value):∀ n,getV l n=l.getD n undef:=by
 induction l with
 | nil=>intro n;simp [getV]
 | cons v l ih=>intro n;cases n <;> simp [getV,ih]
theorem setV_eq (l:List Value):∀ n v,setV l n v=l.set n v:=by
 induction l with
 | nil=>intro n v;simp [setV]
 | cons x l ih=>intro n v;cases n <;> simp [setV,ih]
theorem nthV_eq (l:List Value):∀ n,nthV l n=l[n]?:=by
 induction l with
 | nil=>intro n;simp [nthV]
 | cons v l ih=>intro n;cases n <;> simp [nthV,ih]
theorem dropV_eq (l:List Value):∀ n,dropV n l=l.drop n:=by
 induction l with
 | nil=>intro n;cases n <;> simp [dropV]
 | cons v l ih=>intro n;cases n <;> simp [dropV,ih]
theorem cutV_some:∀ (n:Nat) (l r:List Value),cutV n l=some r↔n≤l.length∧r=l.take n:=by
 intro n
 induction n with
 | zero=>intro l r;simp [cutV,eq_comm]
 | succ n ih=>
  intro l r
  cases l with
  | nil=>simp [cutV]
  | cons v l=>
   simp only [cutV,Option.map_eq_some_iff,List.length_cons,List.take_succ_cons]
   constructor
   ·rintro ⟨a,ha,rfl⟩
    obtain ⟨h1,rfl⟩:=(ih _ _).1 ha
    exact ⟨by omega,rfl⟩
   ·rintro ⟨h1,rfl⟩
    exact ⟨_,(ih _ _).2 ⟨by omega,rfl⟩,rfl⟩
theorem overV_some:∀ (cs vs r:List Value),overV cs vs=some r→vs.length≤cs.length∧r=vs++cs.drop vs.length:=by
 intro cs
 induction cs with
 | nil=>
  intro vs r h
  cases vs with
  | nil=>simp [overV] at h;simp [h]
  | cons v vs=>simp [overV] at h
 | cons c cs ih=>
  intro vs r h
  cases vs with
  | nil=>simp [overV] at h;simp [h]
  | cons v vs=>
   simp only [overV,Option.map_eq_some_iff] at h
   obtain ⟨a,ha,rfl⟩:=h
   obtain ⟨h1,rfl⟩:=ih _ _ ha
   exact ⟨by simp;omega,by simp⟩
theorem spliceV_some:∀ (cs:List Value) (n:Nat) (vs r:List Value),spliceV cs n vs=some r→(vs=[]∨n + vs.length≤cs.length)∧r.length=cs.length∧
  ∀ k,r[k]? = if n≤k∧k < n + vs.length then vs[k - n]? else cs[k]?:=by
 intro cs
 induction cs with
 | nil=>
  intro n vs r h
  cases n with
  | zero=>
   simp only [spliceV] at h
   obtain ⟨h1,rfl⟩:=overV_some _ _ _ h
   have:vs=[]:=by simpa using h1
   subst this;simp
  | succ n=>
   simp only [spliceV] at h
   split at h
   ·rename_i hv
    have:vs=[]:=by simpa using hv
    subst this
    simp at h;subst h;simp
   ·simp at h
 | cons c cs ih=>
  intro n vs r h
  cases n with
  | zero=>
   simp only [spliceV] at h
   obtain ⟨h1,rfl⟩:=overV_some _ _ _ h
   refine ⟨.inr (by simpa using h1),by simp at h1 ⊢;omega,fun k=>?_⟩
   by_cases hk:k < vs.length
   ·simp [hk,List.getElem?_append_left]
   ·simp only [Nat.zero_le,true_and,Nat.zero_add,hk,if_false]
    rw [List.getElem?_append_right (by omega),List.getElem?_drop]
    congr 1;omega
  | succ n=>
   simp only [spliceV,Option.map_eq_some_iff] at h
   obtain ⟨a,ha,rfl⟩:=h
   obtain ⟨h1,h2,h3⟩:=ih _ _ _ ha
   refine ⟨h1.imp id (by simp;omega),by simp [h2],fun k=>?_⟩
   cases k with
   | zero=>simp
   | succ k=>
    simp only [List.getElem?_cons_succ,h3 k,Nat.add_le_add_iff_right,Nat.add_right_comm n 1 vs.length,Nat.add_lt_add_iff_right,Nat.add_sub_add_right]
theorem ltL_getElem {n:Nat} {l:List Value} (h:ltL n l=true) {k:Nat} {v:Value} (hk:l[k]? = some v):lt n v=true:=
 (ltL_iff n l).1 h v (List.mem_of_getElem? hk)
theorem ltL_getV {n:Nat} {l:List Value} (h:ltL n l=true) (k:Nat):lt n (getV l k)=true:=by
 rw [getV_eq,List.getD_eq_getElem?_getD]
 cases hk:l[k]? with
 | none=>exact lt_undef n
 | some v=>exact ltL_getElem h hk
theorem ltL_append {n:Nat} {a b:List Value}:ltL n (a++b)=true↔ltL n a=true∧ltL n b=true:=by
 simp only [ltL_iff,List.mem_append]
 exact ⟨fun h=>⟨fun v hv=>h v (.inl hv),fun v hv=>h v (.inr hv)⟩,fun h v hv=>hv.elim (h.1 v) (h.2 v)⟩
theorem ltL_setV {n:Nat} {l:List Value} (h:ltL n l=true) (k:Nat) {v:Value} (hv:lt n v=true):ltL n (setV l k v)=true:=by
 rw [setV_eq,ltL_iff]
 intro x hx
 rcases List.mem_or_eq_of_mem_set hx with h1 | h1
 ·exact (ltL_iff n l).1 h x h1
 ·exact h1 ▸ hv
theorem ltL_sub {n:Nat} {a b:List Value} (h:ltL n b=true) (hs:∀ v∈a,v∈b):ltL n a=true:=
 (ltL_iff n a).2 fun v hv=>(ltL_iff n b).1 h v (hs v hv)
theorem concL_length (μ:Nat→Loc) (l:List Value):(concL μ l).length=l.length:=by simp [concL_eq]
theorem concL_getElem? (μ:Nat→Loc) (l:List Value) (k:Nat):(concL μ l)[k]? = (l[k]?).map (conc μ):=by simp [concL_eq]
theorem concL_append (μ:Nat→Loc) (a b:List Value):concL μ (a++b)=concL μ a++concL μ b:=by simp [concL_eq]
theorem concL_take (μ:Nat→Loc) (n:Nat) (a:List Value):concL μ (a.take n)=(concL μ a).take n:=by simp [concL_eq]
theorem getD_conc (μ:Nat→Loc) (e:List Value) (t:Nat):(⟨concL μ e⟩:Array Value).getD t undef=conc μ (getV e t):=by
 rw [getV_eq,List.getD_eq_getElem?_getD,Array.getD_eq_getD_getElem?]
 have h:(⟨concL μ e⟩:Array Value)[t]? = (concL μ e)[t]?:=by simp
 rw [h,concL_getElem?]
 cases e[t]? <;> simp [conc_undef]
def evc (μ:Nat→Loc) (e:List Value):Operand→Value
 | .tmp t=>conc μ (getV e t)
 | .const v=>v
 | .global g=>.pointer (some ⟨g,0,none⟩)
 | .func f=>.func (.func f) #[] #[]
structure Glob (ng:Nat) (μ:Nat→Loc):Prop where
 out:∀ g,g < ng→μ g=⟨g,0,0⟩
theorem opd_conc {ng:Nat} {μ:Nat→Loc} (hg:Glob ng μ) (e:List Value) {x:Operand} (hx:okOpd ng x=true):evc μ e x=conc μ ((cOpd x).ev e):=by
 cases x with
 | tmp t=>simp [evc,cOpd,Opd.ev]
 | const v=>simp [evc,cOpd,Opd.ev,conc_zero μ v (by simpa [okOpd] using hx)]
 | global g=>simp [okOpd] at hx;simp [evc,cOpd,Opd.ev,conc,cAddr,hg.out g hx]
 | func f=>simp [evc,cOpd,Opd.ev,conc,cFn,concL]
theorem opd_lt {ng n:Nat} (hn:ng≤n) {e:List Value} (he:ltL n e=true) {x:Operand} (hx:okOpd ng x=true):lt n ((cOpd x).ev e)=true:=by
 cases x with
 | tmp t=>exact ltL_getV he t
 | const v=>exact lt_mono (Nat.zero_le n) v (by simpa [okOpd] using hx)
 | global g=>simp [okOpd] at hx;simp [cOpd,Opd.ev,lt];omega
 | func f=>simp [cOpd,Opd.ev,lt,ltFn,ltL]
end Go.Proofs.YtnpoloachkcadaaGreatDoor.Ai
namespace Go.Proofs.YtnpoloachkcadaaGreatDoor.Ai
open Go
set_option linter.unusedSimpArgs false
section
variable {P:Program} {ng n:Nat} {ts:List TypeId} {μ:Nat→Loc} {e:List Value} {w:World}
structure OpV (μ:Nat→Loc) (n:Nat) (e:List Value) (x:Operand) (X:Value):Prop where
 ev:(cOpd x).ev e=X
 c:evc μ e x=conc μ X
 l:lt n X=true
theorem opV (hg:Glob ng μ) (hn:ng≤n) (he:ltL n e=true) {x:Operand} (hx:okOpd ng x=true):OpV μ n e x ((cOpd x).ev e):=
 ⟨rfl,opd_conc hg e hx,opd_lt hn he hx⟩
@[simp] theorem conc_bool (μ:Nat→Loc) (b:Bool):conc μ (.bool b) = .bool b:=by simp [conc]
@[simp] theorem conc_int (μ:Nat→Loc) (k:IntKind) (i:Int):conc μ (.int k i) = .int k i:=by simp [conc]
@[simp] theorem conc_string (μ:Nat→Loc) (s:ByteArray):conc μ (.string s) = .string s:=by simp [conc]
@[simp] theorem conc_pnone (μ:Nat→Loc):conc μ (.pointer none) = .pointer none:=by simp [conc]
@[simp] theorem conc_psome (μ:Nat→Loc) (a:Addr):conc μ (.pointer (some a)) = .pointer (some (cAddr μ a)):=by simp [conc]
@[simp] theorem conc_snone (μ:Nat→Loc) (a b:Nat):conc μ (.slice none a b) = .slice none a b:=by simp [conc]
@[simp] theorem conc_ssome (μ:Nat→Loc) (x:Addr) (a b:Nat):conc μ (.slice (some x) a b) = .slice (some (cAddr μ x)) a (b + (μ x.block).ex):=by simp [conc]
@[simp] theorem conc_mnone (μ:Nat→Loc):conc μ (.map none) = .map none:=by simp [conc]
@[simp] theorem conc_msome (μ:Nat→Loc) (r:Nat):conc μ (.map (some r)) = .map (some (μ r).blk):=by simp [conc]
@[simp] theorem conc_nilFunc (μ:Nat→Loc):conc μ .nilFunc = .nilFunc:=by simp [conc]
@[simp] theorem conc_nilIface (μ:Nat→Loc):conc μ .nilIface = .nilIface:=by simp [conc]
@[simp] theorem conc_iface (μ:Nat→Loc) (t:TypeId) (v:Value):conc μ (.iface t v) = .iface t (conc μ v):=by simp [conc]
@[simp] theorem conc_agg (μ:Nat→Loc) (l:List Value):conc μ (.agg ⟨l⟩) = .agg ⟨concL μ l⟩:=by simp [conc]
@[simp] theorem conc_tuple (μ:Nat→Loc) (l:List Value):conc μ (.tuple ⟨l⟩) = .tuple ⟨concL μ l⟩:=by simp [conc]
@[simp] theorem conc_func (μ:Nat→Loc) (f:Fn) (a b:List Value):conc μ (.func f ⟨a⟩ ⟨b⟩) = .func (cFn μ f) ⟨concL μ a⟩ ⟨concL μ b⟩:=by simp [conc]
@[simp] theorem lt_bool (n:Nat) (b:Bool):lt n (.bool b)=true:=by simp [lt]
@[simp] theorem lt_int (n:Nat) (k:IntKind) (i:Int):lt n (.int k i)=true:=by simp [lt]
@[simp] theorem lt_string (n:Nat) (s:ByteArray):lt n (.string s)=true:=by simp [lt]
@[simp] theorem lt_psome (n:Nat) (a:Addr):lt n (.pointer (some a))=true↔a.block < n∧a.spot=none:=by simp [lt]
@[simp] theorem lt_ssome (n:Nat) (x:Addr) (a b:Nat):lt n (.slice (some x) a b)=true↔x.block < n∧(x.spot=none∨(a=0∧b=0)):=by simp [lt]
@[simp] theorem lt_snone (n:Nat) (a b:Nat):lt n (.slice none a b)=true:=by simp [lt]
@[simp] theorem lt_pnone (n:Nat):lt n (.pointer none)=true:=by simp [lt]
@[simp] theorem lt_mnone (n:Nat):lt n (.map none)=true:=by simp [lt]
@[simp] theorem lt_msome (n r:Nat):lt n (.map (some r))=true↔r < n:=by simp [lt]
@[simp] theorem lt_nilIface (n:Nat):lt n .nilIface=true:=by simp [lt]
@[simp] theorem lt_nilFunc (n:Nat):lt n .nilFunc=true:=by simp [lt]
@[simp] theorem lt_agg (n:Nat) (l:List Value):lt n (.agg ⟨l⟩)=ltL n l:=by simp [lt]
@[simp] theorem lt_tuple (n:Nat) (l:List Value):lt n (.tuple ⟨l⟩)=ltL n l:=by simp [lt]
@[simp] theorem lt_iface (n:Nat) (t:TypeId) (v:Value):lt n (.iface t v)=lt n v:=by simp [lt]
@[simp] theorem lt_func (n:Nat) (f:Fn) (a b:List Value):lt n (.func f ⟨a⟩ ⟨b⟩)=(ltFn n f && ltL n a && ltL n b):=by simp [lt]
theorem run_und {P:Program} {t:TypeId} {d:TypeDesc} (h:P.underlying t=some d) (w:World):(underlying t).run P w = .ok d w:=run_underlying h w
theorem run_info {P:Program} {t:TypeId} {i:TypeInfo} (h:P.info? t=some i) (w:World):(typeInfo t).run P w = .ok i w:=by
 simp [typeInfo,h]
theorem run_sz {P:Program} {t:TypeId} {k:Nat} (h:szOf P t=some k) (w:World):(Go.sizeOf t).run P w = .ok k w:=by
 simp only [szOf,Option.map_eq_some_iff] at h
 obtain ⟨i,hi,rfl⟩:=h
 simp [Go.sizeOf,run_info hi]
theorem run_agg {P:Program} {t:TypeId} {b:Bool} (h:aggOf P t=some b) (w:World):(isAgg t).run P w = .ok b w:=by
 simp only [aggOf,Option.map_eq_some_iff] at h
 obtain ⟨d,hd,rfl⟩:=h
 simp only [isAgg,Sem.run_bind,run_und hd,Result.andThen_ok]
 cases d <;> rfl
theorem add_spot (a:Addr) (h:a.spot=none) (k:Nat):a.add k=⟨a.block,a.off + k,none⟩:=by
 cases a;simp at h;subst h
 unfold Addr.add;split
 ·rename_i h0;subst h0;rfl
 ·rfl
theorem add_mk (b o k:Nat):(⟨b,o,none⟩:Addr).add k=⟨b,o + k,none⟩:=add_spot _ rfl k
theorem cAddr_eta (μ:Nat→Loc) (a:Addr) (h:a.spot=none):cAddr μ a=⟨(μ a.block).blk,(μ a.block).sh + a.off,none⟩:=by simp [cAddr,h]
theorem okOp_1 {op:Op} {x:Operand} (h:okOp ng op=true) (ho:op.operands = #[x]):okOpd ng x=true:=by
 simp [okOp,ho] at h;exact h
theorem okOp_2 {op:Op} {x y:Operand} (h:okOp ng op=true) (ho:op.operands = #[x,y]):okOpd ng x=true∧okOpd ng y=true:=by
 simp [okOp,ho] at h;exact h
def PSound (P:Program) (μ:Nat→Loc) (n:Nat) (e:List Value) (o:Oper) (v:Value):Prop:=
 ∀ w,(execOp (evc μ e) o).run P w = .ok (.value (conc μ v)) w∧lt n v=true
theorem binInt_sound {op:BinOp} {k:IntKind} {a b:Int} {v:Value} (hs:isShift op=false) (h:binInt op k a b=some v) (w:World) :
  (match op with
  | .add | .sub | .mul=>Op.intArith op k a b
  | .quo | .rem=>Op.intDiv op k a b
  | .and | .or | .xor | .andNot=>Op.intBits op k a b
  | _=>Op.intCmp op a b).run P w = .ok (conc μ v) w∧lt n v=true:=by
 cases op <;> simp [binInt,isShift,bits] at h hs ⊢ <;> first
  | (obtain ⟨h1,rfl⟩:=h;simp [Op.intDiv,h1])
  | (subst h;simp [Op.intArith,Op.intBits,Op.intCmp])
theorem binStr_sound {op:BinOp} {a b:ByteArray} {v:Value} (h:binStr op a b=some v) (w:World) :
  (Op.stringOp op a b).run P w = .ok (conc μ v) w∧lt n v=true:=by
 cases op <;> simp [binStr] at h <;> first
  | (subst h;simp [Op.stringOp];done)
  | (obtain ⟨h1,rfl⟩:=h;simp [Op.stringOp,h1])
theorem bin_sound {op:BinOp} {t:TypeId} {X Y v:Value} (h:bin op X Y=some v) (w:World) :
  (binOp op t (conc μ X) (conc μ Y)).run P w = .ok (conc μ v) w∧lt n v=true:=by
 unfold bin at h
 split at h
 ·rename_i k a k' b
  split at h
  ·rename_i hs
   unfold shiftInt at h
   split at h
   ·simp at h
   ·rename_i hb
    cases op <;> simp [isShift] at hs <;> simp at h <;> subst h <;> simp [binOp,Op.shift,hb,Nat.min]
  ·rename_i hs
   split at h
   ·rename_i hk;subst hk
    have hb:=binInt_sound (P:=P) (μ:=μ) (n:=n) (by simpa using hs) h w
    cases op <;> simp [isShift] at hs <;> simpa [binOp] using hb
   ·simp at h
 ·rename_i a b
  have hb:=binStr_sound (P:=P) (μ:=μ) (n:=n) h w
  cases op <;> simpa [binOp] using hb
 ·simp at h
end
end Go.Proofs.YtnpoloachkcadaaGreatDoor.Ai
namespace Go.Proofs.YtnpoloachkcadaaGreatDoor.Ai
open Go
set_option linter.unusedSimpArgs false
section
variable {P:Program} {ng n:Nat} {ts:List TypeId} {μ:Nat→Loc} {e:List Value} {w:World}
theorem partV_lt {m:Option Nat} {cs:List Value} {off:Nat} {v:Value} (h:partV m cs off=some v) (hl:ltL n cs=true):lt n v=true:=by
 unfold partV at h
 split at h
 ·simp at h;subst h
  simp only [lt_agg]
  exact ltL_sub hl fun v hv=>List.mem_of_mem_take (List.mem_of_mem_drop hv)
 ·rw [nthV_eq] at h
  exact ltL_getElem hl h
theorem partOf_some {t:TypeId} {m:Option Nat} (h:partOf P t=some m):(m=none∧aggOf P t=some false∧szOf P t=some 1)∨∃ k,m=some k∧aggOf P t=some true∧szOf P t=some k:=by
 unfold partOf at h
 split at h
 ·rename_i k h1 h2;simp at h;subst h;exact .inr ⟨k,rfl,h1,h2⟩
 ·rename_i h1 h2;simp at h;subst h;exact .inl ⟨rfl,h1,h2⟩
 ·simp at h
theorem part_sound {t:TypeId} {m:Option Nat} (ht:partOf P t=some m) {cs:List Value} {off:Nat} {v:Value} (h:partV m cs off=some v) (w:World) :
  (part t ⟨concL μ cs⟩ off).run P w = .ok (conc μ v) w:=by
 rcases partOf_some ht with ⟨rfl,h1,_⟩ | ⟨k,rfl,h1,h2⟩
 ·simp only [partV,nthV_eq] at h
  simp [part,run_agg h1,concL_getElem?,h]
 ·simp only [partV,Option.some.injEq] at h
  subst h
  simp only [part,Sem.run_bind,run_agg h1,Result.andThen_ok,if_true,run_sz h2,Sem.run_pure,conc_agg]
  congr 2
  apply Array.ext'
  simp only [concL_eq,List.map_drop,List.map_take,List.toList_toArray,Array.toList_extract,List.extract_eq_take_drop]
  rw [List.drop_take]
theorem cells_conc (v:Value):(conc μ v).cells.toList=concL μ (cellsOf v):=by
 cases v with
 | agg a=>cases a;simp [cellsOf,Value.cells]
 | pointer a=>cases a <;> simp [cellsOf,Value.cells,concL]
 | slice a _ _=>cases a <;> simp [cellsOf,Value.cells,concL]
 | map a=>cases a <;> simp [cellsOf,Value.cells,concL]
 | func f a b=>cases a;cases b;simp [cellsOf,Value.cells,concL]
 | tuple a=>cases a;simp [cellsOf,Value.cells,concL]
 | _=>simp [cellsOf,Value.cells,concL,conc]
theorem cellsOf_lt {v:Value} (h:lt n v=true):ltL n (cellsOf v)=true:=by
 cases v with
 | agg a=>cases a;simpa [cellsOf] using h
 | _=>simp [cellsOf,ltL,h]
theorem splice_lt {cs vs r:List Value} {k:Nat} (h:spliceV cs k vs=some r) (h1:ltL n cs=true) (h2:ltL n vs=true):ltL n r=true:=by
 obtain ⟨_,_,h3⟩:=spliceV_some _ _ _ _ h
 rw [ltL_iff]
 intro v hv
 obtain ⟨i,hi⟩:=List.getElem?_of_mem hv
 rw [h3 i] at hi
 split at hi
 ·exact ltL_getElem h2 hi
 ·exact ltL_getElem h1 hi
theorem foldl_set (vs:List Value):∀ (cs:Array Value) (off j0:Nat),
  ((vs.zipIdx j0).foldl (fun cs (c,j)=>cs.setIfInBounds (off + j) c) cs).size=cs.size∧
  ∀ k,((vs.zipIdx j0).foldl (fun cs (c,j)=>cs.setIfInBounds (off + j) c) cs)[k]? = if off + j0≤k∧k < off + j0 + vs.length∧k < cs.size then vs[k - off - j0]? else cs[k]?:=by
 induction vs with
 | nil=>intro cs off j0;simp;intro k h1 h2;omega
 | cons v vs ih=>
  intro cs off j0
  simp only [List.zipIdx_cons,List.foldl_cons]
  obtain ⟨h1,h2⟩:=ih (cs.setIfInBounds (off + j0) v) off (j0 + 1)
  refine ⟨by simpa using h1,fun k=>?_⟩
  rw [h2 k]
  simp only [Array.size_setIfInBounds,List.length_cons,Array.getElem?_setIfInBounds]
  by_cases hk:off + j0=k
  ·subst hk
   by_cases hs:off + j0 < cs.size
   ·rw [if_neg (by omega),if_pos rfl,if_pos hs,if_pos (by omega)]
    simp [Nat.sub_self,show off + j0 - off - j0=0 by omega]
   ·rw [if_neg (by omega),if_pos rfl,if_neg hs,if_neg (by omega)]
    rw [Array.getElem?_eq_none (by omega)]
  ·by_cases hc:off + (j0 + 1)≤k∧k < off + (j0 + 1) + vs.length∧k < cs.size
   ·rw [if_pos hc,if_pos (by omega)]
    rw [show k - off - j0=(k - off - (j0 + 1)) + 1 by omega]
    simp
   ·rw [if_neg hc,if_neg hk,if_neg (by omega)]
theorem fill_step {cs vs r:List Value} {off:Nat} (h:spliceV cs off vs=some r) (hb:off + vs.length≤cs.length) :
  ((concL μ vs).toArray.zipIdx.foldl (fun cs (c,j)=>cs.setIfInBounds (off + j) c) (⟨concL μ cs⟩:Array Value))=⟨concL μ r⟩:=by
 obtain ⟨_,h2,h3⟩:=spliceV_some _ _ _ _ h
 obtain ⟨g1,g2⟩:=foldl_set (concL μ vs) ⟨concL μ cs⟩ off 0
 have e:(concL μ vs).toArray.zipIdx.foldl (fun cs (c,j)=>cs.setIfInBounds (off + j) c) (⟨concL μ cs⟩:Array Value) =
   ((concL μ vs).zipIdx 0).foldl (fun cs (c,j)=>cs.setIfInBounds (off + j) c) ⟨concL μ cs⟩:=by
  rw [← Array.foldl_toList];simp
 rw [e]
 apply Array.ext'
 apply List.ext_getElem?
 intro k
 rw [Array.getElem?_toList,g2 k]
 simp only [concL_length,List.size_toArray,List.getElem?_toArray,concL_getElem?,h3 k,Nat.add_zero,Nat.sub_zero]
 by_cases hk:off≤k∧k < off + vs.length
 ·rw [if_pos hk,if_pos ⟨hk.1,hk.2,by omega⟩]
 ·rw [if_neg hk,if_neg (by omega)]
structure PartsOK (place:Nat→Option (Nat × Nat)) (μ:Nat→Loc) (e:List Value) (ps:List (Nat × Value)) (qs:List (Nat × Nat × Opd)):Prop where
 out:ps.length=qs.length∧∀ (k i:Nat) (v:Value) (off m:Nat) (x:Opd),ps[k]? = some (i,v)→qs[k]? = some (off,m,x)→place i=some (off,m)∧v=conc μ (x.ev e)
theorem fill_sound {place:Nat→Option (Nat × Nat)}:∀ (qs:List (Nat × Nat × Opd)) (ps:List (Nat × Value)) (cs r:List Value),PartsOK place μ e ps qs→
  fillV e cs qs=some r→(∀ q∈qs,q.2.1 ≠ 0)→Instr.fill place (⟨concL μ cs⟩:Array Value) ps=some ⟨concL μ r⟩:=by
 intro qs
 induction qs with
 | nil=>
  intro ps cs r h hr _
  have:ps=[]:=by simpa using h.out.1
  subst this
  simp [fillV] at hr;subst hr
  simp [Instr.fill]
 | cons q qs ih=>
  intro ps cs r h hr h0
  obtain ⟨off,m,x⟩:=q
  cases ps with
  | nil=>have:=h.out.1;simp at this
  | cons p ps=>
   obtain ⟨i,v⟩:=p
   obtain ⟨hp,hv⟩:=h.out.2 0 i v off m x rfl rfl
   simp only [fillV] at hr
   split at hr
   ·rename_i hm
    simp only [Option.bind_eq_some_iff] at hr
    obtain ⟨c2,hc2,hr⟩:=hr
    have hm0:m ≠ 0:=h0 (off,m,x) (by simp)
    obtain ⟨hb,hlen,_⟩:=spliceV_some _ _ _ _ hc2
    have hb':off + (cellsOf (x.ev e)).length≤cs.length:=by
     rcases hb with hb | hb
     ·rw [hb] at hm;simp at hm;omega
     ·exact hb
    have hcells:v.cells=(concL μ (cellsOf (x.ev e))).toArray:=by
     rw [hv];apply Array.ext';simp [cells_conc]
    simp only [Instr.fill,hp]
    rw [if_neg (by rw [hcells];simp [concL_length,hm];omega),hcells,fill_step hc2 hb']
    exact ih ps c2 r ⟨by have:=h.out.1;simpa using this,fun k i v off m x h1 h2=>h.out.2 (k + 1) i v off m x (by simpa using h1) (by simpa using h2)⟩ hr
     (fun q hq=>h0 q (by simp [hq]))
   ·simp at hr
theorem fill_lt:∀ (qs:List (Nat × Nat × Opd)) (cs r:List Value),fillV e cs qs=some r→ltL n cs=true→(∀ q∈qs,lt n (q.2.2.ev e)=true)→ltL n r=true:=by
 intro qs
 induction qs with
 | nil=>intro cs r h hl _;simp [fillV] at h;subst h;exact hl
 | cons q qs ih=>
  intro cs r h hl hq
  obtain ⟨off,m,x⟩:=q
  simp only [fillV] at h
  split at h
  ·simp only [Option.bind_eq_some_iff] at h
   obtain ⟨c2,hc2,hr⟩:=h
   exact ih _ _ hr (splice_lt hc2 hl (cellsOf_lt (hq (off,m,x) (by simp)))) fun q hq'=>hq q (by simp [hq'])
  ·simp at h
end
end Go.Proofs.YtnpoloachkcadaaGreatDoor.Ai
namespace Go.Proofs.YtnpoloachkcadaaGreatDoor.Ai
open Go
set_option linter.unusedSimpArgs false
section
variable {P:Program} {ng n:Nat} {ts:List TypeId} {μ:Nat→Loc} {e:List Value}
theorem sP_mov (hg:Glob ng μ) (hn:ng≤n) (he:ltL n e=true) {o:Oper} {x:Operand} (hop:o.op = .move x∨o.op = .assign x) (ho:okOpd ng x=true)
  {v:Value} (hv:evP e (.mov (cOpd x))=some v):PSound P μ n e o v:=by
 intro w
 have hx:=opV (e:=e) hg hn he ho
 simp only [evP,Option.some.injEq] at hv
 subst hv
 rcases hop with h | h <;> exact ⟨by simp [execOp,h,hx.c],hx.l⟩
theorem sP_pick (hg:Glob ng μ) (hn:ng≤n) (he:ltL n e=true) {o:Oper} {c a b:Operand} (hop:o.op = .pick c a b) (hc:okOpd ng c=true) (ha:okOpd ng a=true) (hb:okOpd ng b=true)
  {v:Value} (hv:evP e (.pick (cOpd c) (cOpd a) (cOpd b))=some v):PSound P μ n e o v:=by
 intro w
 have hx:=opV (e:=e) hg hn he hc
 have ha:=opV (e:=e) hg hn he ha
 have hb:=opV (e:=e) hg hn he hb
 simp only [evP] at hv
 split at hv
 ·rename_i h;simp at hv;subst hv
  exact ⟨by simp [execOp,hop,hx.c,h,asBool,ha.c],ha.l⟩
 ·rename_i h;simp at hv;subst hv
  exact ⟨by simp [execOp,hop,hx.c,h,asBool,hb.c],hb.l⟩
 ·simp at hv
theorem cMethods_some {name:String} {t:TypeId} {f:FuncId}:∀ {ts:List TypeId},(cMethods P name ts).lookup t=some f→
  ∃ i m,P.info? t=some i∧i.methods.find? (·.name == name)=some m∧m.path = #[]∧((m.func=some (f,true)∧∃ el,P.underlying t=some (.pointer el))∨(m.func=some (f,false)∧∃ d,P.underlying t=some d∧∀ el,d ≠ .pointer el))
 | [],h=>by simp [cMethods] at h
 | u::ts,h=>by
  rw [cMethods,List.filterMap_cons] at h
  split at h
  ·exact cMethods_some (ts:=ts) h
  ·rename_i x hx
   obtain ⟨u',g⟩:=x
   rw [List.lookup_cons] at h
   have hu:u'=u:=by
    split at hx
    ·split at hx
     ·split at hx
      ·split at hx
       ·simp at hx;exact hx.1.symm
       ·simp at hx
      ·split at hx
       ·simp at hx
       ·simp at hx;exact hx.1.symm
       ·simp at hx
      ·simp at hx
     ·simp at hx
    ·simp at hx
   subst hu
   split at h
   ·rename_i htu
    have htu':t=u':=by simpa using htu
    subst htu'
    simp at h;subst h
    split at hx
    ·rename_i i hi
     split at hx
     ·rename_i m hm
      refine ⟨i,m,hi,hm,?_⟩
      split at hx
      ·rename_i hp hf
       split at hx
       ·rename_i el hu
        simp at hx;subst hx
        exact ⟨by simpa using hp,.inl ⟨hf,el,hu⟩⟩
       ·simp at hx
      ·rename_i hp hf
       split at hx
       ·simp at hx
       ·rename_i d hnp hu
        simp at hx;subst hx
        exact ⟨by simpa using hp,.inr ⟨hf,d,hu,fun el he=>hnp el he⟩⟩
       ·simp at hx
      ·simp at hx
     ·simp at hx
    ·simp at hx
   ·exact cMethods_some (ts:=ts) h
theorem cNames_some {nm:String} {t:TypeId} (h:(cNames P ts).contains (nm,t)=true):∃ f,(cMethods P nm [t]).lookup t=some f:=by
 simp only [cNames,List.contains_eq_mem,List.mem_flatMap,decide_eq_true_eq] at h
 obtain ⟨u,_,h⟩:=h
 split at h
 ·simp only [List.mem_filterMap] at h
  obtain ⟨m,_,h⟩:=h
  split at h
  ·rename_i hs
   simp at h
   obtain ⟨rfl,rfl⟩:=h
   exact Option.isSome_iff_exists.1 hs
  ·simp at h
 ·simp at h
theorem nilAhead_run {name:String} {t:TypeId} {f:FuncId} (h:(cMethods P name ts).lookup t=some f) (V:Value) (k:Nat) (w:World):(nilAhead (k + 1) t V name).run P w = .ok (some false) w:=by
 obtain ⟨i,m,hi,hm,hp,hr⟩:=cMethods_some h
 simp only [nilAhead,Sem.run_bind,run_info hi,Result.andThen_ok,hm,hp,followBlind,Sem.run_pure]
 rcases hr with ⟨hf,el,hu⟩ | ⟨hf,d,hu,hd⟩
 ·simp [hf]
 ·simp only [hf,Sem.run_bind,run_und hu,Result.andThen_ok]
  cases d <;> first | exact absurd rfl (hd _) | simp
theorem sP_nilchk (hg:Glob ng μ) (hn:ng≤n) (he:ltL n e=true) {o:Oper} {x:Operand} (hop:o.op = .nilCheck x) (ho:okOpd ng x=true)
  {v:Value} (hv:evP e (.nilchk (cNames P ts) (cOpd x))=some v):PSound P μ n e o v:=by
 intro w
 obtain ⟨_,hc,hl⟩:=opV (e:=e) hg hn he ho
 simp only [evP] at hv
 generalize (cOpd x).ev e=X at hv hc hl
 split at hv <;> try (simp at hv;done)
 ·rename_i nm l c
  split at hv
  ·rename_i t V
   split at hv
   ·rename_i hin
    simp at hv;subst hv
    refine ⟨?_,hl⟩
    obtain ⟨f,hf⟩:=cNames_some hin
    have hk:=nilAhead_run hf (conc μ V) (P.types.size + Made.depth - 1) w
    rw [show P.types.size + Made.depth - 1 + 1=P.types.size + Made.depth by unfold Made.depth;omega] at hk
    obtain ⟨c⟩:=c
    simp only [execOp,hop,hc,conc_func,cFn,concL,conc_iface]
    simp [hk,run_program]
   ·simp at hv
  ·simp at hv
 ·rename_i h1 h2 h3 h4
  simp at hv;subst hv
  refine ⟨?_,hl⟩
  simp only [execOp,hop,hc]
  cases X with
  | pointer a=>cases a with
   | none=>exact absurd rfl h1
   | some a=>simp
  | slice a _ _=>cases a <;> simp
  | map a=>cases a <;> simp
  | nilIface=>exact absurd rfl h2
  | nilFunc=>exact absurd rfl h3
  | func f a b=>
   cases a;cases b
   cases f with
   | method m=>exact (h4 _ _ _ rfl).elim
   | _=>simp [cFn]
  | agg a=>cases a;simp
  | tuple a=>cases a;simp
  | _=>simp [conc]
theorem sP_bin (hg:Glob ng μ) (hn:ng≤n) (he:ltL n e=true) {o:Oper} {op:BinOp} {t u:TypeId} {x y:Operand} (hop:o.op = .binOp op t x y u) (hx:okOpd ng x=true) (hy:okOpd ng y=true)
  {v:Value} (hv:evP e (.bin op (cOpd x) (cOpd y))=some v):PSound P μ n e o v:=by
 intro w
 obtain ⟨_,hcx,hlx⟩:=opV (e:=e) hg hn he hx
 obtain ⟨_,hcy,hly⟩:=opV (e:=e) hg hn he hy
 simp only [evP] at hv
 generalize (cOpd x).ev e=X at hv hcx hlx
 generalize (cOpd y).ev e=Y at hv hcy hly
 have hb:=bin_sound (P:=P) (n:=n) (μ:=μ) (t:=t) hv w
 refine ⟨?_,hb.2⟩
 have hgd:(eqGuard op t x y (conc μ X) (conc μ Y)).run P w = .ok () w:=by
  unfold bin at hv
  split at hv
  ·simp only [eqGuard,conc_int];cases op <;> simp
  ·simp only [eqGuard,conc_string];cases op <;> simp
  ·simp at hv
 simp [execOp,hop,hcx,hcy,hgd,hb.1]
theorem sP_un (hg:Glob ng μ) (hn:ng≤n) (he:ltL n e=true) {o:Oper} {op:UnOp} {t:TypeId} {x:Operand} (hop:o.op = .unOp op t x) (ho:okOpd ng x=true)
  {v:Value} (hv:evP e (.un op (cOpd x))=some v):PSound P μ n e o v:=by
 intro w
 obtain ⟨_,hc,hl⟩:=opV (e:=e) hg hn he ho
 simp only [evP] at hv
 generalize (cOpd x).ev e=X at hv hc hl
 split at hv
 ·simp at hv;subst hv;simp [execOp,hop,hc,Op.unary,Op.intArith]
 ·simp [bits] at hv;subst hv;simp [execOp,hop,hc,Op.unary,Op.intBits]
 ·simp at hv;subst hv;simp [execOp,hop,hc,Op.unary]
 ·simp at hv
theorem sP_conv (hg:Glob ng μ) (hn:ng≤n) (he:ltL n e=true) {o:Oper} {src dst:TypeId} {j k:IntKind} {x:Operand} (hop:o.op = .convert src dst x) (h1:P.underlying src=some (.int j)) (h2:P.underlying dst=some (.int k)) (ho:okOpd ng x=true)
  {v:Value} (hv:evP e (.conv k (cOpd x))=some v):PSound P μ n e o v:=by
 intro w
 obtain ⟨_,hc,hl⟩:=opV (e:=e) hg hn he ho
 simp only [evP] at hv
 generalize (cOpd x).ev e=X at hv hc hl
 split at hv
 ·simp at hv;subst hv;simp [execOp,hop,hc,Go.convert,run_und h1,run_und h2,Conv.intToInt]
 ·simp at hv
theorem sP_convStr (hg:Glob ng μ) (hn:ng≤n) (he:ltL n e=true) {o:Oper} {src dst:TypeId} {x:Operand} (hop:o.op = .convert src dst x) (h1:P.underlying src=some .string) (h2:P.underlying dst=some .string) (ho:okOpd ng x=true)
  {v:Value} (hv:evP e (.convStr (cOpd x))=some v):PSound P μ n e o v:=by
 intro w
 obtain ⟨_,hc,hl⟩:=opV (e:=e) hg hn he ho
 simp only [evP] at hv
 generalize (cOpd x).ev e=X at hv hc hl
 split at hv
 ·simp at hv;subst hv;simp [execOp,hop,hc,Go.convert,run_und h1,run_und h2]
 ·simp at hv
theorem sP_mkI (hg:Glob ng μ) (hn:ng≤n) (he:ltL n e=true) {o:Oper} {t:TypeId} {d:TypeDesc} {x:Operand} (hop:o.op = .makeInterface t x) (h1:P.underlying t=some d) (h2:∀ ms,d ≠ .interface ms) (ho:okOpd ng x=true)
  {v:Value} (hv:evP e (.mkI t (cOpd x))=some v):PSound P μ n e o v:=by
 intro w
 obtain ⟨_,hc,hl⟩:=opV (e:=e) hg hn he ho
 simp [evP] at hv
 subst hv
 refine ⟨?_,by simpa using hl⟩
 simp only [execOp,hop,hc,Instr.makeInterface,Sem.run_bind,run_und h1,Result.andThen_ok]
 cases d <;> first | (exact absurd rfl (h2 _)) | simp
theorem sP_faddr (hg:Glob ng μ) (hn:ng≤n) (he:ltL n e=true) {o:Oper} {t:TypeId} {f k:Nat} {fs:Array Field} {fl:Field} {x:Operand} (hop:o.op = .fieldAddr t x f)
  (h1:P.underlying t=some (.struct fs)) (h2:fs[f]? = some fl) (h3:szOf P fl.type=some (k + 1)) (ho:okOpd ng x=true)
  {v:Value} (hv:evP e (.faddr fl.offset (cOpd x))=some v):PSound P μ n e o v:=by
 intro w
 obtain ⟨_,hc,hl⟩:=opV (e:=e) hg hn he ho
 simp only [evP] at hv
 generalize (cOpd x).ev e=X at hv hc hl
 split at hv
 ·rename_i a
  simp at hv;subst hv
  rw [lt_psome] at hl
  refine ⟨?_,by simpa using hl.1⟩
  simp [execOp,hop,hc,Instr.fieldAt,run_und h1,h2,Instr.sureAddr,fieldPlace,run_sz h3,cAddr_eta μ a hl.2,cAddr]
  simp [hl.2,add_mk,Nat.add_assoc]
 ·simp at hv
theorem sP_field (hg:Glob ng μ) (hn:ng≤n) (he:ltL n e=true) {o:Oper} {t:TypeId} {f:Nat} {m:Option Nat} {fs:Array Field} {fl:Field} {x:Operand} (hop:o.op = .field t x f)
  (h1:P.underlying t=some (.struct fs)) (h2:fs[f]? = some fl) (h3:partOf P fl.type=some m) (ho:okOpd ng x=true)
  {v:Value} (hv:evP e (.field fl.offset m (cOpd x))=some v):PSound P μ n e o v:=by
 intro w
 obtain ⟨_,hc,hl⟩:=opV (e:=e) hg hn he ho
 simp only [evP] at hv
 generalize (cOpd x).ev e=X at hv hc hl
 split at hv
 ·rename_i cs
  refine ⟨?_,partV_lt hv (by simpa using hl)⟩
  simp [execOp,hop,hc,Instr.field,run_und h1,h2,asAgg,part_sound h3 hv]
 ·simp at hv
theorem sP_iaddrS (hg:Glob ng μ) (hn:ng≤n) (he:ltL n e=true) {o:Oper} {t el:TypeId} {k:Nat} {x i:Operand} (hop:o.op = .indexAddr t x i)
  (h1:P.underlying t=some (.slice el)) (h3:szOf P el=some k) (hx:okOpd ng x=true) (hi:okOpd ng i=true)
  {v:Value} (hv:evP e (.iaddrS k (cOpd x) (cOpd i))=some v):PSound P μ n e o v:=by
 intro w
 obtain ⟨_,hcx,hlx⟩:=opV (e:=e) hg hn he hx
 obtain ⟨_,hci,hli⟩:=opV (e:=e) hg hn he hi
 simp only [evP] at hv
 generalize (cOpd x).ev e=X at hv hcx hlx
 generalize (cOpd i).ev e=I at hv hci hli
 split at hv
 ·rename_i a len c kd j
  split at hv
  ·rename_i hj
   simp at hv;subst hv
   rw [lt_ssome] at hlx
   replace hlx:a.block < n∧a.spot=none:=⟨hlx.1,by rcases hlx.2 with h | ⟨h,_⟩;exact h;exfalso;omega⟩
   refine ⟨?_,by simpa using hlx.1⟩
   simp [execOp,hop,hcx,hci,Instr.indexAt,asIntOf,run_und h1,hj,run_sz h3,cAddr_eta μ a hlx.2,cAddr]
   simp [hlx.2,add_mk,Nat.add_assoc]
  ·simp at hv
 ·simp at hv
theorem sP_iaddrA (hg:Glob ng μ) (hn:ng≤n) (he:ltL n e=true) {o:Oper} {t el:TypeId} {k len:Nat} {x i:Operand} (hop:o.op = .indexAddr t x i)
  (h1:P.underlying t=some (.array len el)) (h3:szOf P el=some k) (hx:okOpd ng x=true) (hi:okOpd ng i=true)
  {v:Value} (hv:evP e (.iaddrA k len (cOpd x) (cOpd i))=some v):PSound P μ n e o v:=by
 intro w
 obtain ⟨_,hcx,hlx⟩:=opV (e:=e) hg hn he hx
 obtain ⟨_,hci,hli⟩:=opV (e:=e) hg hn he hi
 simp only [evP] at hv
 generalize (cOpd x).ev e=X at hv hcx hlx
 generalize (cOpd i).ev e=I at hv hci hli
 split at hv
 ·rename_i a kd j
  split at hv
  ·rename_i hj
   simp at hv;subst hv
   rw [lt_psome] at hlx
   refine ⟨?_,by simpa using hlx.1⟩
   simp [execOp,hop,hcx,hci,Instr.indexAt,asIntOf,run_und h1,hj,run_sz h3,Instr.sureAddr,cAddr_eta μ a hlx.2,cAddr]
   simp [hlx.2,add_mk,Nat.add_assoc]
  ·simp at hv
 ·simp at hv
theorem sP_idxS (hg:Glob ng μ) (hn:ng≤n) (he:ltL n e=true) {o:Oper} {t:TypeId} {x i:Operand} (hop:o.op = .index t x i)
  (h1:P.underlying t=some .string) (hx:okOpd ng x=true) (hi:okOpd ng i=true)
  {v:Value} (hv:evP e (.idxS (cOpd x) (cOpd i))=some v):PSound P μ n e o v:=by
 intro w
 obtain ⟨_,hcx,hlx⟩:=opV (e:=e) hg hn he hx
 obtain ⟨_,hci,hli⟩:=opV (e:=e) hg hn he hi
 simp only [evP] at hv
 generalize (cOpd x).ev e=X at hv hcx hlx
 generalize (cOpd i).ev e=I at hv hci hli
 split at hv
 ·rename_i s kd j
  split at hv
  ·rename_i hj
   simp only [Option.map_eq_some_iff] at hv
   obtain ⟨b,hb,rfl⟩:=hv
   simp [execOp,hop,hcx,hci,Instr.index,asIntOf,run_und h1,hj,hb]
  ·simp at hv
 ·simp at hv
theorem sP_idxA (hg:Glob ng μ) (hn:ng≤n) (he:ltL n e=true) {o:Oper} {t el:TypeId} {k len:Nat} {m:Option Nat} {x i:Operand} (hop:o.op = .index t x i)
  (h1:P.underlying t=some (.array len el)) (h2:szOf P el=some k) (h3:partOf P el=some m) (hx:okOpd ng x=true) (hi:okOpd ng i=true)
  {v:Value} (hv:evP e (.idxA k len m (cOpd x) (cOpd i))=some v):PSound P μ n e o v:=by
 intro w
 obtain ⟨_,hcx,hlx⟩:=opV (e:=e) hg hn he hx
 obtain ⟨_,hci,hli⟩:=opV (e:=e) hg hn he hi
 simp only [evP] at hv
 generalize (cOpd x).ev e=X at hv hcx hlx
 generalize (cOpd i).ev e=I at hv hci hli
 split at hv
 ·rename_i cs kd j
  split at hv
  ·rename_i hj
   refine ⟨?_,partV_lt hv (by simpa using hlx)⟩
   simp [execOp,hop,hcx,hci,Instr.index,asIntOf,run_und h1,hj,run_sz h2,part_sound h3 hv]
  ·simp at hv
 ·simp at hv
theorem sP_ext (hg:Glob ng μ) (hn:ng≤n) (he:ltL n e=true) {o:Oper} {i:Nat} {x:Operand} (hop:o.op = .extract x i) (ho:okOpd ng x=true)
  {v:Value} (hv:evP e (.ext (cOpd x) i)=some v):PSound P μ n e o v:=by
 intro w
 obtain ⟨_,hc,hl⟩:=opV (e:=e) hg hn he ho
 simp only [evP] at hv
 generalize (cOpd x).ev e=X at hv hc hl
 split at hv
 ·rename_i vs
  rw [nthV_eq] at hv
  refine ⟨?_,ltL_getElem (by simpa using hl) hv⟩
  simp [execOp,hop,hc,Instr.extract,concL_getElem?,hv]
 ·simp at hv
theorem evs_conc (hg:Glob ng μ) (e:List Value):∀ (l:List Operand),(∀ x∈l,okOpd ng x=true)→l.map (evc μ e)=concL μ (evs e (l.map cOpd))
 | [],_=>by simp [evs,concL]
 | x::l,h=>by simp [evs,concL,opd_conc hg e (h x (by simp)),evs_conc hg e l fun y hy=>h y (by simp [hy])]
theorem evs_lt (hn:ng≤n) (he:ltL n e=true):∀ (l:List Operand),(∀ x∈l,okOpd ng x=true)→ltL n (evs e (l.map cOpd))=true
 | [],_=>by simp [evs,ltL]
 | x::l,h=>by simp [evs,ltL,opd_lt hn he (h x (by simp)),evs_lt hn he l fun y hy=>h y (by simp [hy])]
theorem sP_mkF (hg:Glob ng μ) (hn:ng≤n) (he:ltL n e=true) {o:Oper} {f:Fn} (hf:cFn μ f=f∧ltFn n f=true) {a b:Array Operand} (hop:o.op = .makeFunc f a b) (ha:∀ x∈a.toList,okOpd ng x=true) (hb:∀ x∈b.toList,okOpd ng x=true)
  {v:Value} (hv:evP e (.mkF f (a.toList.map cOpd) (b.toList.map cOpd))=some v):PSound P μ n e o v:=by
 intro w
 simp [evP] at hv;subst hv
 refine ⟨?_,by simp [hf.2,evs_lt hn he _ ha,evs_lt hn he _ hb]⟩
 have h1:a.map (evc μ e)=⟨concL μ (evs e (a.toList.map cOpd))⟩:=by apply Array.ext';simp [← evs_conc hg e _ ha]
 have h2:b.map (evc μ e)=⟨concL μ (evs e (b.toList.map cOpd))⟩:=by apply Array.ext';simp [← evs_conc hg e _ hb]
 simp [execOp,hop,Instr.makeFunc,h1,h2,hf.1]
end
end Go.Proofs.YtnpoloachkcadaaGreatDoor.Ai
namespace Go.Proofs.YtnpoloachkcadaaGreatDoor.Ai
open Go
set_option linter.unusedSimpArgs false
section
variable {P:Program} {ng n:Nat} {ts:List TypeId} {μ:Nat→Loc} {e:List Value}
theorem bound_sound (hg:Glob ng μ) {x:Option Operand} (hx:∀ y,x=some y→okOpd ng y=true) {d y r:Nat} (h:bound e d y (x.map cOpd)=some r) (code:BoundsCode) (w:World) :
  (x=none→r=d)∧∀ z,x=some z→(Instr.sliceBound (evc μ e z) y code).run P w = .ok r w∧r≤y:=by
 cases x with
 | none=>simp [bound] at h;simp [h]
 | some z=>
  refine ⟨by simp,?_⟩
  intro z' hz'
  simp at hz';subst hz'
  simp only [Option.map_some,bound] at h
  rw [opd_conc hg e (hx z rfl)]
  split at h
  ·rename_i k i hk
   split at h
   ·rename_i hi
    simp at h;subst h
    rw [hk]
    refine ⟨by simp [Instr.sliceBound,asIntOf,hi],by omega⟩
   ·simp at h
  ·simp at h
theorem bounds_sound (hg:Glob ng μ) {lo hi mx:Option Operand} (hlo:∀ y,lo=some y→okOpd ng y=true) (hhi:∀ y,hi=some y→okOpd ng y=true) (hmx:∀ y,mx=some y→okOpd ng y=true)
  {isSlice:Bool} {len cap c m h l:Nat} (h1:bound e cap cap (mx.map cOpd)=some m) (h2:bound e len m (hi.map cOpd)=some h) (h3:bound e 0 h (lo.map cOpd)=some l)
  (hc:cap≤c) (hex:mx ≠ none→hi ≠ none) (hlen:len≤cap) (w:World) :
  (Instr.sliceBounds isSlice len c (lo.map (evc μ e)) (hi.map (evc μ e)) (mx.map (evc μ e))).run P w = .ok (l,h,if mx=none then c else m) w∧l≤h∧h≤m∧m≤cap:=by
 have hm:m≤cap:=by
  cases mx with
  | none=>have:=(bound_sound (P:=P) hg hmx h1 .index w).1 rfl;omega
  | some z=>exact ((bound_sound (P:=P) hg hmx h1 .index w).2 z rfl).2
 have hh:h≤m:=by
  cases hi with
  | none=>
   have h4:=(bound_sound (P:=P) hg hhi h2 .index w).1 rfl
   cases mx with
   | none=>have:=(bound_sound (P:=P) hg hmx h1 .index w).1 rfl;omega
   | some z=>exact absurd rfl (hex (by simp))
  | some z=>exact ((bound_sound (P:=P) hg hhi h2 .index w).2 z rfl).2
 have hl:l≤h:=by
  cases lo with
  | none=>have:=(bound_sound (P:=P) hg hlo h3 .index w).1 rfl;omega
  | some z=>exact ((bound_sound (P:=P) hg hlo h3 .index w).2 z rfl).2
 refine ⟨?_,hl,hh,hm⟩
 unfold Instr.sliceBounds
 cases mx with
 | none=>
  cases hi with
  | none=>
   have e2:=(bound_sound (P:=P) hg hhi h2 .index w).1 rfl
   cases lo with
   | none=>have e3:=(bound_sound (P:=P) hg hlo h3 .index w).1 rfl;simp [e2,e3]
   | some z=>
    have e3:=(bound_sound (P:=P) hg hlo h3 .sliceB w).2 z rfl
    subst e2
    simp [e3.1]
  | some y=>
   have e1:m=cap:=(bound_sound (P:=P) hg hmx h1 .index w).1 rfl
   have key:∀ code,(Instr.sliceBound (evc μ e y) c code).run P w = .ok h w:=by
    intro code
    have hb:=h2
    simp only [Option.map_some,bound] at hb
    rw [opd_conc hg e (hhi y rfl)]
    split at hb
    ·rename_i k i hk
     split at hb
     ·rename_i hi'
      simp at hb;subst hb
      rw [hk]
      have:0≤i∧i≤(c:Int):=by omega
      simp [Instr.sliceBound,asIntOf,this]
     ·simp at hb
    ·simp at hb
   cases lo with
   | none=>have e3:=(bound_sound (P:=P) hg hlo h3 .index w).1 rfl;simp [key,e3]
   | some z=>
    have e3:=(bound_sound (P:=P) hg hlo h3 .sliceB w).2 z rfl
    simp [key,e3.1]
 | some q=>
  have key:∀ code,(Instr.sliceBound (evc μ e q) c code).run P w = .ok m w:=by
   intro code
   have hb:=h1
   simp only [Option.map_some,bound] at hb
   rw [opd_conc hg e (hmx q rfl)]
   split at hb
   ·rename_i k i hk
    split at hb
    ·rename_i hi'
     simp at hb;subst hb
     rw [hk]
     have:0≤i∧i≤(c:Int):=by omega
     simp [Instr.sliceBound,asIntOf,this]
    ·simp at hb
   ·simp at hb
  cases hi with
  | none=>exact absurd rfl (hex (by simp))
  | some y=>
   have e2:=(bound_sound (P:=P) hg hhi h2 .slice3B w).2 y rfl
   cases lo with
   | none=>have e3:=(bound_sound (P:=P) hg hlo h3 .index w).1 rfl;simp [key,e2.1,e3]
   | some z=>
    have e3:=(bound_sound (P:=P) hg hlo h3 .slice3C w).2 z rfl
    simp [key,e2.1,e3.1]
theorem sP_slS (hg:Glob ng μ) (hn:ng≤n) (he:ltL n e=true) {o:Oper} {t:TypeId} {x:Operand} {lo hi:Option Operand} (hop:o.op = .slice t x lo hi none)
  (h1:P.underlying t=some .string) (hx:okOpd ng x=true) (hlo:∀ y,lo=some y→okOpd ng y=true) (hhi:∀ y,hi=some y→okOpd ng y=true)
  {v:Value} (hv:evP e (.slS (cOpd x) (lo.map cOpd) (hi.map cOpd))=some v):PSound P μ n e o v:=by
 intro w
 obtain ⟨_,hc,hl⟩:=opV (e:=e) hg hn he hx
 simp only [evP] at hv
 generalize (cOpd x).ev e=X at hv hc hl
 split at hv
 ·rename_i s
  simp only [Option.bind_eq_some_iff,Option.map_eq_some_iff] at hv
  obtain ⟨h,hh,l,hl',rfl⟩:=hv
  have hb:=(bounds_sound (P:=P) (mx:=none) (isSlice:=false) (cap:=s.size) (c:=s.size) hg hlo hhi (by simp) (by simp [bound]) hh hl' (Nat.le_refl _) (by simp) (Nat.le_refl _) w).1
  simp only [if_true,Option.map_none] at hb
  simp [execOp,hop,hc,Instr.sliceAt,Instr.slice,run_und h1,hb]
 ·simp at hv
theorem sP_max (hg:Glob ng μ) (hn:ng≤n) (he:ltL n e=true) {o:Oper} {ats:Array TypeId} {x y:Operand} (hop:o.op = .call {callee:=.builtin .max,args:=#[x,y],argTypes:=ats })
  (hx:okOpd ng x=true) (hy:okOpd ng y=true) {v:Value} (hv:evP e (.max (cOpd x) (cOpd y))=some v):PSound P μ n e o v:=by
 intro w
 obtain ⟨_,hcx,hlx⟩:=opV (e:=e) hg hn he hx
 obtain ⟨_,hcy,hly⟩:=opV (e:=e) hg hn he hy
 simp only [evP] at hv
 generalize (cOpd x).ev e=X at hv hcx hlx
 generalize (cOpd y).ev e=Y at hv hcy hly
 split at hv
 ·simp at hv;subst hv
  simp [execOp,hop,resolve,invoke,builtin,hcx,hcy,Builtin.max_,Builtin.max2]
 ·simp at hv
theorem sP_min (hg:Glob ng μ) (hn:ng≤n) (he:ltL n e=true) {o:Oper} {ats:Array TypeId} {x y:Operand} (hop:o.op = .call {callee:=.builtin .min,args:=#[x,y],argTypes:=ats })
  (hx:okOpd ng x=true) (hy:okOpd ng y=true) {v:Value} (hv:evP e (.min (cOpd x) (cOpd y))=some v):PSound P μ n e o v:=by
 intro w
 obtain ⟨_,hcx,hlx⟩:=opV (e:=e) hg hn he hx
 obtain ⟨_,hcy,hly⟩:=opV (e:=e) hg hn he hy
 simp only [evP] at hv
 generalize (cOpd x).ev e=X at hv hcx hlx
 generalize (cOpd y).ev e=Y at hv hcy hly
 split at hv
 ·simp at hv;subst hv
  simp [execOp,hop,resolve,invoke,builtin,hcx,hcy,Builtin.min_,Builtin.min2]
 ·simp at hv
theorem sP_lenS (hg:Glob ng μ) (hn:ng≤n) (he:ltL n e=true) {o:Oper} {t:TypeId} {x:Operand} (hop:o.op = .call {callee:=.builtin .len,args:=#[x],argTypes:=#[t] })
  (h1:P.underlying t=some .string) (hx:okOpd ng x=true) {v:Value} (hv:evP e (.lenS (cOpd x))=some v):PSound P μ n e o v:=by
 intro w
 obtain ⟨_,hcx,hlx⟩:=opV (e:=e) hg hn he hx
 simp only [evP] at hv
 generalize (cOpd x).ev e=X at hv hcx hlx
 split at hv
 ·simp at hv;subst hv
  simp [execOp,hop,resolve,invoke,builtin,hcx,Builtin.len_,run_und h1,goInt]
 ·simp at hv
theorem sP_lenL (hg:Glob ng μ) (hn:ng≤n) (he:ltL n e=true) {o:Oper} {t el:TypeId} {x:Operand} (hop:o.op = .call {callee:=.builtin .len,args:=#[x],argTypes:=#[t] })
  (h1:P.underlying t=some (.slice el)) (hx:okOpd ng x=true) {v:Value} (hv:evP e (.lenL (cOpd x))=some v):PSound P μ n e o v:=by
 intro w
 obtain ⟨_,hcx,hlx⟩:=opV (e:=e) hg hn he hx
 simp only [evP] at hv
 generalize (cOpd x).ev e=X at hv hcx hlx
 split at hv
 ·rename_i a m c
  simp at hv;subst hv
  cases a <;> simp [execOp,hop,resolve,invoke,builtin,hcx,Builtin.len_,run_und h1,goInt]
 ·simp at hv
theorem sP_lenC {o:Oper} {t:TypeId} {x:Operand} {k:Nat} (hop:o.op = .call {callee:=.builtin .len,args:=#[x],argTypes:=#[t] })
  (h1:(∃ el,P.underlying t=some (.array k el))∨∃ a el,P.underlying t=some (.pointer a)∧P.underlying a=some (.array k el)) {v:Value} (hv:evP e (.lenC k)=some v):PSound P μ n e o v:=by
 intro w
 simp [evP] at hv;subst hv
 rcases h1 with ⟨el,h1⟩ | ⟨a,el,h1,h2⟩
 ·simp [execOp,hop,resolve,invoke,builtin,Builtin.len_,run_und h1,goInt]
 ·simp [execOp,hop,resolve,invoke,builtin,Builtin.len_,run_und h1,run_und h2,goInt]
theorem zeroOf_some {t:TypeId} {z:Value} (h:zeroOf P t=some z):lt 0 z=true∧∀ w,(zeroValue t).run P w = .ok z w:=by
 unfold zeroOf at h
 split at h
 ·rename_i i hi
  split at h
  ·rename_i v hv
   split at h
   ·rename_i hl
    simp at h;subst h
    exact ⟨hl,fun w=>by simp [zeroValue,run_info hi,hv]⟩
   ·simp at h
  ·simp at h
 ·simp at h
theorem sP_tassert (hg:Glob ng μ) (hn:ng≤n) (he:ltL n e=true) {o:Oper} {xt t:TypeId} {d:TypeDesc} {ok:Bool} {z:Option Value} {x:Operand} (hop:o.op = .typeAssert x xt t ok)
  (h1:P.underlying t=some d) (hd:∀ ms,d ≠ .interface ms) (hz:if ok then ∃ y,z=some y∧zeroOf P t=some y else z=none) (hx:okOpd ng x=true)
  {v:Value} (hv:evP e (.tassert t z (cOpd x))=some v):PSound P μ n e o v:=by
 intro w
 obtain ⟨_,hcx,hlx⟩:=opV (e:=e) hg hn he hx
 simp only [evP] at hv
 generalize (cOpd x).ev e=X at hv hcx hlx
 have hu:=run_und h1 w
 split at hv
 ·rename_i u v' _
  cases ok with
  | true=>simp at hz
  | false=>
   split at hv
   ·rename_i hut
    simp at hv;subst hv
    refine ⟨?_,by simpa using hlx⟩
    simp only [execOp,hop,hcx,Instr.typeAssert,Sem.run_bind,hu,Result.andThen_ok,conc_iface]
    cases d <;> first | (exact absurd rfl (hd _)) | simp [hut]
   ·simp at hv
 ·rename_i u v' z' _
  cases ok with
  | false=>simp at hz
  | true=>
   simp only [if_true] at hz
   obtain ⟨y,hy',hz⟩:=hz
   simp only [Option.some.injEq] at hy'
   subst hy'
   obtain ⟨hz0,hzr⟩:=zeroOf_some hz
   split at hv
   ·rename_i hut
    simp at hv;subst hv
    refine ⟨?_,by simpa [ltL] using hlx⟩
    simp only [execOp,hop,hcx,Instr.typeAssert,Sem.run_bind,hu,Result.andThen_ok,conc_iface]
    cases d <;> first | (exact absurd rfl (hd _)) | simp [hut,concL]
   ·rename_i hut
    simp at hv;subst hv
    refine ⟨?_,by simp [ltL,lt_mono (Nat.zero_le n) _ hz0]⟩
    simp only [execOp,hop,hcx,Instr.typeAssert,Sem.run_bind,hu,Result.andThen_ok,conc_iface]
    cases d <;> first | (exact absurd rfl (hd _)) | simp [hut,concL,hzr,conc_zero μ _ hz0]
 ·rename_i z' _
  cases ok with
  | false=>simp at hz
  | true=>
   simp only [if_true] at hz
   obtain ⟨y,hy',hz⟩:=hz
   simp only [Option.some.injEq] at hy'
   subst hy'
   obtain ⟨hz0,hzr⟩:=zeroOf_some hz
   simp at hv;subst hv
   refine ⟨?_,by simp [ltL,lt_mono (Nat.zero_le n) _ hz0]⟩
   simp only [execOp,hop,hcx,Instr.typeAssert,Sem.run_bind,hu,Result.andThen_ok,conc_nilIface]
   cases d <;> first | (exact absurd rfl (hd _)) | simp [concL,hzr,conc_zero μ _ hz0]
 ·simp at hv
def eqFit (c:Bool):TypeDesc→EqT→Prop
 | .bool,.bool=>True
 | .interface _,.iface=>True
 | .interface _,.ifaceN=>c=true
 | .slice _,.nilS | .map _ _,.nilM | .func _ _ _,.nilF=>True
 | _,_=>False
inductive EqCase (c:Bool):TypeDesc→EqT→Value→Value→Bool→Prop
 | bool (a b:Bool):EqCase c .bool .bool (.bool a) (.bool b) (a == b)
 | if1 (ms t v):EqCase c (.interface ms) .iface .nilIface (.iface t v) false
 | if2 (ms t v):EqCase c (.interface ms) .iface (.iface t v) .nilIface false
 | in0 (ms) (h:c=true):EqCase c (.interface ms) .ifaceN .nilIface .nilIface true
 | in1 (ms t v):EqCase c (.interface ms) .ifaceN .nilIface (.iface t v) false
 | in2 (ms t v):EqCase c (.interface ms) .ifaceN (.iface t v) .nilIface false
 | s0 (el a b c' d):EqCase c (.slice el) .nilS (.slice none a b) (.slice none c' d) true
 | s1 (el a b x c' d):EqCase c (.slice el) .nilS (.slice none a b) (.slice (some x) c' d) false
 | s2 (el a b x c' d):EqCase c (.slice el) .nilS (.slice (some x) a b) (.slice none c' d) false
 | m0 (k el):EqCase c (.map k el) .nilM (.map none) (.map none) true
 | m1 (k el x):EqCase c (.map k el) .nilM (.map none) (.map (some x)) false
 | m2 (k el x):EqCase c (.map k el) .nilM (.map (some x)) (.map none) false
 | f0 (p r vr):EqCase c (.func p r vr) .nilF .nilFunc .nilFunc true
 | f1 (p r vr f a b):EqCase c (.func p r vr) .nilF .nilFunc (.func f ⟨a⟩ ⟨b⟩) false
 | f2 (p r vr f a b):EqCase c (.func p r vr) .nilF (.func f ⟨a⟩ ⟨b⟩) .nilFunc false
theorem eqCase {c:Bool} {d:TypeDesc} {E:EqT} {X Y:Value} {b:Bool} (hE:eqFit c d E) (hb:eqv E X Y=some b):EqCase c d E X Y b:=by
 unfold eqv at hb
 split at hb <;> (try simp only [Option.some.injEq,reduceCtorEq] at hb) <;> (try subst hb) <;> cases d <;> simp only [eqFit] at hE
 all_goals first
  | (constructor;done)
  | (exact .in0 _ hE)
  | (rename_i f x y _ _ _;cases x;cases y;constructor)
theorem eqv_run {c:Bool} {t:TypeId} {d:TypeDesc} {E:EqT} {X Y:Value} {b:Bool} (h1:P.underlying t=some d) (hE:EqCase c d E X Y b) (k:Nat) (w:World) :
  (Op.equalIn (k + 1) t (conc μ X) (conc μ Y)).run P w = .ok b w:=by
 cases hE <;> simp [Op.equalIn,run_und h1]
theorem eqGuard_run {op:BinOp} {t:TypeId} {d:TypeDesc} {E:EqT} {X Y:Value} {b:Bool} {x y:Operand} (hE:EqCase (isConst x || isConst y) d E X Y b) (w:World) :
  (eqGuard op t x y (conc μ X) (conc μ Y)).run P w = .ok () w:=by
 cases hE
 case in0 h=>simp only [Bool.or_eq_true] at h;cases op <;> cases x <;> cases y <;> simp [eqGuard,isConst] at h ⊢
 all_goals (cases op <;> simp [eqGuard])
theorem binOp_eql {c:Bool} {t:TypeId} {d:TypeDesc} {E:EqT} {X Y:Value} {b:Bool} (hE:EqCase c d E X Y b) :
  binOp .eql t (conc μ X) (conc μ Y)=(do pure (.bool (← Op.equal t (conc μ X) (conc μ Y))))∧binOp .neq t (conc μ X) (conc μ Y)=(do pure (.bool (!(← Op.equal t (conc μ X) (conc μ Y))))):=by
 cases hE <;> simp only [conc_bool,conc_nilIface,conc_iface,conc_snone,conc_ssome,conc_mnone,conc_msome,conc_nilFunc,conc_func] <;> exact ⟨rfl,rfl⟩
theorem sP_eqv (hg:Glob ng μ) (hn:ng≤n) (he:ltL n e=true) {o:Oper} {op:BinOp} {t u:TypeId} {d:TypeDesc} {E:EqT} {x y:Operand} (hop:o.op = .binOp op t x y u) (hq:op = .eql∨op = .neq)
  (h1:P.underlying t=some d) (hE:eqFit (isConst x || isConst y) d E) (hx:okOpd ng x=true) (hy:okOpd ng y=true)
  {v:Value} (hv:evP e (.eqv (isNeq op) E (cOpd x) (cOpd y))=some v):PSound P μ n e o v:=by
 intro w
 obtain ⟨_,hcx,hlx⟩:=opV (e:=e) hg hn he hx
 obtain ⟨_,hcy,hly⟩:=opV (e:=e) hg hn he hy
 simp only [evP,Option.map_eq_some_iff] at hv
 generalize (cOpd x).ev e=X at hv hcx hlx
 generalize (cOpd y).ev e=Y at hv hcy hly
 obtain ⟨b,hb,rfl⟩:=hv
 refine ⟨?_,by simp⟩
 have hE:=eqCase hE hb
 have k1:(Op.equal t (conc μ X) (conc μ Y)).run P w = .ok b w:=eqv_run (k:=9999) h1 hE w
 have k2:=eqGuard_run (P:=P) (μ:=μ) (op:=op) (t:=t) hE w
 have k3:=binOp_eql (μ:=μ) (t:=t) hE
 rcases hq with rfl | rfl
 ·simp only [execOp,hop,hcx,hcy,Sem.run_bind,k2,Result.andThen_ok,k3.1,k1,Sem.run_pure,conc_bool,isNeq];simp
 ·simp only [execOp,hop,hcx,hcy,Sem.run_bind,k2,Result.andThen_ok,k3.2,k1,Sem.run_pure,conc_bool,isNeq];simp
end
end Go.Proofs.YtnpoloachkcadaaGreatDoor.Ai
namespace Go.Proofs.YtnpoloachkcadaaGreatDoor.Ai
open Go
set_option linter.unusedSimpArgs false
section
variable {P:Program} {ng n:Nat} {ts:List TypeId} {μ:Nat→Loc} {e:List Value}
theorem cFlat_some {t:TypeId} {q:EqT} (h:cFlat P t=some q):(P.underlying t=some .bool∧q = .bool)∨(∃ k,P.underlying t=some (.int k)∧q = .int)∨(P.underlying t=some .string∧q = .str):=by
 unfold cFlat at h
 split at h <;> simp at h
 ·rename_i hu;exact .inl ⟨hu,h.symm⟩
 ·rename_i k hu;exact .inr (.inl ⟨k,hu,h.symm⟩)
 ·rename_i hu;exact .inr (.inr ⟨hu,h.symm⟩)
theorem flat_run {t:TypeId} {q:EqT} (h:cFlat P t=some q) {X Y:Value} {b:Bool} (hb:eqv q X Y=some b) (k:Nat) (w:World) :
  (Op.equalIn (k + 1) t (conc μ X) (conc μ Y)).run P w = .ok b w:=by
 rcases cFlat_some h with ⟨hu,rfl⟩ | ⟨j,hu,rfl⟩ | ⟨hu,rfl⟩ <;> unfold eqv at hb <;> split at hb <;> simp_all [Op.equalIn,run_und hu]
theorem flat_now {t:TypeId} {q:EqT} (h:cFlat P t=some q) {X Y:Value} {b:Bool} (hb:eqv q X Y=some b):∃ d,P.underlying t=some d∧Instr.sameNow d (conc μ X) (conc μ Y)=some b:=by
 rcases cFlat_some h with ⟨hu,rfl⟩ | ⟨j,hu,rfl⟩ | ⟨hu,rfl⟩ <;> refine ⟨_,hu,?_⟩ <;> unfold eqv at hb <;> split at hb <;> simp_all [Instr.sameNow]
theorem eqLoop {x y:List Value} {k d:Nat} (hd:k + 1=d) (w:World) (F:Field→Option Bool × PUnit→Sem (ForInStep (Option Bool × PUnit)))
  (hF:∀ f r,F f r=(if f.name ≠ "_" then (do let a ← part f.type ⟨concL μ x⟩ f.offset;let b ← part f.type ⟨concL μ y⟩ f.offset;let c ← Op.equalIn d f.type a b;if (!c)=true then pure (.done (some false,())) else pure (.yield (none,()))) else pure (.yield (none,())))) :
  ∀ (l:List Field) (fs:List (Nat × Option Nat × EqT)) (b:Bool),cFields P l=some fs→eqvFs fs x y=some b→(forIn l ((none,()):Option Bool × PUnit) F).run P w = .ok (if b then none else some false,()) w:=by
 subst hd
 intro l
 induction l with
 | nil=>intro fs b h hb;simp [cFields] at h;subst h;simp [eqvFs] at hb;subst hb;simp
 | cons f l ih=>
  intro fs b h hb
  simp only [cFields] at h
  split at h
  ·simp at h
  ·rename_i hnm
   split at h
   ·rename_i m q r hm hq hr
    simp only [Option.some.injEq] at h
    subst h
    simp only [eqvFs] at hb
    split at hb
    ·rename_i a b' ha hb'
     have h1:=part_sound (μ:=μ) hm ha w
     have h2:=part_sound (μ:=μ) hm hb' w
     simp only [List.forIn_cons,hF,ne_eq,hnm,not_false_eq_true,if_true,Sem.run_bind,h1,h2,Result.andThen_ok]
     split at hb
     ·rename_i ht
      rw [flat_run hq ht]
      simpa using ih r b hr hb
     ·rename_i ht
      simp at hb;subst hb
      rw [flat_run hq ht]
      simp
     ·simp at hb
    ·simp at hb
   ·simp at h
theorem cKey_some {t:TypeId} {q:EqT} (h:cKey P t=some q):cFlat P t=some q∨∃ fs r,P.underlying t=some (.struct fs)∧P.stoodInHeld t=false∧P.eqGuardType P.depth t=false∧cFields P fs.toList=some r∧q = .strct r:=by
 unfold cKey at h
 split at h
 ·rename_i q' hq;simp at h;subst h;exact .inl hq
 ·split at h
  ·rename_i fs hu
   split at h
   ·simp at h
   ·rename_i hs
    simp only [Bool.or_eq_true,not_or,Bool.not_eq_true] at hs
    simp only [Option.map_eq_some_iff] at h
    obtain ⟨r,hr,rfl⟩:=h
    exact .inr ⟨fs,r,hu,hs.1,hs.2,hr,rfl⟩
  ·simp at h
theorem strct_agg {r:List (Nat × Option Nat × EqT)} {X Y:Value} {b:Bool} (hb:eqv (.strct r) X Y=some b):∃ x y,X = .agg ⟨x⟩∧Y = .agg ⟨y⟩∧eqvFs r x y=some b:=by
 unfold eqv at hb
 split at hb <;> simp_all
theorem strct_run {t:TypeId} {fs:Array Field} {r:List (Nat × Option Nat × EqT)} (hu:P.underlying t=some (.struct fs)) (hs:P.stoodInHeld t=false) (hr:cFields P fs.toList=some r)
  {X Y:Value} {b:Bool} (hb:eqv (.strct r) X Y=some b) (k:Nat) (w:World):(Op.equalIn (k + 2) t (conc μ X) (conc μ Y)).run P w = .ok b w:=by
 obtain ⟨x,y,rfl,rfl,hb⟩:=strct_agg hb
 rw [show k + 2=(k + 1) + 1 from rfl]
 generalize hd:k + 1=d
 simp only [Op.equalIn,Sem.run_bind,run_und hu,Result.andThen_ok,conc_agg,run_program,hs]
 rw [← Array.forIn_toList]
 simp only [Bool.false_eq_true,if_false]
 simp only [Sem.run_bind]
 rw [eqLoop (x:=x) (y:=y) hd w _ (fun _ _=>rfl) fs.toList r b hr hb]
 cases b <;> simp
theorem key_run {t:TypeId} {q:EqT} (h:cKey P t=some q) {X Y:Value} {b:Bool} (hb:eqv q X Y=some b) (k:Nat) (w:World):(Op.equalIn (k + 2) t (conc μ X) (conc μ Y)).run P w = .ok b w:=by
 rcases cKey_some h with h1 | ⟨fs,r,hu,hs,_,hr,rfl⟩
 ·exact flat_run h1 hb (k + 1) w
 ·exact strct_run hu hs hr hb k w
theorem checkFlat {t:TypeId} {q:EqT} (h:cFlat P t=some q) (em:Bool) (k:Nat) (v:Value) (w:World):(Instr.checkKey em (k + 1) t v).run P w = .ok () w:=by
 rcases cFlat_some h with ⟨hu,_⟩ | ⟨j,hu,_⟩ | ⟨hu,_⟩ <;> simp [Instr.checkKey,run_und hu]
theorem checkLoop {x:List Value} (em:Bool) {k d:Nat} (hd:k + 1=d) (w:World) (F:Field→PUnit→Sem (ForInStep PUnit))
  (hF:∀ f r,F f r=(if f.name ≠ "_" then (do let a ← part f.type ⟨concL μ x⟩ f.offset;Instr.checkKey em d f.type a;pure (.yield ())) else pure (.yield ()))) :
  ∀ (l:List Field) (fs:List (Nat × Option Nat × EqT)),cFields P l=some fs→(fs.all fun f=>(partV f.2.1 x f.1).isSome)=true→(forIn l () F).run P w = .ok () w:=by
 subst hd
 intro l
 induction l with
 | nil=>intro fs h hb;simp
 | cons f l ih=>
  intro fs h hb
  simp only [cFields] at h
  split at h
  ·simp at h
  ·rename_i hnm
   split at h
   ·rename_i m q r hm hq hr
    simp only [Option.some.injEq] at h
    subst h
    simp only [List.all_cons,Bool.and_eq_true] at hb
    obtain ⟨a,ha⟩:=Option.isSome_iff_exists.1 hb.1
    have h1:=part_sound (μ:=μ) hm ha w
    simp only [List.forIn_cons,hF,ne_eq,hnm,not_false_eq_true,if_true,Sem.run_bind,h1,Result.andThen_ok]
    rw [checkFlat hq]
    simpa using ih r hr hb.2
   ·simp at h
theorem checkKey_run {t:TypeId} {q:EqT} (h:cKey P t=some q) {X:Value} (hX:keyOK q X=true) (em:Bool) (k:Nat) (w:World):(Instr.checkKey em (k + 2) t (conc μ X)).run P w = .ok () w:=by
 rcases cKey_some h with h1 | ⟨fs,r,hu,hs,_,hr,rfl⟩
 ·exact checkFlat h1 em (k + 1) _ w
 ·unfold keyOK at hX
  split at hX
  ·rename_i r' x heq
   simp only [EqT.strct.injEq] at heq
   subst heq
   rw [show k + 2=(k + 1) + 1 from rfl]
   generalize hd:k + 1=d
   simp only [Instr.checkKey,Sem.run_bind,run_und hu,Result.andThen_ok,conc_agg]
   rw [← Array.forIn_toList]
   rw [checkLoop (x:=x) em hd w _ (fun _ _=>rfl) fs.toList r hr hX]
   simp
  ·simp at hX
  ·rename_i h1 _;exact absurd rfl (h1 _)
def cEnt (μ:Nat→Loc) (x:Value × Value × Nat):MapEntry:={key:=conc μ x.1,val:=conc μ x.2.1,born:=x.2.2 }
theorem findNow_run {t:TypeId} {q:EqT} (h:cFlat P t=some q) {d:TypeDesc} (hd:P.underlying t=some d) {K:Value}:∀ (es:List (Value × Value × Nat)) (i:Nat) (r:Option (Nat × Value)),findK q K es i=some r→
  Instr.findNow d (conc μ K) (es.map (cEnt μ)) i=some (r.map fun x=>(x.1,conc μ x.2)):=by
 intro es
 induction es with
 | nil=>intro i r hr;simp [findK] at hr;subst hr;simp [Instr.findNow]
 | cons x es ih=>
  intro i r hr
  obtain ⟨k',v,c⟩:=x
  simp only [findK] at hr
  simp only [List.map_cons,Instr.findNow,cEnt]
  split at hr
  ·rename_i hb
   obtain ⟨d',h1,h2⟩:=flat_now (μ:=μ) h hb
   rw [hd] at h1;simp at h1;subst h1
   simp at hr;subst hr
   simp [h2]
  ·rename_i hb
   obtain ⟨d',h1,h2⟩:=flat_now (μ:=μ) h hb
   rw [hd] at h1;simp at h1;subst h1
   simp only [h2]
   exact ih _ _ hr
  ·simp at hr
theorem findAsking_run {t:TypeId} {q:EqT} (h:cKey P t=some q) {K:Value} (w:World):∀ (es:List (Value × Value × Nat)) (i:Nat) (r:Option (Nat × Value)),findK q K es i=some r→
  (Instr.findAsking t (conc μ K) (es.map (cEnt μ)) i).run P w = .ok (r.map fun x=>(x.1,conc μ x.2)) w:=by
 intro es
 induction es with
 | nil=>intro i r hr;simp [findK] at hr;subst hr;simp [Instr.findAsking]
 | cons x es ih=>
  intro i r hr
  obtain ⟨k',v,c⟩:=x
  simp only [findK] at hr
  simp only [List.map_cons,Instr.findAsking,cEnt,Op.equal,Op.maxDepth,Sem.run_bind]
  split at hr
  ·rename_i hb
   rw [key_run h hb 9998 w]
   simp at hr;subst hr
   simp
  ·rename_i hb
   rw [key_run h hb 9998 w]
   simpa using ih _ _ hr
  ·simp at hr
theorem findNow_none {d:TypeDesc} (h:∀ k a b,Instr.sameNow d (.agg k) b=a→a=none) {k:Array Value}:∀ (es:List MapEntry) (i:Nat),es ≠ []→Instr.findNow d (.agg k) es i=none:=by
 intro es i hne
 cases es with
 | nil=>exact absurd rfl hne
 | cons e es=>simp only [Instr.findNow];rw [h k _ e.key rfl]
theorem findKey_run {t:TypeId} {q:EqT} (h:cKey P t=some q) {K:Value} (hK:keyOK q K=true) (w:World) {es:List (Value × Value × Nat)} {r:Option (Nat × Value)} (hr:findK q K es 0=some r) :
  (Instr.findKey t (conc μ K) (es.map (cEnt μ))).run P w = .ok (r.map fun x=>(x.1,conc μ x.2)) w:=by
 rcases cKey_some h with h1 | ⟨fs,r',hu,hs,_,_,rfl⟩
 ·obtain ⟨d,hd⟩:∃ d,P.underlying t=some d:=by rcases cFlat_some h1 with ⟨hu,_⟩ | ⟨j,hu,_⟩ | ⟨hu,_⟩ <;> exact ⟨_,hu⟩
  simp [Instr.findKey,run_und hd,findNow_run h1 hd es 0 r hr]
 ·simp only [Instr.findKey,Sem.run_bind,run_und hu,Result.andThen_ok]
  cases es with
  | nil=>simp [findK] at hr;subst hr;simp [Instr.findNow]
  | cons x es=>
   unfold keyOK at hK
   split at hK
   ·rename_i r2 y heq
    have hn:Instr.findNow (.struct fs) (conc μ (.agg ⟨y⟩)) ((x::es).map (cEnt μ)) 0=none:=by
     rw [conc_agg];exact findNow_none (fun _ _ _ hh=>by rw [← hh];rfl) _ _ (by simp)
    rw [hn]
    exact findAsking_run h w (x::es) 0 r hr
   ·simp at hK
   ·rename_i h1 _;exact absurd rfl (h1 _)
theorem findK_lt {q:EqT} {K:Value}:∀ {es:List (Value × Value × Nat)} {i:Nat} {r:Nat × Value},findK q K es i=some (some r)→i≤r.1∧∃ x,es[r.1 - i]? = some x∧x.2.1=r.2
 | [],_,_,h=>by simp [findK] at h
 | (k',v,c)::es,i,r,h=>by
  simp only [findK] at h
  split at h
  ·simp at h;subst h;exact ⟨Nat.le_refl _,(k',v,c),by simp,rfl⟩
  ·obtain ⟨h1,x,h2,h3⟩:=findK_lt h
   refine ⟨by omega,x,?_,h3⟩
   rw [show r.1 - i=(r.1 - (i + 1)) + 1 by omega]
   simpa using h2
  ·simp at h
theorem sP_eqK (hg:Glob ng μ) (hn:ng≤n) (he:ltL n e=true) {o:Oper} {op:BinOp} {t u:TypeId} {fs:Array Field} {q:EqT} {x y:Operand} (hop:o.op = .binOp op t x y u) (hq:op = .eql∨op = .neq)
  (h1:P.underlying t=some (.struct fs)) (hk:cKey P t=some q) (hx:okOpd ng x=true) (hy:okOpd ng y=true)
  {v:Value} (hv:evP e (.eqv (isNeq op) q (cOpd x) (cOpd y))=some v):PSound P μ n e o v:=by
 intro w
 obtain ⟨_,hcx,hlx⟩:=opV (e:=e) hg hn he hx
 obtain ⟨_,hcy,hly⟩:=opV (e:=e) hg hn he hy
 simp only [evP,Option.map_eq_some_iff] at hv
 generalize (cOpd x).ev e=X at hv hcx hlx
 generalize (cOpd y).ev e=Y at hv hcy hly
 obtain ⟨b,hb,rfl⟩:=hv
 refine ⟨?_,by simp⟩
 have k1:(Op.equal t (conc μ X) (conc μ Y)).run P w = .ok b w:=key_run hk hb 9998 w
 rcases cKey_some hk with hf | ⟨fs',r,hu,hs,hgu,hr,rfl⟩
 ·rcases cFlat_some hf with ⟨hu,_⟩ | ⟨j,hu,_⟩ | ⟨hu,_⟩ <;> rw [h1] at hu <;> simp at hu
 ·obtain ⟨x',y',rfl,rfl,_⟩:=strct_agg hb
  have k2:(eqGuard op t x y (conc μ (.agg ⟨x'⟩)) (conc μ (.agg ⟨y'⟩))).run P w = .ok () w:=by
   rcases hq with rfl | rfl <;> simp [eqGuard,conc_agg,run_program,hgu]
  have k3:binOp .eql t (conc μ (.agg ⟨x'⟩)) (conc μ (.agg ⟨y'⟩))=(do pure (.bool (← Op.equal t (conc μ (.agg ⟨x'⟩)) (conc μ (.agg ⟨y'⟩)))))∧binOp .neq t (conc μ (.agg ⟨x'⟩)) (conc μ (.agg ⟨y'⟩))=(do pure (.bool (!(← Op.equal t (conc μ (.agg ⟨x'⟩)) (conc μ (.agg ⟨y'⟩)))))):=by
   rw [conc_agg,conc_agg];exact ⟨rfl,rfl⟩
  rcases hq with rfl | rfl
  ·simp only [execOp,hop,hcx,hcy,Sem.run_bind,k2,Result.andThen_ok,k3.1,k1,Sem.run_pure,conc_bool,isNeq];simp
  ·simp only [execOp,hop,hcx,hcy,Sem.run_bind,k2,Result.andThen_ok,k3.2,k1,Sem.run_pure,conc_bool,isNeq];simp
theorem eqFlat_eqv {q:EqT} {X Y:Value} {b:Bool} (h:eqFlat q X Y=some b):eqv q X Y=some b:=by
 unfold eqFlat at h
 split at h <;> unfold eqv <;> simp_all
theorem cIfaces_some {t:TypeId} {q:EqT}:∀ {ts:List TypeId},(cIfaces P ts).lookup t=some q→cFlat P t=some q∧∃ i,P.info? t=some i∧i.comparable=true
 | [],h=>by simp [cIfaces] at h
 | u::ts,h=>by
  rw [cIfaces,List.filterMap_cons] at h
  split at h
  ·exact cIfaces_some (ts:=ts) h
  ·rename_i x hx
   obtain ⟨u',q'⟩:=x
   split at hx
   ·rename_i i q2 hi hq
    split at hx
    ·rename_i hc
     simp at hx
     obtain ⟨rfl,rfl⟩:=hx
     rw [List.lookup_cons] at h
     split at h
     ·rename_i htu
      have htu':t=u:=by simpa using htu
      subst htu'
      simp at h;subst h
      exact ⟨hq,i,hi,hc⟩
     ·exact cIfaces_some (ts:=ts) h
    ·simp at hx
   ·simp at hx
theorem sP_eqI (hg:Glob ng μ) (hn:ng≤n) (he:ltL n e=true) {o:Oper} {op:BinOp} {t u:TypeId} {ms:Array (String × TypeId)} {x y:Operand} (hop:o.op = .binOp op t x y u) (hq:op = .eql∨op = .neq)
  (h1:P.underlying t=some (.interface ms)) (hx:okOpd ng x=true) (hy:okOpd ng y=true)
  {v:Value} (hv:evP e (.eqv (isNeq op) (.ifaceT (cIfaces P ts)) (cOpd x) (cOpd y))=some v):PSound P μ n e o v:=by
 intro w
 obtain ⟨_,hcx,hlx⟩:=opV (e:=e) hg hn he hx
 obtain ⟨_,hcy,hly⟩:=opV (e:=e) hg hn he hy
 simp only [evP,Option.map_eq_some_iff] at hv
 generalize (cOpd x).ev e=X at hv hcx hlx
 generalize (cOpd y).ev e=Y at hv hcy hly
 obtain ⟨b,hb,rfl⟩:=hv
 refine ⟨?_,by simp⟩
 have key:∀ d,(Op.equalIn (d + 2) t (conc μ X) (conc μ Y)).run P w = .ok b w∧(eqGuard op t x y (conc μ X) (conc μ Y)).run P w = .ok () w∧
   binOp .eql t (conc μ X) (conc μ Y)=(do pure (.bool (← Op.equal t (conc μ X) (conc μ Y))))∧binOp .neq t (conc μ X) (conc μ Y)=(do pure (.bool (!(← Op.equal t (conc μ X) (conc μ Y))))):=by
  intro d
  rw [show d + 2=(d + 1) + 1 from rfl]
  unfold eqv at hb
  split at hb
  case h_20=>
   simp at hb;subst hb
   refine ⟨?_,?_,rfl,rfl⟩
   ·generalize d + 1=d'
    simp [Op.equalIn,run_und h1]
   ·rcases hq with rfl | rfl <;> simp [eqGuard]
  case h_21=>
   simp at hb;subst hb
   refine ⟨?_,?_,rfl,rfl⟩
   ·generalize d + 1=d'
    simp [Op.equalIn,run_und h1]
   ·rcases hq with rfl | rfl <;> simp [eqGuard]
  case h_22=>
   rename_i l tx vx ty vy heq
   simp only [EqT.ifaceT.injEq] at heq
   subst heq
   have hgd:(eqGuard op t x y (conc μ (.iface tx vx)) (conc μ (.iface ty vy))).run P w = .ok () w:=by rcases hq with rfl | rfl <;> simp [eqGuard]
   refine ⟨?_,hgd,by simp only [conc_iface];exact ⟨rfl,rfl⟩⟩
   split at hb
   ·rename_i htu
    subst htu
    split at hb
    ·rename_i q hq'
     obtain ⟨hfl,i,hi,hcomp⟩:=cIfaces_some hq'
     have hr:=flat_run (μ:=μ) hfl (eqFlat_eqv hb) d w
     generalize d + 1=d' at hr ⊢
     simp only [Op.equalIn,Sem.run_bind,run_und h1,Result.andThen_ok,conc_iface,ne_eq,not_true_eq_false,if_false,run_info hi,hcomp,Bool.not_true,Bool.false_eq_true]
     exact hr
    ·simp at hb
   ·rename_i htu
    simp at hb;subst hb
    generalize d + 1=d'
    simp [Op.equalIn,run_und h1,htu]
  all_goals first
   | (simp at hb;done)
   | (simp_all;done)
 rcases hq with rfl | rfl
 ·simp only [execOp,hop,hcx,hcy,Sem.run_bind,(key 0).2.1,Result.andThen_ok,(key 0).2.2.1,show (Op.equal t (conc μ X) (conc μ Y)).run P w = .ok b w from (key 9998).1,Sem.run_pure,conc_bool,isNeq];simp
 ·simp only [execOp,hop,hcx,hcy,Sem.run_bind,(key 0).2.1,Result.andThen_ok,(key 0).2.2.2,show (Op.equal t (conc μ X) (conc μ Y)).run P w = .ok b w from (key 9998).1,Sem.run_pure,conc_bool,isNeq];simp
theorem cmpS_a:(Extern.allNextRows.lookup "internal/bytealg.abigen_runtime_cmpstring").isNone=true∧(Extern.allNextRows.lookup "").isNone=true:=⟨by kernel_rfl,by kernel_rfl⟩
theorem cmpS_b:(Extern.allGenericRows.lookup "internal/bytealg.abigen_runtime_cmpstring").isNone=true∧(Extern.allTypedRows.lookup "internal/bytealg.abigen_runtime_cmpstring").isNone=true:=⟨by kernel_rfl,by kernel_rfl⟩
theorem cmpS_c:Extern.allRows.lookup "internal/bytealg.abigen_runtime_cmpstring" = some Extern.BytealgCompare.compare:=by kernel_rfl
theorem cmpS_find (fn:Func) (h:fn.name = "internal/bytealg.abigen_runtime_cmpstring") (h':fn.origin = ""):Extern.findNext fn=none∧Extern.find fn=some Extern.BytealgCompare.compare:=by
 constructor
 ·simp [Extern.findNext,h,h',Option.isNone_iff_eq_none.1 cmpS_a.1,Option.isNone_iff_eq_none.1 cmpS_a.2]
 ·simp [Extern.find,h,h',Option.isNone_iff_eq_none.1 cmpS_b.1,Option.isNone_iff_eq_none.1 cmpS_b.2,cmpS_c]
theorem idxB_a:(Extern.allNextRows.lookup "internal/bytealg.IndexByteString").isNone=true∧(Extern.allNextRows.lookup "").isNone=true:=⟨by kernel_rfl,by kernel_rfl⟩
theorem idxB_b:(Extern.allGenericRows.lookup "internal/bytealg.IndexByteString").isNone=true∧(Extern.allTypedRows.lookup "internal/bytealg.IndexByteString").isNone=true:=⟨by kernel_rfl,by kernel_rfl⟩
theorem idxB_c:Extern.allRows.lookup "internal/bytealg.IndexByteString" = some Extern.BytealgIndexByte.indexByte:=by kernel_rfl
theorem idxB_find (fn:Func) (h:fn.name = "internal/bytealg.IndexByteString") (h':fn.origin = ""):Extern.findNext fn=none∧Extern.find fn=some Extern.BytealgIndexByte.indexByte:=by
 constructor
 ·simp [Extern.findNext,h,h',Option.isNone_iff_eq_none.1 idxB_a.1,Option.isNone_iff_eq_none.1 idxB_a.2]
 ·simp [Extern.find,h,h',Option.isNone_iff_eq_none.1 idxB_b.1,Option.isNone_iff_eq_none.1 idxB_b.2,idxB_c]
theorem idxB_run (s:ByteArray) (b:Int) (w:World):(Extern.BytealgIndexByte.indexByte #[.string s,.int .u8 b]).run P w =
  .ok (.int .i64 (match (List.range s.size).find? fun i=>s[i]! == b.toNat.toUInt8 with | some i=>(i:Int) | none=>-1)) w:=by
 have h1:(Extern.Bytes.bytesOf (.string s)).run P w = .ok s w:=rfl
 have h2:(Extern.Bytes.asByte (.int .u8 b)).run P w = .ok b.toNat.toUInt8 w:=rfl
 rw [show Extern.BytealgIndexByte.indexByte #[.string s,.int .u8 b]=(Extern.Bytes.bytesOf (.string s) >>= fun s'=>Extern.Bytes.asByte (.int .u8 b) >>= _) from rfl]
 simp only [Sem.run_bind,h1,h2,Result.andThen_ok]
 cases hf:(List.range s.size).find? (fun i=>s[i]! == b.toNat.toUInt8) <;> simp [goInt]
end
end Go.Proofs.YtnpoloachkcadaaGreatDoor.Ai
namespace Go.Proofs.YtnpoloachkcadaaGreatDoor.Ai
open Go
set_option linter.unusedSimpArgs false
section
variable {P:Program} {ng n:Nat} {ts:List TypeId} {μ:Nat→Loc} {e:List Value}
theorem mapM_opt {α β:Type} {f:α→Option β}:∀ {l:List α} {r:List β},l.mapM f=some r→r.length=l.length∧∀ (k:Nat) (x:α),l[k]? = some x→∃ y,f x=some y∧r[k]? = some y:=by
 intro l
 induction l with
 | nil=>intro r h;simp at h;subst h;simp
 | cons x l ih=>
  intro r h
  simp only [List.mapM_cons,Option.bind_eq_bind,Option.bind_eq_some_iff] at h
  obtain ⟨y,hy,r',hr',h⟩:=h
  simp at h;subst h
  obtain ⟨h1,h2⟩:=ih hr'
  refine ⟨by simp [h1],fun k z hz=>?_⟩
  cases k with
  | zero=>simp at hz;subst hz;exact ⟨y,hy,by simp⟩
  | succ k=>simpa using h2 k z (by simpa using hz)
theorem run_mapM {α β:Type} {f:α→Sem β} {g:α→Option β} (w:World):∀ {l:List α} {r:List β},(∀ x y,x∈l→g x=some y→(f x).run P w = .ok y w)→l.mapM g=some r→(l.mapM f).run P w = .ok r w:=by
 intro l
 induction l with
 | nil=>intro r _ h;simp at h;subst h;simp
 | cons x l ih=>
  intro r hf h
  simp only [List.mapM_cons,Option.bind_eq_bind,Option.bind_eq_some_iff] at h
  obtain ⟨y,hy,r',hr',h⟩:=h
  simp at h;subst h
  simp [List.mapM_cons,hf x y (by simp) hy,ih (fun z u hz=>hf z u (by simp [hz])) hr']
theorem run_amapM {α β:Type} {f:α→Sem β} {g:α→Option β} (w:World) {l:Array α} {r:List β} (hf:∀ x y,x∈l.toList→g x=some y→(f x).run P w = .ok y w) (h:l.toList.mapM g=some r):(l.mapM f).run P w = .ok r.toArray w:=by
 rw [Array.mapM_eq_mapM_toList]
 simp [run_mapM w hf h]
theorem zeroCells_some {t:TypeId} {z:List Value} (h:zeroCells P t=some z):∃ v,zeroOf P t=some v∧z=cellsOf v∧szOf P t=some z.length∧ltL 0 z=true∧allCells z=true:=by
 unfold zeroCells at h
 split at h
 ·rename_i v k h1 h2
  split at h
  ·rename_i hc
   simp at h;subst h
   simp at hc
   exact ⟨v,h1,rfl,by rw [h2,hc.1],cellsOf_lt (zeroOf_some h1).1,hc.2⟩
  ·simp at h
 ·simp at h
theorem zeroCells_run {t:TypeId} {z:List Value} (h:zeroCells P t=some z) (w:World):∃ v,(zeroValue t).run P w = .ok v w∧v.cells=z.toArray:=by
 obtain ⟨v,h1,rfl,_,h3,_⟩:=zeroCells_some h
 obtain ⟨h0,hr⟩:=zeroOf_some h1
 refine ⟨v,hr w,?_⟩
 have:=cells_conc (μ:=fun _=>(⟨0,0,0⟩:Loc)) v
 rw [conc_zero _ v h0,concL_zero _ _ h3] at this
 apply Array.ext'
 simpa using this
theorem parts_ok (hg:Glob ng μ) {place:Nat→Option (Nat × Nat)} {parts:Array (Nat × Operand)} {qs:List (Nat × Nat × Opd)} {f:Nat × Operand→Option (Nat × Nat × Opd)}
  (hf:∀ (i:Nat) (x:Operand) (off m:Nat) (y:Opd),f (i,x)=some (off,m,y)→place i=some (off,m)∧y=cOpd x) (ho:∀ q∈parts.toList,okOpd ng q.2=true) (h:parts.toList.mapM f=some qs) :
  PartsOK place μ e (parts.map fun (i,x)=>(i,evc μ e x)).toList qs∧∀ q∈qs,∃ p∈parts.toList,q.2.2=cOpd p.2:=by
 obtain ⟨h1,h2⟩:=mapM_opt h
 constructor
 ·refine ⟨by simp [h1],?_⟩
  intro k i v off m x hp hq
  simp only [Array.toList_map,List.getElem?_map,Option.map_eq_some_iff] at hp
  obtain ⟨⟨i',x'⟩,hp,he⟩:=hp
  simp at he
  obtain ⟨rfl,rfl⟩:=he
  obtain ⟨y,hy1,hy2⟩:=h2 k _ hp
  rw [hy2] at hq
  simp at hq;subst hq
  obtain ⟨g1,rfl⟩:=hf _ _ _ _ _ hy1
  exact ⟨g1,opd_conc hg e (ho _ (List.mem_of_getElem? hp))⟩
 ·intro q hq
  obtain ⟨k,hk⟩:=List.getElem?_of_mem hq
  have hlt:k < parts.toList.length:=by rw [← h1];exact (List.getElem?_eq_some_iff.1 hk).1
  obtain ⟨y,hy1,hy2⟩:=h2 k _ (List.getElem?_eq_getElem hlt)
  rw [hy2] at hk;simp at hk;subst hk
  exact ⟨parts.toList[k],List.getElem_mem hlt,(hf _ _ _ _ _ hy1).2⟩
theorem sP_build (hg:Glob ng μ) (hn:ng≤n) (he:ltL n e=true) {o:Oper} {t:TypeId} {parts:Array (Nat × Operand)} {fs:Array Field} {z:List Value} {ns:List (Nat × Nat)} {qs:List (Nat × Nat × Opd)}
  (hop:o.op = .build t parts) (h1:P.underlying t=some (.struct fs)) (h2:zeroCells P t=some z) (h3:(fs.toList.mapM fun f=>(szOf P f.type).map fun n=>(f.offset,n))=some ns)
  (h4:cParts ns parts=some qs) (h5:∀ q∈qs,q.2.1 ≠ 0) (ho:∀ q∈parts.toList,okOpd ng q.2=true) {v:Value} (hv:evP e (.build z qs)=some v):PSound P μ n e o v:=by
 intro w
 simp only [evP,Option.map_eq_some_iff] at hv
 obtain ⟨cs,hcs,rfl⟩:=hv
 obtain ⟨zv,hz,hzc⟩:=zeroCells_run h2 w
 obtain ⟨_,_,_,_,hz0,_⟩:=zeroCells_some h2
 obtain ⟨hpo,hmem⟩:=parts_ok (e:=e) (place:=(ns.toArray[·]?)) hg (by
  intro i x off m y hy
  simp only [Option.map_eq_some_iff,Prod.mk.injEq,Prod.exists] at hy
  obtain ⟨a,b,hab,rfl,rfl,rfl⟩:=hy
  exact ⟨by simpa using hab,rfl⟩) ho h4
 have hfill:=fill_sound qs _ z cs hpo hcs h5
 rw [concL_zero μ z hz0] at hfill
 have hm:(fs.mapM fun (f:Field)=>(do pure (f.offset,← Go.sizeOf f.type):Sem (Nat × Nat))).run P w = .ok ns.toArray w:=by
  refine run_amapM w ?_ h3
  intro x y _ hy
  simp only [Option.map_eq_some_iff] at hy
  obtain ⟨k,hk,rfl⟩:=hy
  simp [run_sz hk]
 refine ⟨?_,?_⟩
 ·have hfill':Instr.fill (fun x=>ns.toArray[x]?) z.toArray (Array.map (fun x=>(x.1,evc μ e x.2)) parts).toList=some ⟨concL μ cs⟩:=hfill
  simp only [execOp,hop,Instr.build,Sem.run_bind,hz,Result.andThen_ok,run_und h1,hm,hzc]
  rw [hfill']
  simp
 ·rw [lt_agg]
  refine fill_lt qs z cs hcs (ltL_mono (Nat.zero_le n) z hz0) ?_
  intro q hq
  obtain ⟨p,hp,hqp⟩:=hmem q hq
  rw [hqp]
  exact opd_lt hn he (ho p hp)
theorem sP_buildA (hg:Glob ng μ) (hn:ng≤n) (he:ltL n e=true) {o:Oper} {t el:TypeId} {len k:Nat} {parts:Array (Nat × Operand)} {z:List Value} {qs:List (Nat × Nat × Opd)}
  (hop:o.op = .build t parts) (h1:P.underlying t=some (.array len el)) (h2:zeroCells P t=some z) (h3:szOf P el=some k) (hk:k ≠ 0)
  (h4:(parts.toList.mapM fun (i,x)=>if i < len then some (i * k,k,cOpd x) else none)=some qs) (ho:∀ q∈parts.toList,okOpd ng q.2=true) {v:Value} (hv:evP e (.build z qs)=some v):PSound P μ n e o v:=by
 intro w
 simp only [evP,Option.map_eq_some_iff] at hv
 obtain ⟨cs,hcs,rfl⟩:=hv
 obtain ⟨zv,hz,hzc⟩:=zeroCells_run h2 w
 obtain ⟨_,_,_,_,hz0,_⟩:=zeroCells_some h2
 have hf:∀ i x off m y,(if i < len then some (i * k,k,cOpd x) else none)=some (off,m,y)→(fun i=>some (i * k,k)) i=some (off,m)∧y=cOpd x:=by
  intro i x off m y hy
  split at hy <;> simp at hy
  obtain ⟨rfl,rfl,rfl⟩:=hy
  exact ⟨rfl,rfl⟩
 obtain ⟨hpo,hmem⟩:=parts_ok (e:=e) (place:=fun i=>some (i * k,k)) hg hf ho h4
 have h5:∀ q∈qs,q.2.1 ≠ 0:=by
  intro q hq
  obtain ⟨h1',h2'⟩:=mapM_opt h4
  obtain ⟨j,hj⟩:=List.getElem?_of_mem hq
  have hlt:j < parts.toList.length:=by rw [← h1'];exact (List.getElem?_eq_some_iff.1 hj).1
  obtain ⟨y,hy1,hy2⟩:=h2' j _ (List.getElem?_eq_getElem hlt)
  rw [hy2] at hj;simp at hj;subst hj
  split at hy1
  ·simp at hy1;rw [← hy1.2];exact hk
 have hfill:=fill_sound qs _ z cs hpo hcs h5
 rw [concL_zero μ z hz0] at hfill
 refine ⟨?_,?_⟩
 ·have hfill':Instr.fill (fun i=>some (i * k,k)) z.toArray (Array.map (fun x=>(x.1,evc μ e x.2)) parts).toList=some ⟨concL μ cs⟩:=hfill
  simp only [execOp,hop,Instr.build,Sem.run_bind,hz,Result.andThen_ok,run_und h1,run_sz h3,hzc]
  rw [hfill']
  simp
 ·rw [lt_agg]
  refine fill_lt qs z cs hcs (ltL_mono (Nat.zero_le n) z hz0) ?_
  intro q hq
  obtain ⟨p,hp,hqp⟩:=hmem q hq
  rw [hqp]
  exact opd_lt hn he (ho p hp)
theorem ok_arr {op:Op} {l:Array Operand} (h:okOp ng op=true) (ho:op.operands=l):∀ x∈l.toList,okOpd ng x=true:=by
 subst ho
 intro x hx
 simp only [okOp,Array.all_eq_true'] at h
 exact h x (by simpa using hx)
theorem noEscape_a:(Extern.allNextRows.lookup "internal/abi.NoEscape").isNone=true∧(Extern.allNextRows.lookup "").isNone=true:=⟨by kernel_rfl,by kernel_rfl⟩
theorem noEscape_b:(Extern.allGenericRows.lookup "internal/abi.NoEscape").isNone=true∧(Extern.allTypedRows.lookup "internal/abi.NoEscape").isNone=true:=⟨by kernel_rfl,by kernel_rfl⟩
theorem noEscape_c:Extern.allRows.lookup "internal/abi.NoEscape" = some Extern.AbiNoEscape.same:=by kernel_rfl
theorem noEscape (fn:Func) (h:fn.name = "internal/abi.NoEscape") (h':fn.origin = ""):Extern.findNext fn=none∧Extern.find fn=some Extern.AbiNoEscape.same:=by
 constructor
 ·simp [Extern.findNext,h,h',Option.isNone_iff_eq_none.1 noEscape_a.1,Option.isNone_iff_eq_none.1 noEscape_a.2]
 ·simp [Extern.find,h,h',Option.isNone_iff_eq_none.1 noEscape_b.1,Option.isNone_iff_eq_none.1 noEscape_b.2,noEscape_c]
theorem evP_sound (hg:Glob ng μ) (hn:ng≤n) (he:ltL n e=true) {o:Oper} {q:POp} (hc:cOp P ts o.op=some (.p q)) (ho:okOp ng o.op=true) {v:Value} (hv:evP e q=some v):PSound P μ n e o v:=by
 generalize hop:o.op=op at hc ho
 cases op with
 | move x=>simp [cOp] at hc;subst hc;exact sP_mov hg hn he (.inl hop) (okOp_1 ho rfl) hv
 | assign x=>simp [cOp] at hc;subst hc;exact sP_mov hg hn he (.inr hop) (okOp_1 ho rfl) hv
 | pick c a b=>
  simp [cOp] at hc;subst hc
  have h:=ok_arr ho (l:=#[c,a,b]) rfl
  simp at h
  exact sP_pick hg hn he hop h.1 h.2.1 h.2.2 hv
 | build t parts=>
  have h:=ok_arr ho rfl
  have h':∀ q∈parts.toList,okOpd ng q.2=true:=by
   intro q hq
   refine h q.2 ?_
   simp only [Op.operands,List.toList_toArray,List.mem_map]
   exact ⟨q,hq,rfl⟩
  simp only [cOp] at hc
  split at hc
  ·rename_i fs z h1 h2
   simp only [Option.bind_eq_bind,Option.bind_eq_some_iff] at hc
   obtain ⟨ns,h3,ps,h4,hc⟩:=hc
   split at hc
   ·rename_i h5
    simp at hc;subst hc
    exact sP_build hg hn he hop h1 h2 h3 h4 (by simpa using h5) h' hv
   ·simp at hc
  ·rename_i len el z h1 h2
   simp only [Option.bind_eq_bind,Option.bind_eq_some_iff] at hc
   obtain ⟨k,h3,ps,h4,hc⟩:=hc
   split at hc
   ·rename_i h5
    simp at hc;subst hc
    exact sP_buildA hg hn he hop h1 h2 h3 (by simpa using h5) h4 h' hv
   ·simp at hc
  ·simp at hc
 | nilCheck x=>simp [cOp] at hc;subst hc;exact sP_nilchk hg hn he hop (okOp_1 ho rfl) hv
 | binOp op t x y u=>
  have h:=okOp_2 ho rfl
  simp only [cOp] at hc
  split at hc
  ·simp at hc;subst hc;exact sP_bin hg hn he hop h.1 h.2 hv
  ·simp at hc;subst hc;exact sP_bin hg hn he hop h.1 h.2 hv
  ·rename_i d hd1 hd2 hd3
   have key:∀ op,(op = .eql∨op = .neq)→o.op = .binOp op t x y u→cEqOp P ts op t d x y=some (.p q)→PSound P μ n e o v:=by
    intro op hq hop' hc'
    unfold cEqOp at hc'
    split at hc'
    ·simp only [Option.map_eq_some_iff,IOp.p.injEq] at hc'
     obtain ⟨qq,hqq,rfl⟩:=hc'
     exact sP_eqK hg hn he hop' hq hd3 hqq h.1 h.2 hv
    ·split at hc' <;> simp at hc'
    all_goals try (simp at hc';done)
    all_goals
     simp only [Option.some.injEq,IOp.p.injEq] at hc'
     rw [← hc'] at hv
    ·exact sP_eqv hg hn he hop' hq hd3 (by simp [eqFit]) h.1 h.2 hv
    ·exact sP_eqv hg hn he hop' hq hd3 (by simp [eqFit]) h.1 h.2 hv
    ·exact sP_eqv hg hn he hop' hq hd3 (by simp [eqFit]) h.1 h.2 hv
    ·by_cases hcst:(isConst x || isConst y)=true
     ·rw [if_pos hcst] at hv
      exact sP_eqv hg hn he hop' hq hd3 (by simp [eqFit,hcst]) h.1 h.2 hv
     ·rw [if_neg hcst] at hv
      by_cases hem:(cIfaces P ts).isEmpty=true
      ·rw [if_pos hem] at hv
       exact sP_eqv hg hn he hop' hq hd3 (by simp [eqFit]) h.1 h.2 hv
      ·rw [if_neg hem] at hv
       exact sP_eqI hg hn he hop' hq hd3 h.1 h.2 hv
    ·exact sP_eqv hg hn he hop' hq hd3 (by simp [eqFit]) h.1 h.2 hv
   split at hc
   ·exact key _ (.inl rfl) hop hc
   ·exact key _ (.inr rfl) hop hc
   ·simp at hc
  ·simp at hc
 | unOp op t x=>simp [cOp] at hc;subst hc;exact sP_un hg hn he hop (okOp_1 ho rfl) hv
 | convert src dst x=>
  simp only [cOp] at hc
  split at hc
  ·rename_i h1 h2;simp at hc;subst hc;exact sP_conv hg hn he hop h1 h2 (okOp_1 ho rfl) hv
  ·rename_i h1 h2;simp at hc;subst hc;exact sP_convStr hg hn he hop h1 h2 (okOp_1 ho rfl) hv
  all_goals (repeat' split at hc) <;> simp at hc
 | makeInterface t x=>
  simp only [cOp] at hc
  split at hc
  ·simp at hc
  ·rename_i d h2 h1;simp at hc;subst hc;exact sP_mkI hg hn he hop h1 (fun ms hm=>h2 ms hm) (okOp_1 ho rfl) hv
  ·simp at hc
 | makeFunc fn a b=>
  simp only [cOp] at hc
  split at hc
  ·simp at hc;subst hc
   have h:=ok_arr ho rfl
   exact sP_mkF hg hn he ⟨rfl,rfl⟩ hop (fun x hx=>h x (by simp [Op.operands,List.mem_append];exact .inl (by simpa using hx))) (fun x hx=>h x (by simp [Op.operands];exact .inr (by simpa using hx))) hv
  ·simp at hc;subst hc
   have h:=ok_arr ho rfl
   exact sP_mkF hg hn he ⟨rfl,rfl⟩ hop (fun x hx=>h x (by simp [Op.operands,List.mem_append];exact .inl (by simpa using hx))) (fun x hx=>h x (by simp [Op.operands];exact .inr (by simpa using hx))) hv
  ·simp at hc
 | fieldAddr t x f=>
  simp only [cOp] at hc
  split at hc
  ·rename_i fs h1
   split at hc
   ·rename_i fl h2
    split at hc
    ·rename_i k h3;simp at hc;subst hc;exact sP_faddr hg hn he hop h1 h2 h3 (okOp_1 ho rfl) hv
    ·simp at hc
   ·simp at hc
  ·simp at hc
 | field t x f=>
  simp only [cOp] at hc
  split at hc
  ·rename_i fs h1
   split at hc
   ·rename_i fl h2
    simp only [Option.map_eq_some_iff] at hc
    obtain ⟨m,h3,hc⟩:=hc
    simp at hc;subst hc
    exact sP_field hg hn he hop h1 h2 h3 (okOp_1 ho rfl) hv
   ·simp at hc
  ·simp at hc
 | indexAddr t x i=>
  have h:=okOp_2 ho rfl
  simp only [cOp] at hc
  split at hc
  ·rename_i el h1
   simp only [Option.map_eq_some_iff] at hc
   obtain ⟨k,h3,hc⟩:=hc
   simp at hc;subst hc
   exact sP_iaddrS hg hn he hop h1 h3 h.1 h.2 hv
  ·rename_i len el h1
   simp only [Option.map_eq_some_iff] at hc
   obtain ⟨k,h3,hc⟩:=hc
   simp at hc;subst hc
   exact sP_iaddrA hg hn he hop h1 h3 h.1 h.2 hv
  ·simp at hc
 | index t x i=>
  have h:=okOp_2 ho rfl
  simp only [cOp] at hc
  split at hc
  ·rename_i h1;simp at hc;subst hc;exact sP_idxS hg hn he hop h1 h.1 h.2 hv
  ·rename_i len el h1
   split at hc
   ·rename_i k m h2 h3;simp at hc;subst hc;exact sP_idxA hg hn he hop h1 h2 h3 h.1 h.2 hv
   ·simp at hc
  ·simp at hc
 | slice t x lo hi mx=>
  have h:=ok_arr ho rfl
  simp only [Op.operands] at h
  simp only [cOp] at hc
  split at hc
  ·rename_i h1
   simp at hc;subst hc
   refine sP_slS hg hn he hop h1 (h x (by simp)) (fun y hy=>h y (by simp [hy])) (fun y hy=>h y (by simp [hy])) hv
  all_goals (repeat' split at hc) <;> simp at hc
 | typeAssert x xt t ok=>
  simp only [cOp] at hc
  split at hc
  ·simp at hc
  ·rename_i d h2 h1
   split at hc
   ·rename_i hok
    simp only [Option.map_eq_some_iff] at hc
    obtain ⟨z,hz,hc⟩:=hc
    simp at hc;subst hc
    exact sP_tassert hg hn he hop h1 (fun ms hm=>h2 ms hm) (by rw [if_pos hok];exact ⟨z,rfl,hz⟩) (okOp_1 ho rfl) hv
   ·rename_i hok
    simp at hc;subst hc
    exact sP_tassert hg hn he hop h1 (fun ms hm=>h2 ms hm) (by rw [if_neg hok]) (okOp_1 ho rfl) hv
  ·simp at hc
 | extract x i=>simp [cOp] at hc;subst hc;exact sP_ext hg hn he hop (okOp_1 ho rfl) hv
 | call c=>
  obtain ⟨callee,args,ats⟩:=c
  have h:=ok_arr ho rfl
  simp only [Op.operands,Call.operands] at h
  have h':∀ x∈args.toList,okOpd ng x=true:=fun x hx=>h x (by simp;exact .inr (by simpa using hx))
  simp only [cOp] at hc
  cases callee with
  | builtin b=>
   simp only at hc
   unfold cBuiltin at hc
   split at hc
   ·rename_i x t ha ht
    have ha':args = #[x]:=by apply Array.ext';simpa using ha
    have ht':ats = #[t]:=by apply Array.ext';simpa using ht
    subst ha' ht'
    have hx:=h' x (by simp)
    split at hc
    ·rename_i h1;simp at hc;subst hc;exact sP_lenS hg hn he hop h1 hx hv
    ·rename_i el h1;simp at hc;subst hc;exact sP_lenL hg hn he hop h1 hx hv
    ·rename_i k el h1;simp at hc;subst hc;exact sP_lenC hop (.inl ⟨el,h1⟩) hv
    ·simp at hc
    ·rename_i a h1
     split at hc
     ·rename_i k el h2;simp at hc;subst hc;exact sP_lenC hop (.inr ⟨a,el,h1,h2⟩) hv
     ·simp at hc
    ·simp at hc
   ·(repeat' split at hc) <;> simp at hc
   ·rename_i _ x y ha
    have ha':args = #[x,y]:=by apply Array.ext';simpa using ha
    subst ha'
    simp at hc;subst hc
    exact sP_max hg hn he hop (h' x (by simp)) (h' y (by simp)) hv
   ·rename_i _ x y ha
    have ha':args = #[x,y]:=by apply Array.ext';simpa using ha
    subst ha'
    simp at hc;subst hc
    exact sP_min hg hn he hop (h' x (by simp)) (h' y (by simp)) hv
   all_goals (repeat' split at hc) <;> simp at hc
  | value f=>
   cases f with
   | func f=>
    simp only at hc
    split at hc
    ·rename_i fn hfn
     split at hc
     ·rename_i x hb ha
      have ha':args = #[x]:=by apply Array.ext';simpa using ha
      subst ha'
      split at hc
      ·rename_i hname
       simp at hc;subst hc
       intro w
       have hx:=opV (e:=e) hg hn he (h' x (by simp))
       simp only [evP,Option.some.injEq] at hv
       subst hv
       refine ⟨?_,hx.l⟩
       simp only [execOp,hop,resolve,Sem.run_bind,Act.eval,evc,Deferred.ofValue,Sem.run_pure,Result.andThen_ok,invoke,callFunc,run_program,hfn]
       rw [if_neg (by rw [hname.1];simp)]
       simp only [hb,Option.isNone_none,if_true,Sem.run_bind,run_mark,Result.andThen_ok]
       rw [(noEscape fn hname.1 hname.2).1,(noEscape fn hname.1 hname.2).2]
       have hs:∀ X,Extern.AbiNoEscape.same #[X]=pure X:=fun _=>rfl
       simp [hs,hx.c]
      ·simp at hc
     ·rename_i x y hb ha
      have ha':args = #[x,y]:=by apply Array.ext';simpa using ha
      subst ha'
      split at hc
      ·rename_i hname
       simp at hc;subst hc
       intro w
       have hx:=opV (e:=e) hg hn he (h' x (by simp))
       have hy:=opV (e:=e) hg hn he (h' y (by simp))
       simp only [evP] at hv
       obtain ⟨_,hcx,_⟩:=hx
       obtain ⟨_,hcy,_⟩:=hy
       generalize (cOpd x).ev e=X at hv hcx
       generalize (cOpd y).ev e=Y at hv hcy
       split at hv
       ·simp only [Option.some.injEq] at hv
        subst hv
        refine ⟨?_,by simp⟩
        simp only [execOp,hop,resolve,Sem.run_bind,Act.eval,evc,Deferred.ofValue,Sem.run_pure,Result.andThen_ok,invoke,callFunc,run_program,hfn]
        rw [if_neg (by rw [hname.1];simp)]
        simp only [hb,Option.isNone_none,if_true,Sem.run_bind,run_mark,Result.andThen_ok]
        rw [(cmpS_find fn hname.1 hname.2).1,(cmpS_find fn hname.1 hname.2).2]
        have hs:∀ a b,Extern.BytealgCompare.compare #[.string a,.string b]=pure (goInt (Extern.BytealgCompare.cmp a b)):=fun _ _=>rfl
        simp [hs,hcx,hcy,goInt]
       ·simp at hv
      ·split at hc
       ·rename_i hname
        simp at hc;subst hc
        intro w
        have hx:=opV (e:=e) hg hn he (h' x (by simp))
        have hy:=opV (e:=e) hg hn he (h' y (by simp))
        simp only [evP] at hv
        obtain ⟨_,hcx,_⟩:=hx
        obtain ⟨_,hcy,_⟩:=hy
        generalize (cOpd x).ev e=X at hv hcx
        generalize (cOpd y).ev e=Y at hv hcy
        split at hv
        ·simp only [Option.some.injEq] at hv
         subst hv
         refine ⟨?_,by simp⟩
         simp only [execOp,hop,resolve,Sem.run_bind,Act.eval,evc,Deferred.ofValue,Sem.run_pure,Result.andThen_ok,invoke,callFunc,run_program,hfn]
         rw [if_neg (by rw [hname.1];simp)]
         simp only [hb,Option.isNone_none,if_true,Sem.run_bind,run_mark,Result.andThen_ok]
         rw [(idxB_find fn hname.1 hname.2).1,(idxB_find fn hname.1 hname.2).2]
         simp only [List.map_toArray,List.map_cons,List.map_nil,hcx,hcy,conc_string,conc_int,Sem.run_bind,Result.andThen_ok,Sem.run_pure]
         have e0:∀ A B:Value,(#[]++#[A,B]++#[]:Array Value) = #[A,B]:=fun _ _=>by simp
         rw [e0,idxB_run]
         rfl
        ·simp at hv
       ·simp at hc
     ·simp at hc
     ·simp at hc
    ·simp at hc
   | _=>simp at hc
  | invoke x name=>simp at hc
 | alloc t=>simp only [cOp] at hc;split at hc <;> simp at hc
 | box t x=>simp only [cOp] at hc;split at hc <;> simp at hc
 | load t x=>simp only [cOp] at hc;split at hc <;> simp at hc
 | store t a x=>simp only [cOp] at hc;split at hc <;> simp at hc
 | makeMap t r=>cases r <;> simp [cOp] at hc
 | buildSlice t len parts=>
  simp only [cOp] at hc
  split at hc
  ·simp only [Option.bind_eq_bind,Option.bind_eq_some_iff] at hc
   obtain ⟨z,_,hc⟩:=hc
   split at hc
   ·simp at hc
   ·simp only [Option.bind_eq_some_iff] at hc
    obtain ⟨_,_,hc⟩:=hc
    simp at hc
  ·simp at hc
 | makeSlice t l c=>simp only [cOp] at hc;(repeat' split at hc) <;> simp at hc
 | lookup t x i ok=>simp only [cOp] at hc;(repeat' split at hc) <;> simp at hc
 | mapUpdate t m k v=>simp only [cOp] at hc;(repeat' split at hc) <;> simp at hc
 | insert t m k v=>simp only [cOp] at hc;(repeat' split at hc) <;> simp at hc
 | mapEntry t m k=>simp only [cOp] at hc;(repeat' split at hc) <;> simp at hc
 | _=>simp [cOp] at hc
end
end Go.Proofs.YtnpoloachkcadaaGreatDoor.Ai
namespace Go.Proofs.YtnpoloachkcadaaGreatDoor.Ai
open Go
set_option linter.unusedSimpArgs false
def isRo:Blk→Bool
 | .cells b=>b.ro
 | _=>false
def cExit:IExit→Option Code
 | .exit i=>some (.exit i)
 | .ret=>some .ret
 | _=>none
structure CellsRep (μ:Nat→Loc) (n i:Nat) (b:CB) (w:World):Prop where
 l:ltL n b.cs=true
 ex:b.exact=true→(μ i).ex=0
 sh0:b.exact=true→b.ro=false→(μ i).sh=0
 fz:b.frozen=false→∀ k,(μ i).sh≤k→k < (μ i).sh + b.cs.length + (μ i).ex * b.esz→w.frozen? ⟨(μ i).blk,k,none⟩=false
 cell:∃ C t fr,w.heap[(μ i).blk]? = some (.cells C t fr)∧(b.ro=false→t=b.ty∧C.size=(μ i).sh + b.cs.length + (μ i).ex * b.esz)∧(μ i).sh + b.cs.length≤C.size∧
  ∀ k v,b.cs[k]? = some v→C[(μ i).sh + k]? = some (conc μ v)
structure LoopRep (P:Program) (ng:Nat) (ts:List TypeId) (μ:Nat→Loc) (n i:Nat) (r:ALoop) (w:World):Prop where
 l:ltL n r.tmps=true
 d:r.defers < n
 o:∃ fn assign body,w.heap[(μ i).blk]? = some (.loop {state:=r.state,pending:=r.pending.bind cExit,fn,tmps:=⟨concL μ r.tmps⟩,params:=⟨r.params⟩,assign,body,defers:=(μ r.defers).blk })∧
  cCode P ng ts assign=some r.assign∧cCode P ng ts body=some r.body
structure MapRep (μ:Nat→Loc) (n i:Nat) (es:List (Value × Value × Nat)) (clock:Nat) (w:World):Prop where
 l:∀ x∈es,lt n x.1=true∧lt n x.2.1=true
 o:w.heap[(μ i).blk]? = some (.map (es.map fun x=>{key:=conc μ x.1,val:=conc μ x.2.1,born:=x.2.2 }).toArray clock)
def BRep (P:Program) (ng:Nat) (ts:List TypeId) (μ:Nat→Loc) (n i:Nat) (w:World):Blk→Prop
 | .cells b=>CellsRep μ n i b w
 | .map es clock=>MapRep μ n i es clock w
 | .loop r=>LoopRep P ng ts μ n i r w
 | .deferred taken=>w.heap[(μ i).blk]? = some (.deferred (if taken then none else some []))
 | .strIter s pos=>w.heap[(μ i).blk]? = some (.stringIter s pos)
structure Bs where
 n:Nat
 h:Nat→Option Obj
def Bs.of (w:World):Bs:=⟨w.heap.size,fun B=>w.heap[B]?⟩
structure Rep (P:Program) (ng:Nat) (ts:List TypeId) (N0:Bs) (μ:Nat→Loc) (σ:AW) (w:World):Prop where
 glob:Glob ng μ
 ngn:ng≤σ.next
 blk:∀ i b,σ.heap.get i=some b→i < σ.next∧i < most i∧BRep P ng ts μ σ.next i w b
 own:∀ i b,σ.heap.get i=some b→isRo b=false→N0.n≤(μ i).blk∧(μ i).blk < w.heap.size
 ro:∀ i b,σ.heap.get i=some b→isRo b=true→(μ i).blk < N0.n
 dis:∀ i j bi bj,σ.heap.get i=some bi→σ.heap.get j=some bj→isRo bi=false→isRo bj=false→i < j→(μ i).blk=(μ j).blk→
  ∃ ci cj,bi = .cells ci∧bj = .cells cj∧i∈cj.al∧ci.retired=true∧(μ i).sh + ci.cs.length≤(μ j).sh + cj.cs.length
 al:∀ j cj,σ.heap.get j=some (.cells cj)→∀ i∈cj.al,i < j∧∀ bi,σ.heap.get i=some bi→∃ ci,bi = .cells ci∧ci.retired=true∧ci.ro=false
 big:N0.n≤w.heap.size∧∀ B,B < N0.n→w.heap[B]? = N0.h B
structure Goes (μ:Nat→Loc) (σ:AW) (w:World) (μ':Nat→Loc) (σ':AW) (w':World):Prop where
 next:σ.next≤σ'.next
 agr:∀ i,i < σ.next→μ' i=μ i
 os:w'.os=w.os
 tape:w'.tape=w.tape
 output:w'.output=w.output
 size:w.heap.size≤w'.heap.size
 keep:∀ B,B < w.heap.size→(∀ i b,σ.heap.get i=some b→isRo b=false→(μ i).blk ≠ B)→w'.heap[B]? = w.heap[B]?
 fresh:∀ i b,σ'.heap.get i=some b→isRo b=false→w.heap.size≤(μ' i).blk∨∃ j c,σ.heap.get j=some c∧isRo c=false∧(μ j).blk=(μ' i).blk
theorem Goes.refl (μ:Nat→Loc) (σ:AW) (w:World):Goes μ σ w μ σ w:=
 ⟨Nat.le_refl _,fun _ _=>rfl,rfl,rfl,rfl,Nat.le_refl _,fun _ _ _=>rfl,fun i b h hr=>.inr ⟨i,b,h,hr,rfl⟩⟩
theorem Goes.trans {μ μ1 μ2:Nat→Loc} {σ σ1 σ2:AW} {w w1 w2:World} (h:Goes μ σ w μ1 σ1 w1) (k:Goes μ1 σ1 w1 μ2 σ2 w2):Goes μ σ w μ2 σ2 w2 where
 next:=Nat.le_trans h.next k.next
 agr i hi:=(k.agr i (Nat.lt_of_lt_of_le hi h.next)).trans (h.agr i hi)
 os:=k.os.trans h.os
 tape:=k.tape.trans h.tape
 output:=k.output.trans h.output
 size:=Nat.le_trans h.size k.size
 keep B hB hn:=by
  rw [k.keep B (Nat.lt_of_lt_of_le hB h.size) ?_,h.keep B hB hn]
  intro i b hi hr he
  rcases h.fresh i b hi hr with h1 | ⟨j,c,h1,h2,h3⟩
  ·omega
  ·exact hn j c h1 h2 (h3.trans he)
 fresh i b hi hr:=by
  rcases k.fresh i b hi hr with h1 | ⟨j,c,h1,h2,h3⟩
  ·exact .inl (Nat.le_trans h.size h1)
  ·rcases h.fresh j c h1 h2 with h4 | ⟨j',c',h4,h5,h6⟩
   ·exact .inl (by omega)
   ·exact .inr ⟨j',c',h4,h5,h6.trans h3⟩
section
variable {P:Program} {ng:Nat} {ts:List TypeId} {N0:Bs} {μ:Nat→Loc} {σ:AW} {w:World}
theorem cells?_some {i:Nat} {b:CB}:σ.cells? i=some b↔σ.heap.get i=some (.cells b):=by
 unfold AW.cells?
 split
 ·rename_i c hc;rw [hc];simp
 ·rename_i h
  constructor
  ·simp
  ·intro hc;exact absurd hc (h b)
theorem Rep.cells (h:Rep P ng ts N0 μ σ w) {i:Nat} {b:CB} (hb:σ.cells? i=some b):CellsRep μ σ.next i b w:=(h.blk i _ (cells?_some.1 hb)).2.2
theorem CellsRep.at {n i:Nat} {b:CB} (h:CellsRep μ n i b w) {k:Nat} {v:Value} (hk:b.cs[k]? = some v):w.cell? ⟨(μ i).blk,(μ i).sh + k,none⟩=some (conc μ v):=by
 obtain ⟨C,t,fr,h1,_,h2,h3⟩:=h.cell
 simp [World.cell?,h1,h3 k v hk]
theorem CellsRep.mine {n i:Nat} {b:CB} (h:CellsRep μ n i b w) (hro:b.ro=false):∃ C fr,w.heap[(μ i).blk]? = some (.cells C b.ty fr)∧C.size=(μ i).sh + b.cs.length + (μ i).ex * b.esz∧
  ∀ k v,b.cs[k]? = some v→C[(μ i).sh + k]? = some (conc μ v):=by
 obtain ⟨C,t,fr,h1,ht,h2,h3⟩:=h.cell
 exact ⟨C,fr,by rw [← (ht hro).1];exact h1,(ht hro).2,h3⟩
theorem CellsRep.shape {n i:Nat} {b:CB} (h:CellsRep μ n i b w):∃ t m,(b.ro=false→t=b.ty∧m=(μ i).sh + b.cs.length + (μ i).ex * b.esz)∧(μ i).sh + b.cs.length≤m∧w.shape? (μ i).blk=some (t,m):=by
 obtain ⟨C,t,fr,h1,ht,h2,h3⟩:=h.cell
 exact ⟨t,C.size,ht,h2,by simp [World.shape?,h1]⟩
theorem rd_sound (h:Rep P ng ts N0 μ σ w) {a:Addr} (ha:a.spot=none) {v:Value} (hv:σ.rd a=some v):w.cell? (cAddr μ a)=some (conc μ v)∧lt σ.next v=true:=by
 unfold AW.rd at hv
 split at hv
 ·rename_i b hb
  rw [nthV_eq] at hv
  have hc:=h.cells hb
  rw [cAddr_eta μ a ha]
  exact ⟨hc.at hv,ltL_getElem hc.l hv⟩
 ·simp at hv
theorem rdN_sound (h:Rep P ng ts N0 μ σ w) {a:Addr} (ha:a.spot=none) {k:Nat} {l:List Value} (hl:σ.rdN a k=some l) :
  (loadCells (cAddr μ a) k).run P w = .ok ⟨concL μ l⟩ w∧ltL σ.next l=true∧l.length=k:=by
 unfold AW.rdN at hl
 split at hl
 ·rename_i b hb
  obtain ⟨h1,rfl⟩:=(cutV_some _ _ _).1 hl
  rw [dropV_eq] at h1 ⊢
  have hc:=h.cells hb
  have hlen:((b.cs.drop a.off).take k).length=k:=by rw [List.length_take];omega
  refine ⟨?_,ltL_sub hc.l fun v hv=>List.mem_of_mem_drop (List.mem_of_mem_take hv),hlen⟩
  have:=run_loadCells_list (P:=P) w (cAddr μ a) (concL μ ((b.cs.drop a.off).take k)) (by
   intro j v hj
   rw [concL_getElem?,Option.map_eq_some_iff] at hj
   obtain ⟨x,hx,rfl⟩:=hj
   have hjk:j < k:=by
    have:=(List.getElem?_eq_some_iff.1 hx).1
    omega
   rw [List.getElem?_take_of_lt hjk,List.getElem?_drop] at hx
   rw [cAddr_eta μ a ha,add_mk,Nat.add_assoc]
   exact hc.at hx)
  rw [concL_length,hlen] at this
  rw [this]
 ·simp at hl
theorem run_load1 {t:TypeId} {a:Addr} {v:Value} (hag:aggOf P t=some false) (h:w.cell? a=some v):(loadVar t a).run P w = .ok v w:=by
 simp [loadVar,run_agg hag,h]
theorem run_loadN {t:TypeId} {a:Addr} {k:Nat} {c:Array Value} (hag:aggOf P t=some true) (hs:szOf P t=some k) (h:(loadCells a k).run P w = .ok c w):(loadVar t a).run P w = .ok (.agg c) w:=by
 simp [loadVar,run_agg hag,run_sz hs,h]
def RSound (P:Program) (μ:Nat→Loc) (n:Nat) (e:List Value) (o:Oper) (v:Value) (w:World):Prop:=
 (execOp (evc μ e) o).run P w = .ok (.value (conc μ v)) w∧lt n v=true
variable {e:List Value}
theorem sR_ld (h:Rep P ng ts N0 μ σ w) (he:ltL σ.next e=true) {o:Oper} {t:TypeId} {x:Operand} (hop:o.op = .load t x) (ht:partOf P t=some none) (hx:okOpd ng x=true)
  {v:Value} (hv:evR e σ (.ld (cOpd x))=some v):RSound P μ σ.next e o v w:=by
 obtain ⟨_,hc,hl⟩:=opV (e:=e) h.glob h.ngn he hx
 simp only [evR] at hv
 generalize (cOpd x).ev e=X at hv hc hl
 rcases partOf_some ht with ⟨_,hag,_⟩ | ⟨k,hk,_⟩
 ·split at hv
  ·rename_i a
   rw [lt_psome] at hl
   have hr:=rd_sound h hl.2 hv
   exact ⟨by simp [execOp,hop,hc,Instr.loadAt,Instr.sureAddr,run_load1 hag hr.1],hr.2⟩
  ·simp at hv
 ·simp at hk
theorem sR_ldn (h:Rep P ng ts N0 μ σ w) (he:ltL σ.next e=true) {o:Oper} {t:TypeId} {k:Nat} {x:Operand} (hop:o.op = .load t x) (ht:partOf P t=some (some k)) (hx:okOpd ng x=true)
  {v:Value} (hv:evR e σ (.ldn k (cOpd x))=some v):RSound P μ σ.next e o v w:=by
 obtain ⟨_,hc,hl⟩:=opV (e:=e) h.glob h.ngn he hx
 simp only [evR] at hv
 generalize (cOpd x).ev e=X at hv hc hl
 rcases partOf_some ht with ⟨hk,_⟩ | ⟨k',hk,hag,hs⟩
 ·simp at hk
 ·simp at hk;subst hk
  split at hv
  ·rename_i a
   rw [lt_psome] at hl
   simp only [Option.map_eq_some_iff] at hv
   obtain ⟨l,hl',rfl⟩:=hv
   have hr:=rdN_sound h hl.2 hl'
   exact ⟨by simp [execOp,hop,hc,Instr.loadAt,Instr.sureAddr,run_loadN hag hs hr.1],by simpa using hr.2.1⟩
  ·simp at hv
theorem sR_slA (h:Rep P ng ts N0 μ σ w) (he:ltL σ.next e=true) {o:Oper} {t el:TypeId} {k len:Nat} {x:Operand} {lo hi:Option Operand} (hop:o.op = .slice t x lo hi none)
  (h1:P.underlying t=some (.array len el)) (h2:szOf P el=some k) (hx:okOpd ng x=true) (hlo:∀ y,lo=some y→okOpd ng y=true) (hhi:∀ y,hi=some y→okOpd ng y=true)
  {v:Value} (hv:evR e σ (.slA k len (cOpd x) (lo.map cOpd) (hi.map cOpd))=some v):RSound P μ σ.next e o v w:=by
 obtain ⟨_,hc,hl⟩:=opV (e:=e) h.glob h.ngn he hx
 simp only [evR] at hv
 generalize hX:(cOpd x).ev e=X at hv hc hl
 split at hv
 ·rename_i a
  simp only [Option.bind_eq_some_iff] at hv
  obtain ⟨hh',hh,l,hl',hv⟩:=hv
  split at hv
  ·rename_i b hb
   split at hv
   ·rename_i hex
    simp at hv;subst hv
    have hex:=(h.cells hb).ex hex
    have hbs:=(bounds_sound (P:=P) (mx:=none) (isSlice:=false) (cap:=len) (c:=len) h.glob hlo hhi (by simp) (by simp [bound]) hh hl' (Nat.le_refl _) (by simp) (Nat.le_refl _) w).1
    simp only [if_true,Option.map_none] at hbs
    rw [lt_psome] at hl
    refine ⟨?_,?_⟩
    ·simp [execOp,hop,hc,Instr.sliceAt,run_und h1,hbs,Instr.sureAddr,run_sz h2]
     split <;> simp [hex,cAddr,hl.2,add_mk,Nat.add_assoc]
    ·split <;> simp [hl.1,hl.2]
   ·simp at hv
  ·simp at hv
 ·simp at hv
theorem exactAt_sound (h:Rep P ng ts N0 μ σ w) {i:Nat} (hi:σ.exactAt i=true):(μ i).ex=0:=by
 unfold AW.exactAt at hi
 split at hi
 ·rename_i b hb;exact (h.cells hb).ex hi
 ·simp at hi
theorem bnd_le {e:List Value} {d y r:Nat} {x:Option Opd} (h:bound e d y x=some r) (hd:d≤y):r≤y:=by
 cases x with
 | none=>simp [bound] at h;omega
 | some x=>
  simp only [bound] at h
  split at h
  ·split at h
   ·simp at h;omega
   ·simp at h
  ·simp at h
theorem sR_slV (h:Rep P ng ts N0 μ σ w) (he:ltL σ.next e=true) {o:Oper} {t el:TypeId} {k:Nat} {x:Operand} {lo hi mx:Option Operand} (hop:o.op = .slice t x lo hi mx)
  (h1:P.underlying t=some (.slice el)) (h2:szOf P el=some k) (hx:okOpd ng x=true) (hlo:∀ y,lo=some y→okOpd ng y=true) (hhi:∀ y,hi=some y→okOpd ng y=true) (hmx:∀ y,mx=some y→okOpd ng y=true)
  (hmh:mx ≠ none→hi ≠ none) {v:Value} (hv:evR e σ (.slV k (cOpd x) (lo.map cOpd) (hi.map cOpd) (mx.map cOpd))=some v):RSound P μ σ.next e o v w:=by
 obtain ⟨_,hc,hl⟩:=opV (e:=e) h.glob h.ngn he hx
 simp only [evR] at hv
 generalize hX:(cOpd x).ev e=X at hv hc hl
 split at hv
 ·rename_i a len cap
  split at hv
  ·rename_i hlc
   simp only [Option.bind_eq_some_iff] at hv
   obtain ⟨m,hm,hh',hh,l,hl',hv⟩:=hv
   have hm':mx=none→m=cap:=by
    intro hn;subst hn;simpa [bound,eq_comm] using hm
   cases a with
   | none=>
    simp at hv;subst hv
    have hbs:=bounds_sound (P:=P) (isSlice:=true) (cap:=cap) (c:=cap) h.glob hlo hhi hmx hm hh hl' (Nat.le_refl _) hmh hlc w
    have hmm:(if mx=none then cap else m)=m:=by
     split
     ·rename_i hn;exact (hm' hn).symm
     ·rfl
    rw [hmm] at hbs
    refine ⟨?_,by simp⟩
    simp [execOp,hop,hc,Instr.sliceAt,Instr.slice,run_und h1,hbs.1,run_sz h2]
   | some a=>
    simp only at hv
    split at hv
    ·rename_i hcond
     simp only [Option.some.injEq] at hv
     subst hv
     rw [lt_ssome] at hl
     have bm:=bnd_le hm (Nat.le_refl _)
     have hsp:(¬ cap=0∨¬ m=l)→a.spot=none:=by
      intro hne
      rcases hl.2 with hs | ⟨hz1,hz2⟩
      ·exact hs
      ·exfalso
       have b2:=bnd_le hh (by omega)
       have b3:=bnd_le hl' (Nat.zero_le _)
       rcases hne with hne | hne <;> omega
     have hbs:=bounds_sound (P:=P) (isSlice:=true) (cap:=cap) (c:=cap + (μ a.block).ex) h.glob hlo hhi hmx hm hh hl' (by omega) hmh hlc w
     have hcond':(mx=none∧(l=0∨l < cap))∨(μ a.block).ex=0:=by
      simp only [Bool.or_eq_true,Bool.and_eq_true,Option.isNone_map,Option.isNone_iff_eq_none,beq_iff_eq,Nat.blt_eq] at hcond
      exact hcond.imp id (exactAt_sound h)
     refine ⟨?_,?_⟩
     ·simp only [execOp,hop,hc,conc_ssome,Instr.sliceAt,Instr.slice,Sem.run_bind,run_und h1,Result.andThen_ok,hbs.1,run_sz h2,Sem.run_pure,Option.map_some]
      congr 2
      have e1:a.spot=none→∀ j,(cAddr μ a).add j=⟨(μ a.block).blk,(μ a.block).sh + a.off + j,none⟩:=fun hs j=>by rw [cAddr_eta μ a hs,add_mk]
      have e2:∀ j,cAddr μ ⟨a.block,a.off + j,none⟩=⟨(μ a.block).blk,(μ a.block).sh + a.off + j,none⟩:=fun j=>by simp [cAddr,Nat.add_assoc]
      have e0:(cAddr μ a).add 0=cAddr μ a:=by simp [Addr.add]
      rcases hcond' with ⟨hn,hl0⟩ | hex
      ·have hmc:=hm' hn
       subst hmc
       rw [if_pos hn]
       rcases hl0 with rfl | hlt
       ·rw [Nat.zero_mul,e0]
        simp only [ite_self,Nat.sub_zero]
        by_cases hm0:m=0
        ·simp [hm0]
        ·rw [if_neg hm0];simp [cAddr,hsp (.inl hm0)]
       ·rw [if_neg (by omega),if_neg (by omega),e1 (hsp (.inl (by omega))),e2]
        congr 1
        show m + (μ a.block).ex - l=m - l + (μ a.block).ex
        omega
      ·have hmm:(if mx=none then cap + (μ a.block).ex else m)=m:=by
        split
        ·rename_i hn;rw [hm' hn];omega
        ·rfl
       rw [hmm]
       by_cases hml:m=l
       ·rw [if_pos hml,if_pos hml];simp [hex]
       ·rw [if_neg hml,if_neg hml,e1 (hsp (.inr hml)),e2]
        congr 1
        show m - l=m - l + (μ a.block).ex
        omega
     ·split
      ·rw [lt_ssome];exact ⟨hl.1,hl.2.imp id fun hz=>by
        have b2:=bnd_le hh (by omega)
        have b3:=bnd_le hl' (Nat.zero_le _)
        omega⟩
      ·rw [lt_ssome];exact ⟨hl.1,.inl rfl⟩
    ·simp at hv
  ·simp at hv
 ·simp at hv
end
end Go.Proofs.YtnpoloachkcadaaGreatDoor.Ai
namespace Go.Proofs.YtnpoloachkcadaaGreatDoor.Ai
open Go
set_option linter.unusedSimpArgs false
section
variable {P:Program} {ng:Nat} {ts:List TypeId} {N0:Bs} {μ:Nat→Loc} {σ:AW} {w:World} {e:List Value}
theorem sR_cap (h:Rep P ng ts N0 μ σ w) (he:ltL σ.next e=true) {o:Oper} {t el:TypeId} {x:Operand} (hop:o.op = .call {callee:=.builtin .cap,args:=#[x],argTypes:=#[t] })
  (h1:P.underlying t=some (.slice el)) (hx:okOpd ng x=true) {v:Value} (hv:evR e σ (.cap (cOpd x))=some v):RSound P μ σ.next e o v w:=by
 obtain ⟨_,hc,hl⟩:=opV (e:=e) h.glob h.ngn he hx
 simp only [evR] at hv
 generalize (cOpd x).ev e=X at hv hc hl
 split at hv
 ·simp at hv;subst hv
  simp [RSound,execOp,hop,resolve,invoke,builtin,hc,Builtin.cap_,run_und h1,goInt]
 ·rename_i a m c
  split at hv
  ·rename_i b hb
   split at hv
   ·rename_i hex
    simp at hv;subst hv
    simp [RSound,execOp,hop,resolve,invoke,builtin,hc,Builtin.cap_,run_und h1,goInt,(h.cells hb).ex hex]
   ·simp at hv
  ·simp at hv
 ·simp at hv
def ptrEq:Value→Value→Option Bool
 | .pointer none,.pointer b=>some b.isNone
 | .pointer (some _),.pointer none=>some false
 | .pointer (some a),.pointer (some b)=>if a.block=b.block then some (a.off == b.off) else none
 | _,_=>none
theorem equalIn_ptr {t el:TypeId} {k n:Nat} (h1:P.underlying t=some (.pointer el)) (h2:szOf P el=some (k + 1)) {X Y:Value} {r:Bool} (hX:lt n X=true) (hY:lt n Y=true)
  (hr:ptrEq X Y=some r) (d:Nat) (w:World):(Op.equalIn (d + 1) t (conc μ X) (conc μ Y)).run P w = .ok r w:=by
 have hu:=run_und h1 w
 unfold ptrEq at hr
 split at hr
 ·rename_i b
  simp only [Option.some.injEq] at hr;subst hr
  cases b <;> simp [Op.equalIn,hu]
 ·simp only [Option.some.injEq] at hr;subst hr
  simp [Op.equalIn,hu]
 ·rename_i a b
  split at hr
  ·rename_i hab
   simp only [Option.some.injEq] at hr;subst hr
   rw [lt_psome] at hX hY
   simp [Op.equalIn,hu,run_sz h2,sameAddr,cAddr,hab,hX.2,hY.2]
   rw [Bool.eq_iff_iff];simp
  ·simp at hr
 ·simp at hr
theorem sR_peq (h:Rep P ng ts N0 μ σ w) (he:ltL σ.next e=true) {o:Oper} {op:BinOp} {t u el:TypeId} {k:Nat} {x y:Operand} (hop:o.op = .binOp op t x y u) (hq:op = .eql∨op = .neq)
  (h1:P.underlying t=some (.pointer el)) (h2:szOf P el=some (k + 1)) (hx:okOpd ng x=true) (hy:okOpd ng y=true)
  {v:Value} (hv:evR e σ (.peq (isNeq op) (cOpd x) (cOpd y))=some v):RSound P μ σ.next e o v w:=by
 obtain ⟨_,hcx,hlx⟩:=opV (e:=e) h.glob h.ngn he hx
 obtain ⟨_,hcy,hly⟩:=opV (e:=e) h.glob h.ngn he hy
 simp only [evR] at hv
 generalize (cOpd x).ev e=X at hv hcx hlx
 generalize (cOpd y).ev e=Y at hv hcy hly
 obtain ⟨r,hr,hvr,a,b,hXa,hYb⟩:∃ r,ptrEq X Y=some r∧v = .bool (r != isNeq op)∧∃ a b,X = .pointer a∧Y = .pointer b:=by
  split at hv
  ·simp only [Option.some.injEq] at hv;subst hv;exact ⟨_,rfl,rfl,_,_,rfl,rfl⟩
  ·simp only [Option.some.injEq] at hv;subst hv;exact ⟨_,rfl,rfl,_,_,rfl,rfl⟩
  ·split at hv
   ·rename_i hab
    simp only [Option.some.injEq] at hv;subst hv;exact ⟨_,by simp only [ptrEq,hab,if_true],rfl,_,_,rfl,rfl⟩
   ·simp at hv
  ·simp at hv
 subst hvr
 refine ⟨?_,by simp⟩
 have k1:(Op.equal t (conc μ X) (conc μ Y)).run P w = .ok r w:=equalIn_ptr h1 h2 hlx hly hr 9999 w
 subst hXa hYb
 have hca:∃ a',conc μ (.pointer a) = .pointer a':=by cases a <;> simp
 have hcb:∃ b',conc μ (.pointer b) = .pointer b':=by cases b <;> simp
 obtain ⟨a',ha'⟩:=hca
 obtain ⟨b',hb'⟩:=hcb
 rw [ha'] at k1 hcx
 rw [hb'] at k1 hcy
 have k2:(eqGuard op t x y (.pointer a') (.pointer b')).run P w = .ok () w:=by cases op <;> simp [eqGuard]
 rcases hq with rfl | rfl
 ·have k3:binOp .eql t (.pointer a') (.pointer b')=(do pure (.bool (← Op.equal t (.pointer a') (.pointer b')))):=rfl
  simp only [execOp,hop,hcx,hcy,Sem.run_bind,k2,Result.andThen_ok,k3,k1,Sem.run_pure,conc_bool,isNeq];simp
 ·have k3:binOp .neq t (.pointer a') (.pointer b')=(do pure (.bool (!(← Op.equal t (.pointer a') (.pointer b'))))):=rfl
  simp only [execOp,hop,hcx,hcy,Sem.run_bind,k2,Result.andThen_ok,k3,k1,Sem.run_pure,conc_bool,isNeq];simp
theorem bytesOf_some:∀ {l:List Value} {b:List UInt8},bytesOf l=some b→b.length=l.length∧∀ (k:Nat) (v:Value),l[k]? = some v→∃ m:Int,v = .int .u8 m∧b[k]? = some (UInt8.ofNat m.toNat)∧0≤m∧m < 256:=by
 intro l
 induction l with
 | nil=>intro b h;simp [bytesOf] at h;subst h;simp
 | cons x l ih=>
  intro b h
  simp only [bytesOf] at h
  split at h
  ·rename_i c r hc hr
   simp at h;subst h
   obtain ⟨h1,h2⟩:=ih hr
   refine ⟨by simp [h1],fun k v hk=>?_⟩
   cases k with
   | zero=>
    simp at hk;subst hk
    unfold byteOf at hc
    split at hc
    ·rename_i m
     split at hc
     ·rename_i hr';simp at hc;subst hc;exact ⟨m,rfl,by simp,hr'⟩
     ·simp at hc
    ·simp at hc
   | succ k=>simpa using h2 k v (by simpa using hk)
  ·simp at h
theorem run_bytesLoop (w:World) (f:Value→ByteArray→Sem (ForInStep ByteArray)) (hf:∀ n r,f (.int .u8 n) r=pure (ForInStep.yield (r.push (UInt8.ofNat n.toNat)))) :
  ∀ (l:List Value) (b:List UInt8) (s:ByteArray),bytesOf l=some b→(forIn l s f).run P w = .ok ⟨(s.data.toList++b).toArray⟩ w:=by
 intro l
 induction l with
 | nil=>intro b s h;simp [bytesOf] at h;subst h;simp
 | cons x l ih=>
  intro b s h
  simp only [bytesOf] at h
  split at h
  ·rename_i c r hc hr
   simp at h;subst h
   unfold byteOf at hc
   split at hc
   ·rename_i m
    split at hc
    ·simp at hc;subst hc
     have:=ih r (s.push (UInt8.ofNat m.toNat)) hr
     simp only [List.forIn_cons,hf,Sem.run_bind,Sem.run_pure,Result.andThen_ok]
     rw [this]
     congr 3
     simp [ByteArray.push]
    ·simp at hc
   ·simp at hc
  ·simp at h
theorem concL_bytes {l:List Value} {b:List UInt8} (h:bytesOf l=some b):concL μ l=l:=by
 obtain ⟨_,h2⟩:=bytesOf_some h
 apply List.ext_getElem?
 intro k
 rw [concL_getElem?]
 cases hk:l[k]? with
 | none=>rfl
 | some v=>
  obtain ⟨m,rfl,_⟩:=h2 k v hk
  simp
theorem sR_b2s (h:Rep P ng ts N0 μ σ w) (he:ltL σ.next e=true) {o:Oper} {src dst el:TypeId} {x:Operand} (hop:o.op = .convert src dst x) (h1:P.underlying src=some (.slice el)) (h2:P.underlying dst=some .string)
  (h3:P.underlying el=some (.int .u8)) (hx:okOpd ng x=true) {v:Value} (hv:evR e σ (.b2s (cOpd x))=some v):RSound P μ σ.next e o v w:=by
 obtain ⟨_,hc,hl⟩:=opV (e:=e) h.glob h.ngn he hx
 simp only [evR] at hv
 generalize (cOpd x).ev e=X at hv hc hl
 split at hv
 ·simp at hv;subst hv
  simp [RSound,execOp,hop,hc,Go.convert,run_und h1,run_und h2,run_und h3,Conv.bytesToString]
 ·rename_i a m c
  split at hv
  ·rename_i hm0
   subst hm0
   simp at hv;subst hv
   simp [RSound,execOp,hop,hc,Go.convert,run_und h1,run_und h2,run_und h3,Conv.bytesToString,loadCells,loadCellsFrom]
  rename_i hm0
  simp only [Option.bind_eq_some_iff,Option.map_eq_some_iff] at hv
  obtain ⟨l,hl',b,hb,rfl⟩:=hv
  rw [lt_ssome] at hl
  obtain ⟨hr,_,_⟩:=rdN_sound h (hl.2.resolve_right (fun hz=>hm0 hz.1)) hl'
  refine ⟨?_,by simp⟩
  rw [concL_bytes hb] at hr
  simp only [execOp,hop,hc,Go.convert,run_und h1,run_und h2,run_und h3,Conv.bytesToString,conc_ssome,Sem.run_bind,Result.andThen_ok,hr]
  have hl2:∀ (f:Value→ByteArray→Sem (ForInStep ByteArray)),forIn (⟨l⟩:Array Value) ByteArray.empty f=forIn l ByteArray.empty f:=fun f=>by simp
  rw [hl2]
  rw [run_bytesLoop (P:=P) w _ (fun _ _=>rfl) l b .empty hb]
  simp only [Result.andThen_ok,Sem.run_pure,conc_string]
  rfl
 ·simp at hv
theorem seenAt_run (h:Rep P ng ts N0 μ σ w) {i:Nat} {b:CB} (hb:σ.cells? i=some b) (a:Addr) (ha:a.block=(μ i).blk):(Conv.seenAt a).run P w = .ok a w:=by
 obtain ⟨_,_,_,_,hs⟩:=(h.cells hb).shape
 simp [Conv.seenAt,viewAt,ha,hs]
theorem sR_p2u (h:Rep P ng ts N0 μ σ w) (he:ltL σ.next e=true) {o:Oper} {src dst el:TypeId} {k:Nat} {x:Operand} (hop:o.op = .convert src dst x) (h1:P.underlying src=some (.pointer el)) (h2:P.underlying dst=some .unsafePointer)
  (h3:szOf P el=some (k + 1)) (hx:okOpd ng x=true) {v:Value} (hv:evR e σ (.p2u (cOpd x))=some v):RSound P μ σ.next e o v w:=by
 obtain ⟨_,hc,hl⟩:=opV (e:=e) h.glob h.ngn he hx
 simp only [evR] at hv
 generalize (cOpd x).ev e=X at hv hc hl
 split at hv
 ·simp at hv;subst hv
  simp [RSound,execOp,hop,hc,Go.convert,run_und h1,run_und h2,Conv.unsafePointer]
 ·rename_i a
  split at hv
  ·rename_i b hb
   split at hv
   ·rename_i hoff
    simp at hv;subst hv
    rw [lt_psome] at hl
    refine ⟨?_,by simpa using hl⟩
    obtain ⟨ty',m',_,hm',hs⟩:=(h.cells hb).shape
    have hsn:=seenAt_run h hb (cAddr μ a) rfl
    have hs':w.shape? (cAddr μ a).block=some (ty',m'):=hs
    have hno:¬ (m'≤(cAddr μ a).off):=by simp [cAddr];omega
    simp [execOp,hop,hc,Go.convert,run_und h1,run_und h2,Conv.unsafePointer,hsn,cellsIn,hs',run_sz h3,hno]
   ·simp at hv
  ·simp at hv
 ·simp at hv
theorem sR_u2p (h:Rep P ng ts N0 μ σ w) (he:ltL σ.next e=true) {o:Oper} {src dst el:TypeId} {k:Nat} {x:Operand} (hop:o.op = .convert src dst x) (h1:P.underlying src=some .unsafePointer) (h2:P.underlying dst=some (.pointer el))
  (h3:szOf P el=some (k + 1)) (h4:liesAt P P.depth el 1 0 el 1=true) (hx:okOpd ng x=true) {v:Value} (hv:evR e σ (.u2p el (k + 1) (cOpd x))=some v):RSound P μ σ.next e o v w:=by
 obtain ⟨_,hc,hl⟩:=opV (e:=e) h.glob h.ngn he hx
 simp only [evR] at hv
 generalize (cOpd x).ev e=X at hv hc hl
 split at hv
 ·simp at hv;subst hv
  simp [RSound,execOp,hop,hc,Go.convert,run_und h1,run_und h2,Conv.unsafePointer]
 ·rename_i a
  split at hv
  ·rename_i b hb
   split at hv
   ·rename_i hcond
    obtain ⟨hty,hex,hlen,hoff,hro⟩:=hcond
    simp at hv;subst hv
    rw [lt_psome] at hl
    refine ⟨?_,by simpa using hl⟩
    have hex0:=(h.cells hb).ex hex
    have hsh0:=(h.cells hb).sh0 hex (by simpa using hro)
    have hs:w.shape? (cAddr μ a).block=some (el,k + 1):=by
     obtain ⟨ty',m',hty',_,this⟩:=(h.cells hb).shape
     obtain ⟨e1,e2⟩:=hty' (by simpa using hro)
     rw [e1,e2,hty,hlen,hex0,hsh0] at this
     simpa [cAddr] using this
    have hsn:=seenAt_run h hb (cAddr μ a) rfl
    have hco:P.cellsOf el=k + 1:=by
     simp only [szOf,Option.map_eq_some_iff] at h3
     obtain ⟨i,hi,hi2⟩:=h3
     simp [Program.cellsOf,hi,hi2]
    have hva:(variablesAt (cAddr μ a) el 1).run P w = .ok true w:=by
     simp [variablesAt,hs,hco]
     simp [cAddr,hsh0,hoff,h4]
    simp [execOp,hop,hc,Go.convert,run_und h1,run_und h2,Conv.unsafePointer,hsn,run_sz h3,hva]
   ·simp at hv
  ·simp at hv
 ·simp at hv
theorem lenM_run (h:Rep P ng ts N0 μ σ w) {t kt el:TypeId} (ht:P.underlying t=some (.map kt el)) {X v:Value}
  (hv:(match X with | .map none=>some (Value.int .i64 0) | .map (some r)=>(match σ.heap.get r with | some (.map es _)=>some (.int .i64 es.length) | _=>none) | _=>none)=some v) (u:TypeId) :
  (Builtin.len_ #[t] u #[conc μ X]).run P w = .ok v w∧∃ j,v = .int .i64 j:=by
 split at hv
 ·simp at hv;subst hv
  refine ⟨?_,_,rfl⟩
  simp [Builtin.len_,run_und ht,goInt]
 ·rename_i r
  split at hv
  ·rename_i es cl hr
   simp at hv;subst hv
   have hb:=(h.blk r _ hr).2.2
   refine ⟨?_,_,rfl⟩
   simp [Builtin.len_,run_und ht,goInt,getObj,Sem.run,hb.o]
  ·simp at hv
 ·simp at hv
theorem sR_lenM (h:Rep P ng ts N0 μ σ w) (he:ltL σ.next e=true) {o:Oper} {t kt el:TypeId} {x:Operand} (hop:o.op = .call {callee:=.builtin .len,args:=#[x],argTypes:=#[t] })
  (ht:P.underlying t=some (.map kt el)) (hx:okOpd ng x=true) {v:Value} (hv:evR e σ (.lenM (cOpd x))=some v):RSound P μ σ.next e o v w:=by
 obtain ⟨_,hc,hl⟩:=opV (e:=e) h.glob h.ngn he hx
 simp only [evR] at hv
 generalize (cOpd x).ev e=X at hv hc hl
 have h1:=fun u=>lenM_run h ht hv u
 obtain ⟨j,hj⟩:=(h1 0).2
 refine ⟨?_,by rw [hj];simp⟩
 have h2:=fun u=>(h1 u).1
 simp only [execOp,hop,resolve,Sem.run_bind,Sem.run_pure,Result.andThen_ok,invoke,builtin]
 simp [hc,h2]
 rw [hj];simp
theorem map_ents (h:Rep P ng ts N0 μ σ w) {r:Nat} {es:List (Value × Value × Nat)} {cl:Nat} (hr:σ.heap.get r=some (.map es cl)) :
  (getObj (μ r).blk).run P w = .ok (.map (es.map (cEnt μ)).toArray cl) w∧∀ x∈es,lt σ.next x.1=true∧lt σ.next x.2.1=true:=by
 have hb:=(h.blk r _ hr).2.2
 refine ⟨?_,hb.l⟩
 have ho:=hb.o
 simp only [getObj,Sem.run,ho]
 rfl
theorem lookup_run {t kt el:TypeId} {q:EqT} {z:Value} (ht:P.underlying t=some (.map kt el)) (hq:cKey P kt=some q) (hz:(zeroValue el).run P w = .ok z w) {X K:Value} {es:List (Value × Value × Nat)}
  (hX:(X = .map none∧es=[])∨∃ r cl,X = .map (some r)∧(getObj r).run P w = .ok (.map (es.map (cEnt μ)).toArray cl) w) (hK:keyOK q K=true) {r:Option (Nat × Value)} (hf:findK q K es 0=some r) (ok:Bool) :
  (Instr.lookup t X (conc μ K) ok).run P w = .ok (match r with | some (_,v)=>if ok then .tuple #[conc μ v,.bool true] else conc μ v | none=>if ok then .tuple #[z,.bool false] else z) w:=by
 have hchk:=fun em=>checkKey_run (μ:=μ) hq hK em 9998 w
 have hfr:=findKey_run (μ:=μ) hq hK w hf
 rcases hX with ⟨rfl,rfl⟩ | ⟨m,cl,rfl,hm⟩
 ·simp only [Instr.lookup,Sem.run_bind,run_und ht,Result.andThen_ok,Sem.run_pure,hchk]
  have hfr':(Instr.findKey kt (conc μ K) (#[]:Array MapEntry).toList).run P w = .ok (r.map fun x=>(x.1,conc μ x.2)) w:=hfr
  rw [hfr']
  rcases r with _ | ⟨i,v⟩
  ·simp only [Option.map_none,Result.andThen_ok,Sem.run_bind,hz,Sem.run_pure]
  ·simp only [Option.map_some,Result.andThen_ok,Sem.run_bind,Sem.run_pure]
 ·simp only [Instr.lookup,Sem.run_bind,run_und ht,Result.andThen_ok,Sem.run_pure,hm,hchk]
  have hfr':(Instr.findKey kt (conc μ K) ((es.map (cEnt μ)).toArray).toList).run P w = .ok (r.map fun x=>(x.1,conc μ x.2)) w:=hfr
  rw [hfr']
  rcases r with _ | ⟨i,v⟩
  ·simp only [Option.map_none,Result.andThen_ok,Sem.run_bind,hz,Sem.run_pure]
  ·simp only [Option.map_some,Result.andThen_ok,Sem.run_bind,Sem.run_pure]
theorem sR_lookup (h:Rep P ng ts N0 μ σ w) (he:ltL σ.next e=true) {o:Oper} {t kt el:TypeId} {q:EqT} {z:Value} {ok:Bool} {x k:Operand} (hop:o.op = .lookup t x k ok)
  (ht:P.underlying t=some (.map kt el)) (hq:cKey P kt=some q) (hz:zeroOf P el=some z) (hx:okOpd ng x=true) (hk:okOpd ng k=true)
  {v:Value} (hv:evR e σ (.lookup q z ok (cOpd x) (cOpd k))=some v):RSound P μ σ.next e o v w:=by
 obtain ⟨_,hc,hl⟩:=opV (e:=e) h.glob h.ngn he hx
 obtain ⟨_,hck,hlk⟩:=opV (e:=e) h.glob h.ngn he hk
 obtain ⟨hz0,hzr⟩:=zeroOf_some hz
 simp only [evR] at hv
 generalize (cOpd x).ev e=X at hv hc hl
 generalize (cOpd k).ev e=K at hv hck hlk
 obtain ⟨es,hes,hv⟩:∃ es,((X = .map none∧es=[])∨∃ r cl,X = .map (some r)∧σ.heap.get r=some (.map es cl))∧
   (if keyOK q K then (match findK q K es 0 with | some (some (_,v))=>some (if ok then .tuple ⟨[v,.bool true]⟩ else v) | some none=>some (if ok then .tuple ⟨[z,.bool false]⟩ else z) | none=>none) else none)=some v:=by
  split at hv
  ·rename_i es hes
   refine ⟨es,?_,hv⟩
   split at hes
   ·simp at hes;exact .inl ⟨rfl,hes⟩
   ·rename_i r
    split at hes
    ·rename_i es' cl hr;simp at hes;subst hes;exact .inr ⟨r,cl,rfl,hr⟩
    ·simp at hes
   ·simp at hes
  ·simp at hv
 have hents:(∀ x∈es,lt σ.next x.1=true∧lt σ.next x.2.1=true)∧((conc μ X = .map none∧es=[])∨∃ r cl,conc μ X = .map (some r)∧(getObj r).run P w = .ok (.map (es.map (cEnt μ)).toArray cl) w):=by
  rcases hes with ⟨rfl,rfl⟩ | ⟨r,cl,rfl,hr⟩
  ·exact ⟨by simp,.inl ⟨by simp,rfl⟩⟩
  ·obtain ⟨h1,h2⟩:=map_ents h hr
   exact ⟨h2,.inr ⟨_,_,by simp,h1⟩⟩
 split at hv
 ·rename_i hK
  split at hv
  ·rename_i r hf
   have hrun:=lookup_run (μ:=μ) ht hq (hzr w) hents.2 hK hf ok
   obtain ⟨_,en,hen,hen2⟩:=findK_lt hf
   simp only [Option.some.injEq] at hv
   have hlv:=(hents.1 en (List.mem_of_getElem? hen)).2
   rw [hen2] at hlv
   refine ⟨?_,?_⟩
   ·simp only [execOp,hop,hc,hck,Sem.run_bind,hrun,Result.andThen_ok,Sem.run_pure]
    cases ok <;> simp at hv <;> subst hv <;> simp [concL]
   ·cases ok <;> simp at hv <;> subst hv <;> simp [hlv,ltL]
  ·rename_i hf
   have hrun:=lookup_run (μ:=μ) ht hq (hzr w) hents.2 hK hf ok
   simp only [Option.some.injEq] at hv
   refine ⟨?_,?_⟩
   ·simp only [execOp,hop,hc,hck,Sem.run_bind,hrun,Result.andThen_ok,Sem.run_pure]
    cases ok <;> simp at hv <;> subst hv <;> simp [concL,conc_zero μ _ hz0]
   ·cases ok <;> simp at hv <;> subst hv <;> simp [lt_mono (Nat.zero_le _) _ hz0,ltL]
  ·simp at hv
 ·simp at hv
theorem evR_sound (h:Rep P ng ts N0 μ σ w) (he:ltL σ.next e=true) {o:Oper} {q:ROp} (hc:cOp P ts o.op=some (.r q)) (ho:okOp ng o.op=true) {v:Value} (hv:evR e σ q=some v):RSound P μ σ.next e o v w:=by
 generalize hop:o.op=op at hc ho
 cases op with
 | load t x=>
  simp only [cOp] at hc
  split at hc
  ·rename_i ht;simp at hc;subst hc;exact sR_ld h he hop ht (okOp_1 ho rfl) hv
  ·rename_i k ht;simp at hc;subst hc;exact sR_ldn h he hop ht (okOp_1 ho rfl) hv
  ·simp at hc
 | binOp op t x y u=>
  have h':=okOp_2 ho rfl
  simp only [cOp] at hc
  split at hc
  ·simp at hc
  ·simp at hc
  ·rename_i d hd1 hd2 hd3
   have key:∀ op,(op = .eql∨op = .neq)→o.op = .binOp op t x y u→cEqOp P ts op t d x y=some (.r q)→RSound P μ σ.next e o v w:=by
    intro op hq hop' hc'
    unfold cEqOp at hc'
    split at hc' <;> try (simp at hc';done)
    rename_i el
    split at hc'
    ·rename_i hs
     simp only [Option.some.injEq,IOp.r.injEq] at hc'
     rw [← hc'] at hv
     cases hsz:szOf P el with
     | none=>simp [hsz] at hs
     | some k=>
      cases k with
      | zero=>simp [hsz] at hs
      | succ k=>exact sR_peq h he hop' hq hd3 hsz h'.1 h'.2 hv
    ·simp at hc'
   split at hc
   ·exact key _ (.inl rfl) hop hc
   ·exact key _ (.inr rfl) hop hc
   ·simp at hc
  ·simp at hc
 | convert src dst x=>
  simp only [cOp] at hc
  split at hc
  ·simp at hc
  ·simp at hc
  ·(repeat' split at hc) <;> simp at hc
  ·rename_i el h1 h2
   split at hc
   ·rename_i h3
    split at hc
    ·simp at hc;subst hc;exact sR_b2s h he hop h1 h2 h3 (okOp_1 ho rfl) hv
    ·simp at hc
   ·simp at hc
  ·rename_i el h1 h2
   split at hc
   ·rename_i hs
    simp at hc;subst hc
    cases hsz:szOf P el with
    | none=>simp [hsz] at hs
    | some k=>
     cases k with
     | zero=>simp [hsz] at hs
     | succ k=>exact sR_p2u h he hop h1 h2 hsz (okOp_1 ho rfl) hv
   ·simp at hc
  ·rename_i el h1 h2
   split at hc
   ·rename_i k hsz
    split at hc
    ·rename_i hl;simp at hc;subst hc;exact sR_u2p h he hop h1 h2 hsz hl (okOp_1 ho rfl) hv
    ·simp at hc
   ·simp at hc
  ·simp at hc
 | slice t x lo hi mx=>
  have h':=ok_arr ho rfl
  simp only [Op.operands] at h'
  simp only [cOp] at hc
  split at hc
  ·simp at hc
  ·rename_i el h1
   split at hc
   ·rename_i k h2
    split at hc
    ·simp at hc
    ·rename_i hmm
     simp only [Bool.or_eq_true,decide_eq_true_eq,Bool.and_eq_true,Option.isSome_iff_ne_none,Option.isNone_iff_eq_none,not_or,not_and] at hmm
     simp at hc;subst hc
     exact sR_slV h he hop h1 h2 (h' x (by simp)) (fun y hy=>h' y (by simp [hy])) (fun y hy=>h' y (by simp [hy])) (fun y hy=>h' y (by simp [hy])) hmm.2 hv
   ·simp at hc
  ·rename_i len el h1
   split at hc
   ·rename_i k h2;simp at hc;subst hc
    exact sR_slA h he hop h1 h2 (h' x (by simp)) (fun y hy=>h' y (by simp [hy])) (fun y hy=>h' y (by simp [hy])) hv
   ·simp at hc
  ·simp at hc
 | call c=>
  obtain ⟨callee,args,ats⟩:=c
  have h':=ok_arr ho rfl
  simp only [Op.operands,Call.operands] at h'
  have h'':∀ x∈args.toList,okOpd ng x=true:=fun x hx=>h' x (by simp;exact .inr (by simpa using hx))
  simp only [cOp] at hc
  cases callee with
  | builtin b=>
   simp only at hc
   unfold cBuiltin at hc
   split at hc
   ·rename_i x t ha ht
    have ha':args = #[x]:=by apply Array.ext';simpa using ha
    have ht':ats = #[t]:=by apply Array.ext';simpa using ht
    subst ha' ht'
    split at hc
    ·simp at hc
    ·simp at hc
    ·simp at hc
    ·rename_i k el h1;simp at hc;subst hc;exact sR_lenM h he hop h1 (h'' x (by simp)) hv
    ·split at hc <;> simp at hc
    ·simp at hc
   ·rename_i x t ha ht
    have ha':args = #[x]:=by apply Array.ext';simpa using ha
    have ht':ats = #[t]:=by apply Array.ext';simpa using ht
    subst ha' ht'
    split at hc
    ·rename_i el h1;simp at hc;subst hc;exact sR_cap h he hop h1 (h'' x (by simp)) hv
    ·simp at hc
   all_goals (repeat' split at hc) <;> simp at hc
  | value f=>cases f <;> simp only at hc <;> (repeat' split at hc) <;> simp at hc
  | invoke x name=>simp at hc
 | build t parts=>
  simp only [cOp] at hc
  split at hc
  ·simp only [Option.bind_eq_bind,Option.bind_eq_some_iff] at hc
   obtain ⟨_,_,_,_,hc⟩:=hc
   split at hc <;> simp at hc
  ·simp only [Option.bind_eq_bind,Option.bind_eq_some_iff] at hc
   obtain ⟨_,_,_,_,hc⟩:=hc
   split at hc <;> simp at hc
  ·simp at hc
 | buildSlice t len parts=>
  simp only [cOp] at hc
  split at hc
  ·simp only [Option.bind_eq_bind,Option.bind_eq_some_iff] at hc
   obtain ⟨z,_,hc⟩:=hc
   split at hc
   ·simp at hc
   ·simp only [Option.bind_eq_some_iff] at hc
    obtain ⟨_,_,hc⟩:=hc
    simp at hc
  ·simp at hc
 | field t x f=>
  simp only [cOp] at hc
  split at hc
  ·split at hc
   ·simp only [Option.map_eq_some_iff] at hc
    obtain ⟨_,_,hc⟩:=hc
    simp at hc
   ·simp at hc
  ·simp at hc
 | indexAddr t x i=>
  simp only [cOp] at hc
  split at hc <;> simp at hc
 | typeAssert x xt t ok=>
  simp only [cOp] at hc
  split at hc
  ·simp at hc
  ·split at hc <;> simp at hc
  ·simp at hc
 | makeMap t r=>cases r <;> simp [cOp] at hc
 | move x=>simp [cOp] at hc
 | assign x=>simp [cOp] at hc
 | pick c a b=>simp [cOp] at hc
 | alloc t=>simp only [cOp] at hc;split at hc <;> simp at hc
 | box t x=>simp only [cOp] at hc;split at hc <;> simp at hc
 | store t a x=>simp only [cOp] at hc;split at hc <;> simp at hc
 | nilCheck x=>simp [cOp] at hc
 | unOp op t x=>simp [cOp] at hc
 | makeInterface t x=>simp only [cOp] at hc;split at hc <;> simp at hc
 | makeFunc f a b=>simp only [cOp] at hc;split at hc <;> simp at hc
 | makeSlice t l c=>simp only [cOp] at hc;(repeat' split at hc) <;> simp at hc
 | fieldAddr t x f=>simp only [cOp] at hc;(repeat' split at hc) <;> simp at hc
 | index t x i=>simp only [cOp] at hc;(repeat' split at hc) <;> simp at hc
 | lookup t x i ok=>
  have h':=okOp_2 ho rfl
  simp only [cOp] at hc
  split at hc
  ·rename_i kt el ht
   split at hc
   ·rename_i q z hq hz;simp at hc;subst hc;exact sR_lookup h he hop ht hq hz h'.1 h'.2 hv
   ·simp at hc
  ·simp at hc
 | mapUpdate t m k v=>simp only [cOp] at hc;(repeat' split at hc) <;> simp at hc
 | insert t m k v=>simp only [cOp] at hc;(repeat' split at hc) <;> simp at hc
 | mapEntry t m k=>simp only [cOp] at hc;(repeat' split at hc) <;> simp at hc
 | extract x i=>simp [cOp] at hc
 | _=>simp [cOp] at hc
end
end Go.Proofs.YtnpoloachkcadaaGreatDoor.Ai
namespace Go.Proofs.YtnpoloachkcadaaGreatDoor.Ai
open Go
set_option linter.unusedSimpArgs false
theorem setCell_heap (w:World) (b o:Nat) (v:Value) {C:Array Value} {t:TypeId} {fr:Nat × Nat} (h:w.heap[b]? = some (.cells C t fr)) :
  (w.setCell ⟨b,o,none⟩ v).heap.size=w.heap.size∧(w.setCell ⟨b,o,none⟩ v).heap[b]? = some (.cells (C.setIfInBounds o v) t fr)∧∀ j,j ≠ b→(w.setCell ⟨b,o,none⟩ v).heap[j]? = w.heap[j]?:=by
 refine ⟨by simp [World.setCell],?_,?_⟩
 ·simp only [World.setCell,Array.getElem?_modify,h]
  simp
 ·intro j hj
  simp only [World.setCell,Array.getElem?_modify]
  rw [if_neg (by omega)]
structure RowPut (w w':World) (b o:Nat) (vs:List Value) (C:Array Value) (t:TypeId) (fr:Nat × Nat):Prop where
 size:w'.heap.size=w.heap.size
 row:∃ C',w'.heap[b]? = some (.cells C' t fr)∧C'.size=C.size∧∀ k,C'[k]? = if o≤k∧k < o + vs.length∧k < C.size then vs[k - o]? else C[k]?
 other:∀ j,j ≠ b→w'.heap[j]? = w.heap[j]?
 os:w'.os=w.os
 tape:w'.tape=w.tape
 output:w'.output=w.output
theorem setCells_put (b:Nat) (t:TypeId) (fr:Nat × Nat):∀ (vs:List Value) (o:Nat) (w:World) (C:Array Value),w.heap[b]? = some (.cells C t fr)→RowPut w (w.setCells b o vs) b o vs C t fr
 | [],o,w,C,h=>⟨rfl,⟨C,h,rfl,fun k=>by simp;intro h1 h2;omega⟩,fun _ _=>rfl,rfl,rfl,rfl⟩
 | v::vs,o,w,C,h=>by
  obtain ⟨h1,h2,h3⟩:=setCell_heap w b o v h
  obtain ⟨g1,⟨C',g2,g3,g4⟩,g5,g6,g7,g8⟩:=setCells_put b t fr vs (o + 1) (w.setCell ⟨b,o,none⟩ v) _ h2
  refine ⟨g1.trans h1,⟨C',g2,by simpa using g3,fun k=>?_⟩,fun j hj=>(g5 j hj).trans (h3 j hj),g6,g7,g8⟩
  rw [g4 k]
  simp only [Array.size_setIfInBounds,List.length_cons,Array.getElem?_setIfInBounds]
  by_cases hk:o=k
  ·subst hk
   rw [if_neg (by omega)]
   by_cases hs:o < C.size
   ·rw [if_pos rfl,if_pos hs,if_pos (by omega)];simp
   ·rw [if_pos rfl,if_neg hs,if_neg (by omega),Array.getElem?_eq_none (by omega)]
  ·by_cases hc:o + 1≤k∧k < o + 1 + vs.length∧k < C.size
   ·rw [if_pos hc,if_pos (by omega),show k - o=(k - (o + 1)) + 1 by omega];simp
   ·rw [if_neg hc,if_neg hk,if_neg (by omega)]
theorem allCells_conc (μ:Nat→Loc):∀ {l:List Value},allCells l=true→∀ v∈concL μ l,v.oneCell'=true
 | [],_=>by simp [concL]
 | v::l,h=>by
  simp [allCells] at h
  intro x hx
  simp [concL] at hx
  rcases hx with rfl | hx
  ·rw [← isCell_oneCell,isCell_conc];exact h.1
  ·exact allCells_conc μ h.2 x hx
theorem run_storeRow {P:Program} {w:World} {b o:Nat} {vs:List Value} {C:Array Value} {t:TypeId} {fr:Nat × Nat} (h:w.heap[b]? = some (.cells C t fr)) (hs:o + vs.length≤C.size)
  (hf:∀ j,j < vs.length→w.frozen? ⟨b,o + j,none⟩=false) (h1:∀ v∈vs,v.oneCell'=true):∃ w',(storeCells ⟨b,o,none⟩ vs).run P w = .ok () w'∧RowPut w w' b o vs C t fr:=by
 refine ⟨w.setCells b o vs,?_,setCells_put b t fr vs o w C h⟩
 have:=run_storeCells_cells (P:=P) b o vs 0 w (fun j hj=>by
  have:o + j < C.size:=by omega
  simp [World.cell?,h,this]) (by simpa using hf) h1
 simpa using this
section
variable {P:Program} {ng:Nat} {ts:List TypeId} {N0:Bs} {μ μ':Nat→Loc} {σ:AW} {w w':World}
theorem frozen_of {w w':World} {B:Nat} (h:w'.heap[B]? = w.heap[B]?) (k:Nat):w'.frozen? ⟨B,k,none⟩=w.frozen? ⟨B,k,none⟩:=by simp [World.frozen?,h]
theorem BRep.mono {n n' i:Nat} {b:Blk} (h:BRep P ng ts μ n i w b) (ha:∀ k,k < n→μ' k=μ k) (hi:i < n) (hn:n≤n') (hw:w'.heap[(μ i).blk]? = w.heap[(μ i).blk]?):BRep P ng ts μ' n' i w' b:=by
 have hc:∀ v,lt n v=true→conc μ' v=conc μ v:=fun v hv=>conc_congr (fun k hk=>ha k hk) v hv
 have hcL:∀ l,ltL n l=true→concL μ' l=concL μ l:=fun l hl=>concL_congr (fun k hk=>ha k hk) l hl
 cases b with
 | cells b=>
  obtain ⟨h1,h2,h2b,h3,C,tt,fr,h4,htt,h5,h6⟩:=h
  refine ⟨ltL_mono hn _ h1,by rw [ha i hi];exact h2,by rw [ha i hi];exact h2b,?_,C,tt,fr,?_,by rw [ha i hi];exact htt,?_,?_⟩
  ·intro hf k hk1 hk2
   rw [ha i hi] at hk1 hk2 ⊢
   rw [frozen_of hw]
   exact h3 hf k hk1 hk2
  ·rw [ha i hi,hw,h4]
  ·rw [ha i hi];exact h5
  ·intro k v hk
   rw [ha i hi,hc v (ltL_getElem h1 hk)]
   exact h6 k v hk
 | map es clock=>
  obtain ⟨h1,h2⟩:=h
  refine ⟨fun x hx=>⟨lt_mono hn _ (h1 x hx).1,lt_mono hn _ (h1 x hx).2⟩,?_⟩
  rw [ha i hi,hw,h2]
  congr 3
  apply List.map_congr_left
  intro x hx
  rw [hc _ (h1 x hx).1,hc _ (h1 x hx).2]
 | loop r=>
  obtain ⟨h1,h2,fn,as,bo,h3,h4⟩:=h
  refine ⟨ltL_mono hn _ h1,by omega,fn,as,bo,?_,h4⟩
  rw [ha i hi,hw,h3,hcL _ h1,ha _ h2]
 | deferred t=>show w'.heap[(μ' i).blk]? = _;rw [ha i hi,hw];exact h
 | strIter s p=>show w'.heap[(μ' i).blk]? = _;rw [ha i hi,hw];exact h
def upd (μ:Nat→Loc) (i:Nat) (l:Loc):Nat→Loc:=fun k=>if k=i then l else μ k
theorem upd_same (μ:Nat→Loc) (i:Nat) (l:Loc):upd μ i l i=l:=by simp [upd]
theorem upd_ne (μ:Nat→Loc) {i k:Nat} (l:Loc) (h:k ≠ i):upd μ i l k=μ k:=by simp [upd,h]
theorem push_get (w:World) (o:Obj) {B:Nat} (h:B < w.heap.size):(w.heap.push o)[B]? = w.heap[B]?:=by
 rw [Array.getElem?_push];rw [if_neg (by omega)]
theorem Rep.push (h:Rep P ng ts N0 μ σ w) {i:Nat} {b:Blk} {σ':AW} (hp:σ.push b=some (i,σ')) {ob:Obj} {ex:Nat} (hro:isRo b=false)
  (hal:∀ c,b = .cells c→∀ j∈c.al,j < σ.next∧∀ bj,σ.heap.get j=some bj→∃ cj,bj = .cells cj∧cj.retired=true∧cj.ro=false)
  (hos:w'.os=w.os) (htp:w'.tape=w.tape) (hout:w'.output=w.output) (hheap:w'.heap=w.heap.push ob)
  (hb:BRep P ng ts (upd μ σ.next ⟨w.heap.size,0,ex⟩) (σ.next + 1) σ.next w' b) :
  i=σ.next∧σ'.next=σ.next + 1∧Rep P ng ts N0 (upd μ σ.next ⟨w.heap.size,0,ex⟩) σ' w'∧Goes μ σ w (upd μ σ.next ⟨w.heap.size,0,ex⟩) σ' w':=by
 unfold AW.push at hp
 split at hp
 ·rename_i hm
  simp only [Option.some.injEq,Prod.mk.injEq] at hp
  obtain ⟨rfl,rfl⟩:=hp
  have hget:∀ k,(σ.heap.set σ.next b).get k=if k=σ.next then some b else σ.heap.get k:=fun k=>Tr.get_set _ _ _ _ (by unfold most at hm;omega)
  have hlt:∀ k c,σ.heap.get k=some c→k < σ.next:=fun k c hk=>(h.blk k c hk).1
  have hagr:∀ k,k < σ.next→upd μ σ.next ⟨w.heap.size,0,ex⟩ k=μ k:=fun k hk=>upd_ne _ _ (by omega)
  have hbl:∀ k c,σ.heap.get k=some c→(μ k).blk < w.heap.size:=by
   intro k c hk
   cases hr:isRo c with
   | false=>exact (h.own k c hk hr).2
   | true=>exact Nat.lt_of_lt_of_le (h.ro k c hk hr) h.big.1
  refine ⟨rfl,rfl,⟨?_,?_,?_,?_,?_,?_,?_,?_⟩,⟨by simp,hagr,hos,htp,hout,by rw [hheap];simp,?_,?_⟩⟩
  ·exact ⟨fun g hg=>by rw [hagr g (Nat.lt_of_lt_of_le hg h.ngn)];exact h.glob.out g hg⟩
  ·have:=h.ngn;simp;omega
  ·intro k c hk
   rw [hget] at hk
   split at hk
   ·rename_i hks;subst hks;simp at hk;subst hk
    exact ⟨by simp,hm,hb⟩
   ·obtain ⟨h1,h2,h3⟩:=h.blk k c hk
    refine ⟨by simp;omega,h2,h3.mono hagr h1 (by simp) ?_⟩
    rw [hheap,push_get w ob (hbl k c hk)]
  ·intro k c hk hr
   rw [hget] at hk
   split at hk
   ·rename_i hks;subst hks
    rw [upd_same,hheap];simp;exact h.big.1
   ·rw [hagr k (hlt k c hk),hheap]
    have:=h.own k c hk hr
    simp;omega
  ·intro k c hk hr
   rw [hget] at hk
   split at hk
   ·simp at hk;subst hk;rw [hro] at hr;simp at hr
   ·rw [hagr k (hlt k c hk)];exact h.ro k c hk hr
  ·intro k j bk bj hk hj hrk hrj hkj he
   rw [hget] at hk hj
   split at hk
   ·rename_i hks
    split at hj
    ·omega
    ·have:=hlt j bj hj;omega
   ·split at hj
    ·rename_i hjs;subst hjs
     rw [upd_same,hagr k (hlt k bk hk)] at he
     have:=hbl k bk hk
     simp at he;omega
    ·have h1:=hagr k (hlt k bk hk)
     have h2:=hagr j (hlt j bj hj)
     rw [h1,h2] at he ⊢
     exact h.dis k j bk bj hk hj hrk hrj hkj he
  ·intro j cj hj k hk
   rw [hget] at hj
   split at hj
   ·rename_i hjs;subst hjs
    simp at hj
    obtain ⟨h1,h2⟩:=hal cj hj k hk
    refine ⟨h1,fun bk hbk=>?_⟩
    rw [hget,if_neg (by omega)] at hbk
    exact h2 bk hbk
   ·obtain ⟨h1,h2⟩:=h.al j cj hj k hk
    refine ⟨h1,fun bk hbk=>?_⟩
    have:=hlt j _ hj
    rw [hget,if_neg (by omega)] at hbk
    exact h2 bk hbk
  ·exact ⟨by rw [hheap];have:=h.big.1;simp;omega,fun B hB=>by have:=h.big.1;rw [hheap,push_get w ob (by omega)];exact h.big.2 B hB⟩
  ·intro B hB _
   rw [hheap,push_get w ob hB]
  ·intro k c hk hr
   rw [hget] at hk
   split at hk
   ·rename_i hks;subst hks;left;rw [upd_same];exact Nat.le_refl _
   ·right;exact ⟨k,c,hk,hr,by rw [hagr k (hlt k c hk)]⟩
 ·simp at hp
theorem get_killAll:∀ (l:List Nat) (h:Tr Blk),(∀ i∈l,i < most i)→∀ k,(killAll l h).get k=if k∈l then none else h.get k
 | [],h,_,k=>by simp [killAll]
 | i::l,h,hm,k=>by
  simp only [killAll,List.mem_cons]
  rw [get_killAll l _ (fun j hj=>hm j (by simp [hj])) k,Tr.get_del _ _ _ (by have:=hm i (by simp);unfold most at this;omega)]
  by_cases h1:k∈l
  ·simp [h1]
  ·by_cases h2:k=i
   ·simp [h2]
   ·simp [h1,h2]
theorem Rep.update (h:Rep P ng ts N0 μ σ w) {i:Nat} {b b':CB} (hi:σ.heap.get i=some (.cells b)) (hro:b.ro=false) (hret:b.retired=false) (hro':b'.ro=false) (hal:b'.al=[])
  (hos:w'.os=w.os) (htp:w'.tape=w.tape) (hout:w'.output=w.output) (hsz:w'.heap.size=w.heap.size) (hoth:∀ j,j ≠ (μ i).blk→w'.heap[j]? = w.heap[j]?)
  (hb:CellsRep μ σ.next i b' w'):Rep P ng ts N0 μ {σ with heap:=(killAll b.al σ.heap).set i (.cells b') } w'∧Goes μ σ w μ {σ with heap:=(killAll b.al σ.heap).set i (.cells b') } w':=by
 have him:=(h.blk i _ hi).2.1
 have hin:=(h.blk i _ hi).1
 have halm:∀ j∈b.al,j < most j:=fun j _=>Nat.lt_succ_self j
 have hget:∀ k,((killAll b.al σ.heap).set i (.cells b')).get k=if k=i then some (.cells b') else if k∈b.al then none else σ.heap.get k:=by
  intro k
  rw [Tr.get_set _ _ _ _ (by unfold most at him;omega),get_killAll _ _ halm]
 have hold:∀ k c,((killAll b.al σ.heap).set i (.cells b')).get k=some c→k ≠ i→σ.heap.get k=some c∧k∉b.al:=by
  intro k c hk hne
  rw [hget,if_neg hne] at hk
  split at hk
  ·simp at hk
  ·rename_i hn;exact ⟨hk,hn⟩
 have hsep:∀ k c,((killAll b.al σ.heap).set i (.cells b')).get k=some c→k ≠ i→isRo c=false→(μ k).blk ≠ (μ i).blk:=by
  intro k c hk hne hr he
  obtain ⟨h1,h2⟩:=hold k c hk hne
  rcases Nat.lt_or_gt_of_ne hne with hlt | hgt
  ·obtain ⟨ci,cj,e1,e2,e3,_⟩:=h.dis k i c _ h1 hi hr (by simp [isRo,hro]) hlt he
   simp at e2;subst e2
   exact h2 e3
  ·obtain ⟨ci,cj,e1,e2,e3,e4,_⟩:=h.dis i k _ c hi h1 (by simp [isRo,hro]) hr hgt he.symm
   simp at e1;subst e1
   rw [hret] at e4;simp at e4
 have hsep':∀ k c,((killAll b.al σ.heap).set i (.cells b')).get k=some c→k ≠ i→(μ k).blk ≠ (μ i).blk:=by
  intro k c hk hne
  cases hr:isRo c with
  | false=>exact hsep k c hk hne hr
  | true=>
   have:=h.ro k c (hold k c hk hne).1 hr
   have:=(h.own i _ hi (by simp [isRo,hro])).1
   omega
 refine ⟨⟨h.glob,h.ngn,?_,?_,?_,?_,?_,⟨by rw [hsz];exact h.big.1,fun B hB=>by have:=(h.own i _ hi (by simp [isRo,hro])).1;rw [hoth B (by omega)];exact h.big.2 B hB⟩⟩,⟨Nat.le_refl _,fun _ _=>rfl,hos,htp,hout,by omega,?_,?_⟩⟩
 ·intro k c hk
  by_cases hne:k=i
  ·subst hne
   rw [hget,if_pos rfl] at hk
   simp at hk;subst hk
   exact ⟨hin,him,hb⟩
  ·obtain ⟨h1,h2,h3⟩:=h.blk k c (hold k c hk hne).1
   exact ⟨h1,h2,h3.mono (fun _ _=>rfl) h1 (Nat.le_refl _) (hoth _ (hsep' k c hk hne))⟩
 ·intro k c hk hr
  by_cases hne:k=i
  ·subst hne
   rw [hsz];exact h.own k _ hi (by simp [isRo,hro])
  ·rw [hsz];exact h.own k c (hold k c hk hne).1 hr
 ·intro k c hk hr
  by_cases hne:k=i
  ·subst hne
   rw [hget,if_pos rfl] at hk
   simp at hk;subst hk
   simp [isRo,hro'] at hr
  ·exact h.ro k c (hold k c hk hne).1 hr
 ·intro k j bk bj hk hj hrk hrj hkj he
  by_cases h1:k=i
  ·subst h1
   exact absurd he.symm (hsep j bj hj (by omega) hrj)
  ·by_cases h2:j=i
   ·subst h2
    exact absurd he (hsep k bk hk h1 hrk)
   ·exact h.dis k j bk bj (hold k bk hk h1).1 (hold j bj hj h2).1 hrk hrj hkj he
 ·intro j cj hj k hk
  by_cases h1:j=i
  ·subst h1
   rw [hget,if_pos rfl] at hj
   simp at hj;subst hj
   rw [hal] at hk;simp at hk
  ·obtain ⟨g1,g2⟩:=h.al j cj (hold j _ hj h1).1 k hk
   refine ⟨g1,fun bk hbk=>?_⟩
   by_cases h2:k=i
   ·subst h2
    obtain ⟨ck,e1,e2,_⟩:=g2 _ hi
    simp at e1;subst e1
    rw [hret] at e2;simp at e2
   ·exact g2 bk (hold k bk hbk h2).1
 ·intro B hB hn
  exact hoth B fun he=>hn i _ hi (by simp [isRo,hro]) he.symm
 ·intro k c hk hr
  right
  by_cases hne:k=i
  ·subst hne
   exact ⟨k,_,hi,by simp [isRo,hro],rfl⟩
  ·exact ⟨k,c,(hold k c hk hne).1,hr,rfl⟩
end
end Go.Proofs.YtnpoloachkcadaaGreatDoor.Ai
namespace Go.Proofs.YtnpoloachkcadaaGreatDoor.Ai
open Go
set_option linter.unusedSimpArgs false
section
variable {P:Program} {ng:Nat} {ts:List TypeId} {N0:Bs} {μ μ':Nat→Loc} {σ:AW} {w w':World} {e:List Value}
theorem newCells_rep {n:Nat} {cs:List Value} (hl:ltL n cs=true) (t:TypeId) (esz:Nat) (exact:Bool) (al:List Nat) (rest:List Value) (k:Nat) (hrest:rest.length=k * esz) (hex:exact=true→k=0)
  (hw:w'.heap=w.heap.push (.cells (concL μ cs++rest).toArray t)) :
  CellsRep (upd μ n ⟨w.heap.size,0,k⟩) (n + 1) n (newCB t esz cs exact al) w':=by
 have hcL:concL (upd μ n ⟨w.heap.size,0,k⟩) cs=concL μ cs:=concL_congr (fun i hi=>upd_ne _ _ (by omega)) _ hl
 have hget:w'.heap[w.heap.size]? = some (.cells (concL μ cs++rest).toArray t (0,0)):=by rw [hw];simp
 refine ⟨ltL_mono (Nat.le_succ n) _ hl,fun he=>by rw [upd_same];exact hex he,fun _ _=>by rw [upd_same],?_,(concL μ cs++rest).toArray,t,(0,0),?_,fun _=>⟨rfl,?_⟩,?_,?_⟩
 ·intro _ j _ _
  rw [upd_same]
  simp only [World.frozen?,hget]
  simp
 ·rw [upd_same];exact hget
 ·rw [upd_same];simp [concL_length,newCB,hrest]
 ·rw [upd_same];simp [concL_length,newCB]
 ·intro j v hj
  rw [upd_same]
  have hj':cs[j]? = some v:=hj
  have hlt:j < (concL μ cs).length:=by rw [concL_length];exact (List.getElem?_eq_some_iff.1 hj').1
  simp only [Nat.zero_add,List.getElem?_toArray]
  rw [List.getElem?_append_left hlt,← hcL,concL_getElem?,hj']
  rfl
def NSound (P:Program) (ng:Nat) (ts:List TypeId) (μ:Nat→Loc) (n:Nat) (e:List Value) (o:Oper) (b:Blk) (f:Nat→Value) (w:World):Prop:=
 ∃ ob,(execOp (evc μ e) o).run P w = .ok (.value (conc (upd μ n ⟨w.heap.size,0,0⟩) (f n))) {w with heap:=w.heap.push ob }∧isRo b=false∧(∀ c,b = .cells c→c.al=[])∧
  BRep P ng ts (upd μ n ⟨w.heap.size,0,0⟩) (n + 1) n {w with heap:=w.heap.push ob } b∧lt (n + 1) (f n)=true
theorem sN_new {n:Nat} {o:Oper} {t:TypeId} {z:List Value} (hop:o.op = .alloc t) (ht:zeroCells P t=some z) {b:Blk} {f:Nat→Value} (hv:evN e (.new t z.length z)=some (b,f)) (w:World):NSound P ng ts μ n e o b f w:=by
 simp only [evN,Option.some.injEq,Prod.mk.injEq] at hv
 obtain ⟨rfl,rfl⟩:=hv
 obtain ⟨_,_,_,_,hz,_⟩:=zeroCells_some ht
 obtain ⟨v,hr,hc⟩:=zeroCells_run ht w
 refine ⟨.cells z.toArray t,?_,rfl,fun c hc=>by simp at hc;subst hc;rfl,?_,by simp⟩
 ·simp [execOp,hop,Instr.alloc,hr,newVar,newRow,hc,cAddr,upd_same]
 ·refine newCells_rep (μ:=μ) (ltL_mono (Nat.zero_le n) z hz) t z.length true [] [] 0 (by simp) (by simp) ?_
  simp [concL_zero μ z hz]
theorem sN_box (hg:Glob ng μ) {n:Nat} (hn:ng≤n) (he:ltL n e=true) {o:Oper} {t:TypeId} {k:Nat} {x:Operand} (hop:o.op = .box t x) (hx:okOpd ng x=true) {b:Blk} {f:Nat→Value} (hv:evN e (.box t k (cOpd x))=some (b,f)) (w:World):NSound P ng ts μ n e o b f w:=by
 simp only [evN,Option.some.injEq,Prod.mk.injEq] at hv
 obtain ⟨rfl,rfl⟩:=hv
 obtain ⟨_,hc,hl⟩:=opV (e:=e) hg hn he hx
 refine ⟨.cells (concL μ (cellsOf ((cOpd x).ev e))).toArray t,?_,rfl,fun c hc=>by simp at hc;subst hc;rfl,?_,by simp⟩
 ·have:(conc μ ((cOpd x).ev e)).cells=(concL μ (cellsOf ((cOpd x).ev e))).toArray:=by apply Array.ext';simp [cells_conc]
  simp [execOp,hop,Instr.box,newVar,newRow,hc,cAddr,upd_same,this]
 ·exact newCells_rep (μ:=μ) (cellsOf_lt hl) t k true [] [] 0 (by simp) (by simp) (by simp)
theorem flatten_getElem (z:List Value):∀ (k i:Nat),i < k * z.length→(List.replicate k z).flatten[i]? = z[i % z.length]?:=by
 intro k
 induction k with
 | zero=>intro i h;simp at h
 | succ k ih=>
  intro i h
  rw [List.replicate_succ,List.flatten_cons]
  by_cases hi:i < z.length
  ·rw [List.getElem?_append_left hi,Nat.mod_eq_of_lt hi]
  ·have e1:(k + 1) * z.length=k * z.length + z.length:=Nat.succ_mul _ _
   rw [List.getElem?_append_right (by omega),ih _ (by omega)]
   congr 1
   exact (Nat.mod_eq_sub_mod (by omega)).symm
theorem zeros_eq (z:List Value) (k:Nat) (hz:z.length ≠ 0):(Array.range (k * z.length)).map (fun i=>z.toArray[i % z.length]!)=((List.replicate k z).flatten).toArray:=by
 apply Array.ext'
 apply List.ext_getElem?
 intro i
 simp only [Array.toList_map,Array.toList_range,List.getElem?_map]
 by_cases hi:i < k * z.length
 ·rw [List.getElem?_range hi,flatten_getElem z k i hi]
  have:i % z.length < z.length:=Nat.mod_lt _ (by omega)
  simp [this]
 ·rw [List.getElem?_eq_none (by simp;omega),List.getElem?_eq_none (by simp;omega)]
  rfl
theorem zeros_eq' (z:List Value) (k:Nat) (hz:z.length ≠ 0):Array.map (fun x=>z[x % z.length]?.getD default) (Array.range (k * z.length))=((List.replicate k z).flatten).toArray:=by
 rw [← zeros_eq z k hz]
 simp
theorem range0:Array.range 0 = #[]:=rfl
theorem flatten_lt {n k:Nat} {z:List Value} (h:ltL n z=true):ltL n (List.replicate k z).flatten=true:=by
 rw [ltL_iff] at h ⊢
 intro v hv
 simp only [List.mem_flatten,List.mem_replicate] at hv
 obtain ⟨l,⟨_,rfl⟩,hv⟩:=hv
 exact h v hv
theorem sN_mkSlice (hg:Glob ng μ) {n:Nat} (hn:ng≤n) (he:ltL n e=true) {o:Oper} {t el:TypeId} {z:List Value} {i:TypeInfo} {l c:Operand} (hop:o.op = .makeSlice t l c) (h1:P.underlying t=some (.slice el)) (h2:zeroCells P el=some z) (hz:z.length ≠ 0)
  (h3:P.info? el=some i) (hl:okOpd ng l=true) (hcc:okOpd ng c=true) {b:Blk} {f:Nat→Value} (hv:evN e (.mkSlice el z.length i.bytes z (cOpd l) (cOpd c))=some (b,f)) (w:World):NSound P ng ts μ n e o b f w:=by
 obtain ⟨_,hl1,_⟩:=opV (e:=e) hg hn he hl
 obtain ⟨_,hc1,_⟩:=opV (e:=e) hg hn he hcc
 simp only [evN] at hv
 generalize (cOpd l).ev e=L at hv hl1
 generalize (cOpd c).ev e=C at hv hc1
 split at hv
 ·rename_i k1 li k2 ci
  split at hv
  ·rename_i hb
   simp only [Option.some.injEq,Prod.mk.injEq] at hv
   obtain ⟨rfl,rfl⟩:=hv
   obtain ⟨_,_,_,hsz,hz0,_⟩:=zeroCells_some h2
   obtain ⟨zv,hzr,hzc⟩:=zeroCells_run h2 w
   have hw1:IntKind.i64.wrap li=li:=by unfold IntKind.wrap;simp [IntKind.bits,IntKind.signed];omega
   have hw2:IntKind.i64.wrap ci=ci:=by unfold IntKind.wrap;simp [IntKind.bits,IntKind.signed];omega
   have hbytes:(i.bytes:Int) * ci≤281474976710656:=by rw [Int.mul_comm];omega
   refine ⟨.cells ((List.replicate ci.toNat z).flatten).toArray el,?_,rfl,fun c hc=>by simp at hc;subst hc;rfl,?_,by simp⟩
   ·have hcond:¬ (((ci < 0∨281474976710656 < (i.bytes:Int) * ci)∨li < 0)∨ci < li):=by omega
    by_cases hn0:ci.toNat * z.length=0
    ·have hc0:ci.toNat=0:=by
      rcases Nat.mul_eq_zero.1 hn0 with h | h
      ·exact h
      ·exact absurd h hz
     have:ci=0:=by omega
     subst this
     have:li=0:=by omega
     subst this
     simp [execOp,hop,hl1,hc1,Instr.makeSlice,run_und h1,run_info h3,asInt,asIntOf,hw1,run_sz hsz,newRow,cAddr,upd_same,range0]
    ·have hzz:=zeros_eq' z ci.toNat hz
     simp only [execOp,hop,hl1,hc1,conc_int,Instr.makeSlice,Sem.run_bind,run_und h1,Result.andThen_ok,run_info h3,asInt,asIntOf,Sem.run_pure,hw1,hw2]
     simp only [Bool.or_eq_true,decide_eq_true_eq,gt_iff_lt]
     rw [if_neg (by simpa using hcond)]
     simp [run_sz hsz,hn0,hzr,hzc,newRow,hzz,cAddr,upd_same]
   ·refine newCells_rep (μ:=μ) (flatten_lt (ltL_mono (Nat.zero_le n) z hz0)) el z.length true [] [] 0 (by simp) (by simp) ?_
    rw [concL_zero μ _ (flatten_lt hz0)];simp
  ·simp at hv
 ·simp at hv
theorem sN_mkMap {n:Nat} {o:Oper} {t:TypeId} (hop:o.op = .makeMap t none) {b:Blk} {f:Nat→Value} (hv:evN e .mkMap=some (b,f)) (w:World):NSound P ng ts μ n e o b f w:=by
 simp only [evN,Option.some.injEq,Prod.mk.injEq] at hv
 obtain ⟨rfl,rfl⟩:=hv
 refine ⟨.map #[] 0,?_,rfl,by simp,⟨by simp,?_⟩,by simp⟩
 ·simp [execOp,hop,Instr.makeMap,upd_same]
 ·simp [upd_same]
theorem sN_buildSlice (hg:Glob ng μ) {n:Nat} (hn:ng≤n) (he:ltL n e=true) {o:Oper} {t el:TypeId} {len:Nat} {parts:Array (Nat × Operand)} {z:List Value} {qs:List (Nat × Nat × Opd)}
  (hop:o.op = .buildSlice t len parts) (h1:P.underlying t=some (.slice el)) (h2:zeroCells P el=some z) (hz:¬ (z.length=0∨len * z.length > 16777216))
  (h4:(parts.toList.mapM fun (i,x)=>if i < len then some (i * z.length,z.length,cOpd x) else none)=some qs) (ho:∀ q∈parts.toList,okOpd ng q.2=true)
  {b:Blk} {f:Nat→Value} (hv:evN e (.buildSlice el z.length len (List.replicate len z).flatten qs)=some (b,f)) (w:World):NSound P ng ts μ n e o b f w:=by
 simp only [evN,Option.map_eq_some_iff,Prod.mk.injEq] at hv
 obtain ⟨cs,hcs,rfl,rfl⟩:=hv
 obtain ⟨_,_,_,hsz,hz0,_⟩:=zeroCells_some h2
 obtain ⟨zv,hzr,hzc⟩:=zeroCells_run h2 w
 have hz':z.length ≠ 0:=fun h=>hz (.inl h)
 have hf:∀ (i:Nat) (x:Operand) (off m:Nat) (y:Opd),(if i < len then some (i * z.length,z.length,cOpd x) else none)=some (off,m,y)→(fun i=>some (i * z.length,z.length)) i=some (off,m)∧y=cOpd x:=by
  intro i x off m y hy
  split at hy <;> simp at hy
  obtain ⟨rfl,rfl,rfl⟩:=hy
  exact ⟨rfl,rfl⟩
 obtain ⟨hpo,hmem⟩:=parts_ok (e:=e) (place:=fun i=>some (i * z.length,z.length)) hg hf ho h4
 have h5:∀ q∈qs,q.2.1 ≠ 0:=by
  intro q hq
  obtain ⟨h1',h2'⟩:=mapM_opt h4
  obtain ⟨j,hj⟩:=List.getElem?_of_mem hq
  have hlt:j < parts.toList.length:=by rw [← h1'];exact (List.getElem?_eq_some_iff.1 hj).1
  obtain ⟨y,hy1,hy2⟩:=h2' j _ (List.getElem?_eq_getElem hlt)
  rw [hy2] at hj;simp at hj;subst hj
  split at hy1
  ·simp at hy1;rw [← hy1.2];exact hz'
 have hfill:=fill_sound qs _ _ cs hpo hcs h5
 rw [concL_zero μ _ (flatten_lt hz0)] at hfill
 have hltc:ltL n cs=true:=by
  refine fill_lt qs _ cs hcs (flatten_lt (ltL_mono (Nat.zero_le n) z hz0)) ?_
  intro q hq
  obtain ⟨p,hp,hqp⟩:=hmem q hq
  rw [hqp]
  exact opd_lt hn he (ho p hp)
 refine ⟨.cells (concL μ cs).toArray el,?_,rfl,fun c hc=>by simp at hc;subst hc;rfl,newCells_rep (μ:=μ) hltc el z.length true [] [] 0 (by simp) (by simp) (by simp),by simp⟩
 have hfill':Instr.fill (fun i=>some (i * z.length,z.length)) ((List.replicate len z).flatten).toArray (Array.map (fun x=>(x.1,evc μ e x.2)) parts).toList=some ⟨concL μ cs⟩:=hfill
 have hzz:=zeros_eq' z len hz'
 simp only [execOp,hop,Instr.buildSlice,Sem.run_bind,run_und h1,Result.andThen_ok,run_sz hsz]
 rw [if_neg (by omega)]
 by_cases hn0:len * z.length=0
 ·have hl0:len=0:=by
   rcases Nat.mul_eq_zero.1 hn0 with h | h
   ·exact h
   ·exact absurd h hz'
  subst hl0
  simp only [Nat.zero_mul,if_true,Sem.run_pure,Result.andThen_ok]
  simp at hfill'
  simp [hfill',newRow,cAddr,upd_same,range0]
 ·rw [if_neg hn0]
  simp only [Array.toList_map] at hfill'
  simp [hzr,hzc,hzz,hfill',newRow,cAddr,upd_same]
theorem evN_sound (hg:Glob ng μ) {n:Nat} (hn:ng≤n) (he:ltL n e=true) {o:Oper} {q:NOp} (hc:cOp P ts o.op=some (.n q)) (ho:okOp ng o.op=true) {b:Blk} {f:Nat→Value} (hv:evN e q=some (b,f)) (w:World):NSound P ng ts μ n e o b f w:=by
 generalize hop:o.op=op at hc ho
 cases op with
 | alloc t=>
  simp only [cOp] at hc
  split at hc
  ·rename_i z hz;simp at hc;subst hc;exact sN_new hop hz hv w
  ·simp at hc
 | box t x=>
  simp only [cOp] at hc
  split at hc
  ·rename_i k hk;simp at hc;subst hc;exact sN_box hg hn he hop (okOp_1 ho rfl) hv w
  ·simp at hc
 | buildSlice t len parts=>
  have h:=ok_arr ho rfl
  have h':∀ q∈parts.toList,okOpd ng q.2=true:=by
   intro q hq
   refine h q.2 ?_
   simp only [Op.operands,List.toList_toArray,List.mem_map]
   exact ⟨q,hq,rfl⟩
  simp only [cOp] at hc
  split at hc
  ·rename_i el h1
   simp only [Option.bind_eq_bind,Option.bind_eq_some_iff] at hc
   obtain ⟨z,h2,hc⟩:=hc
   split at hc
   ·simp at hc
   ·rename_i hz
    simp only [Option.bind_eq_some_iff] at hc
    obtain ⟨qs,h4,hc⟩:=hc
    simp at hc;subst hc
    exact sN_buildSlice hg hn he hop h1 h2 hz h4 h' hv w
  ·simp at hc
 | makeSlice t l c=>
  have h:=okOp_2 ho rfl
  simp only [cOp] at hc
  split at hc
  ·rename_i el h1
   split at hc
   ·rename_i z i h2 h3
    split at hc
    ·simp at hc
    ·rename_i hz
     simp at hc;subst hc
     exact sN_mkSlice hg hn he hop h1 h2 hz h3 h.1 h.2 hv w
   ·simp at hc
  ·simp at hc
 | makeMap t r=>
  cases r with
  | none=>simp [cOp] at hc;subst hc;exact sN_mkMap hop hv w
  | some r=>simp [cOp] at hc
 | call c=>
  obtain ⟨callee,args,ats⟩:=c
  simp only [cOp] at hc
  cases callee with
  | builtin b=>simp only at hc;unfold cBuiltin at hc;(repeat' split at hc) <;> simp at hc
  | value f=>cases f <;> simp only at hc <;> (repeat' split at hc) <;> simp at hc
  | invoke x name=>simp at hc
 | build t parts=>
  simp only [cOp] at hc
  split at hc
  ·simp only [Option.bind_eq_bind,Option.bind_eq_some_iff] at hc
   obtain ⟨_,_,_,_,hc⟩:=hc
   split at hc <;> simp at hc
  ·simp only [Option.bind_eq_bind,Option.bind_eq_some_iff] at hc
   obtain ⟨_,_,_,_,hc⟩:=hc
   split at hc <;> simp at hc
  ·simp at hc
 | binOp op t x y u=>
  simp only [cOp] at hc
  split at hc
  ·simp at hc
  ·simp at hc
  ·split at hc
   ·unfold cEqOp at hc;(repeat' split at hc) <;> simp at hc
   ·unfold cEqOp at hc;(repeat' split at hc) <;> simp at hc
   ·simp at hc
  ·simp at hc
 | field t x f=>
  simp only [cOp] at hc
  split at hc
  ·split at hc
   ·simp only [Option.map_eq_some_iff] at hc
    obtain ⟨_,_,hc⟩:=hc
    simp at hc
   ·simp at hc
  ·simp at hc
 | indexAddr t x i=>simp only [cOp] at hc;split at hc <;> simp at hc
 | typeAssert x xt t ok=>
  simp only [cOp] at hc
  split at hc
  ·simp at hc
  ·split at hc <;> simp at hc
  ·simp at hc
 | convert src dst x=>simp only [cOp] at hc;(repeat' split at hc) <;> simp at hc
 | slice t x lo hi mx=>simp only [cOp] at hc;(repeat' split at hc) <;> simp at hc
 | load t x=>simp only [cOp] at hc;split at hc <;> simp at hc
 | store t a x=>simp only [cOp] at hc;split at hc <;> simp at hc
 | makeInterface t x=>simp only [cOp] at hc;split at hc <;> simp at hc
 | makeFunc f a b=>simp only [cOp] at hc;split at hc <;> simp at hc
 | fieldAddr t x f=>simp only [cOp] at hc;(repeat' split at hc) <;> simp at hc
 | index t x i=>simp only [cOp] at hc;(repeat' split at hc) <;> simp at hc
 | lookup t x i ok=>simp only [cOp] at hc;(repeat' split at hc) <;> simp at hc
 | mapUpdate t m k v=>simp only [cOp] at hc;(repeat' split at hc) <;> simp at hc
 | insert t m k v=>simp only [cOp] at hc;(repeat' split at hc) <;> simp at hc
 | mapEntry t m k=>simp only [cOp] at hc;(repeat' split at hc) <;> simp at hc
 | _=>simp [cOp] at hc
end
end Go.Proofs.YtnpoloachkcadaaGreatDoor.Ai
