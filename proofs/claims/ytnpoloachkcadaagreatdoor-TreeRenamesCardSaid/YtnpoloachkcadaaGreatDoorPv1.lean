/- A PART OF THE PROOF: a step of the proof that the law's code does what its contracts say, by an interpreter of the program's functions that is proved to be sound. -/
import Derived.Test.YtnpoloachkcadaaGreatDoorAi3
namespace Go.Proofs.YtnpoloachkcadaaGreatDoor.Ai
open Go
set_option linter.unusedSimpArgs false
set_option linter.unusedVariables false
inductive PV where
 | junk
 | lit (v:Value)
 | sl (cs:List PV) (n:Nat)
 | sz (cs:List PV) (n:Nat)
 | ref (cs:List PV)
 | loc (i off n cap:Nat)
 | ptr (i off:Nat)
 | map (i:Nat)
 | fn (f:FuncId) (a b:List PV)
 | yld (l:Nat)
 | iface (t:TypeId) (v:PV)
 | agg (l:List PV)
 | tup (l:List PV)
 | sp (cs:List PV) (n m:Nat)
structure Img where
 c:Nat→Option (List Value)
 x:Nat→Prop
instance:CoeFun Img fun _=>Nat→Option (List Value):=⟨Img.c⟩
structure Img.le (I J:Img):Prop where
 c:∀ i vs,I i=some vs→J i=some vs
 x:∀ i vs,I i=some vs→I.x i→J.x i
abbrev Eta:=Nat→Option Nat
def Eta.le (η θ:Eta):Prop:=∀ i a,η i=some a→θ i=some a
abbrev noE:Eta:=fun _=>none
theorem Eta.le_refl (η:Eta):η.le η:=fun _ _ h=>h
theorem Img.le_refl (I:Img):I.le I:=⟨fun _ _ h=>h,fun _ _ _ h=>h⟩
theorem Img.le_trans {I J K:Img} (h:I.le J) (k:J.le K):I.le K:=⟨fun i vs hv=>k.c i vs (h.c i vs hv),fun i vs hv hx=>k.x i vs (h.c i vs hv) (h.x i vs hv hx)⟩
theorem noE_le (η:Eta):noE.le η:=fun _ _ h=>by simp at h
mutual
def Rd (I:Img) (η:Eta):PV→Value→Prop
 | .junk,_=>True
 | .lit u,v=>v=u∧lt 0 u=true
 | .sl cs n,v=>∃ i off cap vs ws rest,v = .slice (some ⟨i,off,none⟩) n cap∧n≤cap∧I i=some vs∧vs.drop off=ws++rest∧RdL I noE cs ws
 | .sz cs n,v=>(n=0∧(v = .slice none 0 0∨∃ a j us,v = .slice (some a) 0 0∧a.block≤j∧I j=some us))∨∃ i off cap vs ws rest,v = .slice (some ⟨i,off,none⟩) n cap∧n≤cap∧I i=some vs∧vs.drop off=ws++rest∧RdL I noE cs ws
 | .ref cs,v=>∃ i off vs ws rest,v = .pointer (some ⟨i,off,none⟩)∧I i=some vs∧vs.drop off=ws++rest∧RdL I noE cs ws
 | .loc i off n cap,v=>∃ a,η i=some a∧v = .slice (some ⟨a,off,none⟩) n cap
 | .ptr i off,v=>∃ a,η i=some a∧v = .pointer (some ⟨a,off,none⟩)
 | .map i,v=>∃ a,η i=some a∧v = .map (some a)
 | .fn f a b,v=>∃ x y,v = .func (.func f) ⟨x⟩ ⟨y⟩∧RdL I η a x∧RdL I η b y
 | .yld l,v=>∃ a,η l=some a∧v = .func (.yield a) #[] #[]
 | .iface t p,v=>∃ x,v = .iface t x∧Rd I η p x
 | .agg l,v=>∃ x,v = .agg ⟨x⟩∧RdL I η l x
 | .tup l,v=>∃ x,v = .tuple ⟨x⟩∧RdL I η l x
 | .sp cs n m,v=>∃ i off vs ws rest,v = .slice (some ⟨i,off,none⟩) n m∧n≤m∧I i=some vs∧vs.drop off=ws++rest∧I.x i∧RdL I noE cs ws
def RdL (I:Img) (η:Eta):List PV→List Value→Prop
 | [],[]=>True
 | p::ps,v::vs=>Rd I η p v∧RdL I η ps vs
 | _,_=>False
end
mutual
theorem Rd.mono {I J:Img} {η θ:Eta} (h:I.le J) (g:η.le θ):∀ {p:PV} {v:Value},Rd I η p v→Rd J θ p v
 | .junk,_,_=>by simp [Rd]
 | .lit u,v,hr=>by simpa [Rd] using hr
 | .sl cs n,v,hr=>by
  simp only [Rd] at hr ⊢
  obtain ⟨i,off,cap,vs,ws,rest,h1,h2,h3,h4,h5⟩:=hr
  exact ⟨i,off,cap,vs,ws,rest,h1,h2,h.c _ _ h3,h4,RdL.mono h (Eta.le_refl _) h5⟩
 | .sz cs n,v,hr=>by
  simp only [Rd] at hr ⊢
  rcases hr with ⟨h0,hr | ⟨a,j,us,h1,h2,h3⟩⟩ | ⟨i,off,cap,vs,ws,rest,h1,h2,h3,h4,h5⟩
  ·exact .inl ⟨h0,.inl hr⟩
  ·exact .inl ⟨h0,.inr ⟨a,j,us,h1,h2,h.c _ _ h3⟩⟩
  ·exact .inr ⟨i,off,cap,vs,ws,rest,h1,h2,h.c _ _ h3,h4,RdL.mono h (Eta.le_refl _) h5⟩
 | .ref cs,v,hr=>by
  simp only [Rd] at hr ⊢
  obtain ⟨i,off,vs,ws,rest,h1,h3,h4,h5⟩:=hr
  exact ⟨i,off,vs,ws,rest,h1,h.c _ _ h3,h4,RdL.mono h (Eta.le_refl _) h5⟩
 | .loc i off n cap,v,hr=>by
  simp only [Rd] at hr ⊢
  obtain ⟨a,h1,h2⟩:=hr
  exact ⟨a,g _ _ h1,h2⟩
 | .ptr i off,v,hr=>by
  simp only [Rd] at hr ⊢
  obtain ⟨a,h1,h2⟩:=hr
  exact ⟨a,g _ _ h1,h2⟩
 | .map i,v,hr=>by
  simp only [Rd] at hr ⊢
  obtain ⟨a,h1,h2⟩:=hr
  exact ⟨a,g _ _ h1,h2⟩
 | .fn f a b,v,hr=>by
  simp only [Rd] at hr ⊢
  obtain ⟨x,y,h1,h2,h3⟩:=hr
  exact ⟨x,y,h1,RdL.mono h g h2,RdL.mono h g h3⟩
 | .yld l,v,hr=>by
  simp only [Rd] at hr ⊢
  obtain ⟨a,h1,h2⟩:=hr
  exact ⟨a,g _ _ h1,h2⟩
 | .iface t v,_,hr=>by
  simp only [Rd] at hr ⊢
  obtain ⟨x,h1,h2⟩:=hr
  exact ⟨x,h1,Rd.mono h g h2⟩
 | .agg l,v,hr=>by
  simp only [Rd] at hr ⊢
  obtain ⟨x,h1,h2⟩:=hr
  exact ⟨x,h1,RdL.mono h g h2⟩
 | .tup l,v,hr=>by
  simp only [Rd] at hr ⊢
  obtain ⟨x,h1,h2⟩:=hr
  exact ⟨x,h1,RdL.mono h g h2⟩
 | .sp cs n m,v,hr=>by
  simp only [Rd] at hr ⊢
  obtain ⟨i,off,vs,ws,rest,h1,h2,h3,h4,h6,h5⟩:=hr
  exact ⟨i,off,vs,ws,rest,h1,h2,h.c _ _ h3,h4,h.x _ _ h3 h6,RdL.mono h (Eta.le_refl _) h5⟩
theorem RdL.mono {I J:Img} {η θ:Eta} (h:I.le J) (g:η.le θ):∀ {ps:List PV} {vs:List Value},RdL I η ps vs→RdL J θ ps vs
 | [],[],_=>by simp [RdL]
 | p::ps,v::vs,hr=>by
  simp only [RdL] at hr ⊢
  exact ⟨Rd.mono h g hr.1,RdL.mono h g hr.2⟩
 | [],_::_,hr=>by simp [RdL] at hr
 | _::_,[],hr=>by simp [RdL] at hr
end
theorem Rd.pure {I:Img} {η:Eta} {p:PV} {v:Value} (h:Rd I noE p v):Rd I η p v:=h.mono (Img.le_refl _) (noE_le _)
theorem RdL.pure {I:Img} {η:Eta} {p:List PV} {v:List Value} (h:RdL I noE p v):RdL I η p v:=h.mono (Img.le_refl _) (noE_le _)
section
variable {I:Img} {η:Eta}
theorem RdL.length:∀ {ps:List PV} {vs:List Value},RdL I η ps vs→ps.length=vs.length
 | [],[],_=>rfl
 | p::ps,v::vs,h=>by simp only [RdL] at h;simp [RdL.length h.2]
 | [],_::_,h=>by simp [RdL] at h
 | _::_,[],h=>by simp [RdL] at h
theorem RdL.get:∀ {ps:List PV} {vs:List Value} (h:RdL I η ps vs) {k:Nat} {p:PV},ps[k]? = some p→∃ v,vs[k]? = some v∧Rd I η p v
 | [],[],_,k,p,hk=>by simp at hk
 | q::ps,v::vs,h,0,p,hk=>by simp only [RdL] at h;simp at hk;subst hk;exact ⟨v,by simp,h.1⟩
 | q::ps,v::vs,h,k + 1,p,hk=>by
  simp only [RdL] at h
  simpa using RdL.get h.2 (k:=k) (by simpa using hk)
 | [],_::_,h,_,_,_=>by simp [RdL] at h
 | _::_,[],h,_,_,_=>by simp [RdL] at h
theorem RdL.append {ps qs:List PV} {vs ws:List Value} (h1:RdL I η ps vs) (h2:RdL I η qs ws):RdL I η (ps++qs) (vs++ws):=by
 induction ps generalizing vs with
 | nil=>cases vs with
  | nil=>simpa using h2
  | cons v vs=>simp [RdL] at h1
 | cons p ps ih=>cases vs with
  | nil=>simp [RdL] at h1
  | cons v vs=>simp only [RdL,List.cons_append] at h1 ⊢;exact ⟨h1.1,ih h1.2⟩
theorem RdL.drop:∀ {ps:List PV} {vs:List Value} (h:RdL I η ps vs) (k:Nat),RdL I η (ps.drop k) (vs.drop k)
 | _,_,h,0=>by simpa using h
 | [],[],h,k + 1=>by simpa using h
 | p::ps,v::vs,h,k + 1=>by simp only [RdL] at h;simpa using RdL.drop h.2 k
 | [],_::_,h,_=>by simp [RdL] at h
 | _::_,[],h,_=>by simp [RdL] at h
theorem RdL.take:∀ {ps:List PV} {vs:List Value} (h:RdL I η ps vs) (k:Nat),RdL I η (ps.take k) (vs.take k)
 | _,_,h,0=>by simp [RdL]
 | [],[],h,k + 1=>by simp [RdL]
 | p::ps,v::vs,h,k + 1=>by simp only [RdL] at h;simp only [List.take_succ_cons,RdL];exact ⟨h.1,RdL.take h.2 k⟩
 | [],_::_,h,_=>by simp [RdL] at h
 | _::_,[],h,_=>by simp [RdL] at h
theorem RdL.set:∀ {ps:List PV} {vs:List Value} (h:RdL I η ps vs) (k:Nat) {p:PV} {v:Value},Rd I η p v→RdL I η (ps.set k p) (vs.set k v)
 | [],[],h,k,p,v,hp=>by simpa using h
 | q::ps,w::vs,h,0,p,v,hp=>by simp only [RdL,List.set_cons_zero] at h ⊢;exact ⟨hp,h.2⟩
 | q::ps,w::vs,h,k + 1,p,v,hp=>by simp only [RdL,List.set_cons_succ] at h ⊢;exact ⟨h.1,RdL.set h.2 k hp⟩
 | [],_::_,h,_,_,_,_=>by simp [RdL] at h
 | _::_,[],h,_,_,_,_=>by simp [RdL] at h
end
mutual
def ofV:Value→PV
 | .agg ⟨l⟩=>.agg (ofVs l)
 | .tuple ⟨l⟩=>.tup (ofVs l)
 | .iface t v=>.iface t (ofV v)
 | .func (.func f) ⟨a⟩ ⟨b⟩=>.fn f (ofVs a) (ofVs b)
 | v=>.lit v
def ofVs:List Value→List PV
 | []=>[]
 | v::l=>ofV v::ofVs l
end
mutual
theorem rd_ofV {I:Img} {η:Eta}:∀ (v:Value),lt 0 v=true→Rd I η (ofV v) v:=by
 intro v h
 unfold ofV
 split
 ·rename_i l
  simp only [Rd]
  exact ⟨l,rfl,rdL_ofVs l (by simpa [lt] using h)⟩
 ·rename_i l
  simp only [Rd]
  exact ⟨l,rfl,rdL_ofVs l (by simpa [lt] using h)⟩
 ·rename_i t v
  simp only [Rd]
  exact ⟨v,rfl,rd_ofV v (by simpa [lt] using h)⟩
 ·rename_i f a b
  simp only [Rd]
  have h':ltL 0 a=true∧ltL 0 b=true:=by simpa [lt,ltFn] using h
  exact ⟨a,b,rfl,rdL_ofVs a h'.1,rdL_ofVs b h'.2⟩
 ·simp only [Rd];exact ⟨trivial,h⟩
theorem rdL_ofVs {I:Img} {η:Eta}:∀ (l:List Value),ltL 0 l=true→RdL I η (ofVs l) l
 | [],_=>by simp [ofVs,RdL]
 | v::l,h=>by
  simp only [ltL,Bool.and_eq_true] at h
  simp only [ofVs,RdL]
  exact ⟨rd_ofV v h.1,rdL_ofVs l h.2⟩
end
end Go.Proofs.YtnpoloachkcadaaGreatDoor.Ai
namespace Go.Proofs.YtnpoloachkcadaaGreatDoor.Ai
open Go
set_option linter.unusedSimpArgs false
set_option linter.unusedVariables false
def getP:List PV→Nat→PV
 | [],_=>.junk
 | v::_,0=>v
 | _::l,n + 1=>getP l n
def setP:List PV→Nat→PV→List PV
 | [],_,_=>[]
 | _::l,0,x=>x::l
 | v::l,n + 1,x=>v::setP l n x
def nthP:List PV→Nat→Option PV
 | [],_=>none
 | v::_,0=>some v
 | _::l,n + 1=>nthP l n
abbrev PG:=Nat→Option (List PV)
def Opd.pv (G:PG) (e:List PV):Opd→PV
 | .t n=>getP e n
 | .c v=>if lt 0 v then ofV v else .junk
 | .g n=>match G n with | some cs=>.ref cs | none=>.junk
def pcells:PV→List PV
 | .agg l=>l
 | v=>[v]
def overP:List PV→List PV→Option (List PV)
 | cs,[]=>some cs
 | [],_::_=>none
 | _::cs,v::vs=>(overP cs vs).map (v::·)
def spliceP:List PV→Nat→List PV→Option (List PV)
 | cs,0,vs=>overP cs vs
 | [],_ + 1,vs=>if vs.isEmpty then some [] else none
 | c::cs,n + 1,vs=>(spliceP cs n vs).map (c::·)
def plainP:PV→Bool
 | .junk=>false
 | .agg _ | .tup _=>false
 | .lit v=>isCell v
 | _=>true
def fillP (G:PG) (e:List PV):List PV→List (Nat × Nat × Opd)→Option (List PV)
 | cs,[]=>some cs
 | cs,(off,n,x)::l=>
  match x.pv G e with
  | .agg v=>if v.length=n then (spliceP cs off v).bind fun cs=>fillP G e cs l else none
  | v=>if plainP v && n == 1 then (spliceP cs off [v]).bind fun cs=>fillP G e cs l else none
def partP (n:Option Nat) (cs:List PV) (off:Nat):Option PV:=
 match n with
 | some n=>some (.agg ((cs.take (off + n)).drop off))
 | none=>nthP cs off
mutual
def eqP:EqT→PV→PV→Option Bool
 | q,.lit a,.lit b=>eqv q a b
 | .iface,.lit .nilIface,.iface _ _=>some false
 | .iface,.iface _ _,.lit .nilIface=>some false
 | .ifaceN,.lit .nilIface,.iface _ _=>some false
 | .ifaceN,.iface _ _,.lit .nilIface=>some false
 | .ifaceT _,.lit .nilIface,.iface _ _=>some false
 | .ifaceT _,.iface _ _,.lit .nilIface=>some false
 | .ifaceT l,.iface t (.lit x),.iface u (.lit y)=>
  if t=u then
   match l.lookup t with
   | some q=>eqFlat q x y
   | none=>none
  else some false
 | .nilS,.lit (.slice none _ _),.sl _ _=>some false
 | .nilS,.sl _ _,.lit (.slice none _ _)=>some false
 | .nilS,.lit (.slice none _ _),.sz _ (_ + 1)=>some false
 | .nilS,.sz _ (_ + 1),.lit (.slice none _ _)=>some false
 | .nilS,.lit (.slice none _ _),.loc _ _ _ _=>some false
 | .nilS,.loc _ _ _ _,.lit (.slice none _ _)=>some false
 | .nilM,.lit (.map none),.map _=>some false
 | .nilM,.map _,.lit (.map none)=>some false
 | .nilF,.lit .nilFunc,.fn _ _ _=>some false
 | .nilF,.fn _ _ _,.lit .nilFunc=>some false
 | .strct fs,.agg x,.agg y=>eqPs fs x y
 | _,_,_=>none
def eqPs:List (Nat × Option Nat × EqT)→List PV→List PV→Option Bool
 | [],_,_=>some true
 | (off,n,t)::fs,x,y=>
  match partP n x off,partP n y off with
  | some a,some b=>
   match eqP t a b with
   | some true=>eqPs fs x y
   | some false=>some false
   | none=>none
  | _,_=>none
end
def boundP (G:PG) (e:List PV) (d:Nat) (y:Nat):Option Opd→Option Nat
 | none=>some d
 | some x=>match x.pv G e with | .lit (.int _ i)=>if 0≤i∧i≤y then some i.toNat else none | _=>none
def evsP (G:PG) (e:List PV):List Opd→List PV
 | []=>[]
 | x::l=>x.pv G e::evsP G e l
def pevP (G:PG) (e:List PV):POp→Option PV
 | .mov x=>some (x.pv G e)
 | .pick c a b=>match c.pv G e with | .lit (.bool true)=>some (a.pv G e) | .lit (.bool false)=>some (b.pv G e) | _=>none
 | .build zero parts=>if ltL 0 zero then (fillP G e (ofVs zero) parts).map .agg else none
 | .nilchk _ x=>match x.pv G e with | .ref cs=>some (.ref cs) | .ptr i o=>some (.ptr i o) | .fn f a b=>some (.fn f a b) | .iface t v=>some (.iface t v) | _=>none
 | .bin op x y=>match x.pv G e,y.pv G e with | .lit a,.lit b=>(bin op a b).map .lit | _,_=>none
 | .eqv neg t x y=>(eqP t (x.pv G e) (y.pv G e)).map fun b=>.lit (.bool (b != neg))
 | .un op x=>
  match op,x.pv G e with
  | .neg,.lit (.int k n)=>some (.lit (.int k (k.wrap (0 - n))))
  | .xor,.lit (.int k n)=>(bits .xor k (if k.signed then -1 else k.max) n).map .lit
  | .not,.lit (.bool b)=>some (.lit (.bool !b))
  | _,_=>none
 | .conv k x=>match x.pv G e with | .lit (.int _ n)=>some (.lit (.int k (k.wrap n))) | _=>none
 | .convStr x=>match x.pv G e with | .lit (.string s)=>some (.lit (.string s)) | _=>none
 | .mkI t x=>some (.iface t (x.pv G e))
 | .mkF fn a b=>match fn with | .func f=>some (.fn f (evsP G e a) (evsP G e b)) | _=>none
 | .faddr off x=>match x.pv G e with | .ptr i o=>some (.ptr i (o + off)) | .ref cs=>some (.ref (cs.drop off)) | _=>none
 | .field off n x=>match x.pv G e with | .agg cs=>partP n cs off | _=>none
 | .iaddrS esz x i=>
  match x.pv G e,i.pv G e with
  | .sl cs len,.lit (.int _ j)=>if 0≤j∧j < len then some (.ref (cs.drop (j.toNat * esz))) else none
  | .sz cs len,.lit (.int _ j)=>if 0≤j∧j < len then some (.ref (cs.drop (j.toNat * esz))) else none
  | .loc a off len _,.lit (.int _ j)=>if 0≤j∧j < len then some (.ptr a (off + j.toNat * esz)) else none
  | .sp cs len _,.lit (.int _ j)=>if 0≤j∧j < len then some (.ref (cs.drop (j.toNat * esz))) else none
  | _,_=>none
 | .iaddrA esz len x i=>
  match x.pv G e,i.pv G e with
  | .ptr a o,.lit (.int _ j)=>if 0≤j∧j < len then some (.ptr a (o + j.toNat * esz)) else none
  | .ref cs,.lit (.int _ j)=>if 0≤j∧j < len then some (.ref (cs.drop (j.toNat * esz))) else none
  | _,_=>none
 | .idxS x i=>
  match x.pv G e,i.pv G e with
  | .lit (.string s),.lit (.int _ j)=>if 0≤j then (s[j.toNat]?).map fun b=>.lit (.int .u8 b.toNat) else none
  | _,_=>none
 | .idxA esz len n x i=>
  match x.pv G e,i.pv G e with
  | .agg cs,.lit (.int _ j)=>if 0≤j∧j < len then partP n cs (j.toNat * esz) else none
  | _,_=>none
 | .slS x lo hi=>
  match x.pv G e with
  | .lit (.string s)=>(boundP G e s.size s.size hi).bind fun h=>(boundP G e 0 h lo).map fun l=>.lit (.string (s.extract l h))
  | _=>none
 | .ext x i=>match x.pv G e with | .tup vs=>nthP vs i | _=>none
 | .lenS x=>match x.pv G e with | .lit (.string s)=>some (.lit (.int .i64 s.size)) | _=>none
 | .lenL x=>match x.pv G e with | .sl _ n=>some (.lit (.int .i64 n)) | .sz _ n=>some (.lit (.int .i64 n)) | .loc _ _ n _=>some (.lit (.int .i64 n)) | .lit (.slice none n _)=>some (.lit (.int .i64 n)) | .sp _ n _=>some (.lit (.int .i64 n)) | _=>none
 | .lenC n=>some (.lit (.int .i64 n))
 | .max x y=>match x.pv G e,y.pv G e with | .lit (.int k a),.lit (.int _ b)=>some (.lit (.int k (if b > a then b else a))) | _,_=>none
 | .min x y=>match x.pv G e,y.pv G e with | .lit (.int k a),.lit (.int _ b)=>some (.lit (.int k (if b < a then b else a))) | _,_=>none
 | .tassert t ok x=>
  match x.pv G e,ok with
  | .iface u v,none=>if u=t then some v else none
  | .iface u v,some z=>if u=t then some (.tup [v,.lit (.bool true)]) else if lt 0 z then some (.tup [ofV z,.lit (.bool false)]) else none
  | .lit .nilIface,some z=>if lt 0 z then some (.tup [ofV z,.lit (.bool false)]) else none
  | _,_=>none
 | .cmpS x y=>match x.pv G e,y.pv G e with | .lit (.string a),.lit (.string b)=>some (.lit (.int .i64 (Extern.BytealgCompare.cmp a b))) | _,_=>none
 | .idxB x c=>match x.pv G e,c.pv G e with | .lit (.string s),.lit (.int .u8 b)=>some (.lit (.int .i64 (match (List.range s.size).find? fun i=>s[i]! == b.toNat.toUInt8 with | some i=>(i:Int) | none=>-1))) | _,_=>none
section
variable {I:Img} {η:Eta} {G:PG} {e:List PV} {env:List Value}
theorem nthP_eq (l:List PV):∀ n,nthP l n=l[n]?:=by
 induction l with
 | nil=>intro n;simp [nthP]
 | cons v l ih=>intro n;cases n <;> simp [nthP,ih]
theorem getP_eq (l:List PV):∀ n,getP l n=l.getD n .junk:=by
 induction l with
 | nil=>intro n;simp [getP]
 | cons v l ih=>intro n;cases n <;> simp [getP,ih]
theorem setP_eq (l:List PV):∀ n v,setP l n v=l.set n v:=by
 induction l with
 | nil=>intro n v;simp [setP]
 | cons w l ih=>intro n v;cases n <;> simp [setP,ih]
theorem rd_getP (h:RdL I η e env) (n:Nat):Rd I η (getP e n) (getV env n):=by
 rw [getP_eq,getV_eq]
 cases hk:e[n]? with
 | none=>simp [List.getD,hk,Rd]
 | some p=>
  obtain ⟨v,hv,hr⟩:=h.get hk
  simp [List.getD,hk,hv,hr]
def GRd (I:Img) (η:Eta) (G:PG):Prop:=∀ g cs,G g=some cs→Rd I η (.ref cs) (.pointer (some ⟨g,0,none⟩))
theorem rd_opd (hG:GRd I η G) (h:RdL I η e env):∀ x:Opd,Rd I η (x.pv G e) (x.ev env)
 | .t n=>rd_getP h n
 | .c v=>by
  simp only [Opd.pv,Opd.ev]
  split
  ·rename_i hv;exact rd_ofV v hv
  ·simp [Rd]
 | .g n=>by
  simp only [Opd.pv,Opd.ev]
  split
  ·rename_i cs hc;exact hG n cs hc
  ·simp [Rd]
end
end Go.Proofs.YtnpoloachkcadaaGreatDoor.Ai
namespace Go.Proofs.YtnpoloachkcadaaGreatDoor.Ai
open Go
set_option linter.unusedSimpArgs false
set_option linter.unusedVariables false
section
variable {I:Img} {η:Eta} {G:PG} {e:List PV} {env:List Value}
theorem partP_sim {n:Option Nat} {cs:List PV} {vs:List Value} (h:RdL I η cs vs) {off:Nat} {p:PV} (hp:partP n cs off=some p):∃ v,partV n vs off=some v∧Rd I η p v:=by
 cases n with
 | none=>
  simp only [partP,nthP_eq] at hp
  obtain ⟨v,hv,hr⟩:=h.get hp
  exact ⟨v,by simp [partV,nthV_eq,hv],hr⟩
 | some n=>
  simp only [partP,Option.some.injEq] at hp
  subst hp
  exact ⟨_,rfl,by simp only [Rd];exact ⟨_,rfl,(h.take _).drop _⟩⟩
theorem overP_sim:∀ {cs vs r:List PV} {ws xs:List Value},RdL I η cs ws→RdL I η vs xs→overP cs vs=some r→∃ s,overV ws xs=some s∧RdL I η r s
 | cs,[],r,ws,[],h1,h2,h=>by simp [overP] at h;subst h;exact ⟨ws,by cases ws <;> rfl,h1⟩
 | [],v::vs,r,ws,xs,h1,h2,h=>by simp [overP] at h
 | c::cs,v::vs,r,w::ws,x::xs,h1,h2,h=>by
  simp only [overP,Option.map_eq_some_iff] at h
  obtain ⟨r',h,rfl⟩:=h
  simp only [RdL] at h1 h2
  obtain ⟨s,hs,hr⟩:=overP_sim h1.2 h2.2 h
  exact ⟨x::s,by simp [overV,hs],by simp only [RdL];exact ⟨h2.1,hr⟩⟩
 | c::cs,v::vs,r,[],xs,h1,h2,h=>by simp [RdL] at h1
 | c::cs,v::vs,r,w::ws,[],h1,h2,h=>by simp [RdL] at h2
 | cs,[],r,ws,x::xs,h1,h2,h=>by simp [RdL] at h2
theorem spliceP_sim:∀ {cs:List PV} {n:Nat} {vs r:List PV} {ws xs:List Value},RdL I η cs ws→RdL I η vs xs→spliceP cs n vs=some r→∃ s,spliceV ws n xs=some s∧RdL I η r s
 | cs,0,vs,r,ws,xs,h1,h2,h=>by
  have h':overP cs vs=some r:=by cases cs <;> simpa [spliceP] using h
  obtain ⟨s,hs,hr⟩:=overP_sim h1 h2 h'
  exact ⟨s,by cases ws <;> simpa [spliceV] using hs,hr⟩
 | [],n + 1,vs,r,[],xs,h1,h2,h=>by
  simp only [spliceP] at h
  split at h
  ·rename_i he
   simp at h;subst h
   have hv:vs=[]:=by simpa using he
   subst hv
   cases xs with
   | nil=>exact ⟨[],by simp [spliceV],by simp [RdL]⟩
   | cons x xs=>simp [RdL] at h2
  ·simp at h
 | c::cs,n + 1,vs,r,w::ws,xs,h1,h2,h=>by
  simp only [spliceP,Option.map_eq_some_iff] at h
  obtain ⟨r',h,rfl⟩:=h
  simp only [RdL] at h1
  obtain ⟨s,hs,hr⟩:=spliceP_sim h1.2 h2 h
  exact ⟨w::s,by simp [spliceV,hs],by simp only [RdL];exact ⟨h1.1,hr⟩⟩
 | [],n + 1,vs,r,w::ws,xs,h1,h2,h=>by simp [RdL] at h1
 | c::cs,n + 1,vs,r,[],xs,h1,h2,h=>by simp [RdL] at h1
theorem plain_cells {p:PV} {v:Value} (hp:plainP p=true) (h:Rd I η p v):cellsOf v=[v]∧isCell v=true:=by
 cases p <;> simp only [plainP,Bool.false_eq_true] at hp <;> simp only [Rd] at h
 case lit u=>
  obtain ⟨rfl,_⟩:=h
  cases v <;> simp_all [cellsOf,isCell]
 case sl=>obtain ⟨i,off,cap,vs,ws,rest,rfl,_⟩:=h;exact ⟨rfl,rfl⟩
 case sz=>
  rcases h with ⟨_,rfl | ⟨_,_,_,rfl,_⟩⟩ | ⟨i,off,cap,vs,ws,rest,rfl,_⟩ <;> exact ⟨rfl,rfl⟩
 case ref=>obtain ⟨i,off,vs,ws,rest,rfl,_⟩:=h;exact ⟨rfl,rfl⟩
 case loc=>obtain ⟨a,_,rfl⟩:=h;exact ⟨rfl,rfl⟩
 case ptr=>obtain ⟨a,_,rfl⟩:=h;exact ⟨rfl,rfl⟩
 case map=>obtain ⟨a,_,rfl⟩:=h;exact ⟨rfl,rfl⟩
 case fn=>obtain ⟨x,y,rfl,_⟩:=h;exact ⟨rfl,rfl⟩
 case yld=>obtain ⟨a,_,rfl⟩:=h;exact ⟨rfl,rfl⟩
 case iface=>obtain ⟨x,rfl,_⟩:=h;exact ⟨rfl,rfl⟩
 case sp=>obtain ⟨i,off,vs,ws,rest,rfl,_⟩:=h;exact ⟨rfl,rfl⟩
theorem fillP_sim (hG:GRd I η G) (h:RdL I η e env):∀ {l:List (Nat × Nat × Opd)} {cs r:List PV} {ws:List Value},RdL I η cs ws→fillP G e cs l=some r→∃ s,fillV env ws l=some s∧RdL I η r s
 | [],cs,r,ws,h1,hf=>by simp [fillP] at hf;subst hf;exact ⟨ws,by simp [fillV],h1⟩
 | (off,n,x)::l,cs,r,ws,h1,hf=>by
  have hx:=rd_opd hG h x
  simp only [fillP] at hf
  simp only [fillV]
  generalize x.pv G e=X at hf hx
  generalize x.ev env=V at hx ⊢
  split at hf
  ·rename_i v
   simp only [Rd] at hx
   obtain ⟨w,rfl,hw⟩:=hx
   split at hf
   ·rename_i hl
    simp only [Option.bind_eq_some_iff] at hf
    obtain ⟨c2,hc2,hf⟩:=hf
    obtain ⟨s,hs,hr⟩:=spliceP_sim h1 hw hc2
    obtain ⟨s2,hs2,hr2⟩:=fillP_sim hG h hr hf
    refine ⟨s2,?_,hr2⟩
    have hl':w.length=n:=by rw [← hw.length];exact hl
    simp [show cellsOf (Value.agg ⟨w⟩)=w from rfl,hl',hs,hs2]
   ·simp at hf
  ·rename_i hna
   split at hf
   ·rename_i hc
    simp only [Bool.and_eq_true,beq_iff_eq] at hc
    obtain ⟨hc1,hc2⟩:=plain_cells hc.1 hx
    simp only [Option.bind_eq_some_iff] at hf
    obtain ⟨c2,hcc,hf⟩:=hf
    obtain ⟨s,hs,hr⟩:=spliceP_sim h1 (show RdL I η [X] [V] by simp only [RdL];exact ⟨hx,trivial⟩) hcc
    obtain ⟨s2,hs2,hr2⟩:=fillP_sim hG h hr hf
    refine ⟨s2,?_,hr2⟩
    simp [hc1,hc.2,hs,hs2]
   ·simp at hf
theorem boundP_sim (hG:GRd I η G) (h:RdL I η e env) {d y r:Nat} {x:Option Opd} (hb:boundP G e d y x=some r):bound env d y x=some r:=by
 cases x with
 | none=>simpa [boundP,bound] using hb
 | some x=>
  have hx:=rd_opd hG h x
  simp only [boundP] at hb
  simp only [bound]
  generalize x.pv G e=X at hb hx
  generalize x.ev env=V at hx ⊢
  split at hb
  ·simp only [Rd] at hx
   obtain ⟨rfl,_⟩:=hx
   exact hb
  ·simp at hb
theorem evsP_sim (hG:GRd I η G) (h:RdL I η e env):∀ l:List Opd,RdL I η (evsP G e l) (evs env l)
 | []=>by simp [evsP,evs,RdL]
 | x::l=>by simp only [evsP,evs,RdL];exact ⟨rd_opd hG h x,evsP_sim hG h l⟩
end
end Go.Proofs.YtnpoloachkcadaaGreatDoor.Ai
namespace Go.Proofs.YtnpoloachkcadaaGreatDoor.Ai
open Go
set_option linter.unusedSimpArgs false
set_option linter.unusedVariables false
section
variable {I:Img} {η:Eta} {G:PG} {e:List PV} {env:List Value}
mutual
theorem eqP_sim:∀ {t:EqT} {x y:PV} {v w:Value} {b:Bool},Rd I η x v→Rd I η y w→eqP t x y=some b→eqv t v w=some b:=by
 intro t x y v w b hx hy h
 unfold eqP at h
 split at h <;> (try (simp at h;done)) <;> simp only [Rd] at hx hy
 ·obtain ⟨rfl,_⟩:=hx;obtain ⟨rfl,_⟩:=hy;exact h
 ·obtain ⟨rfl,_⟩:=hx;obtain ⟨_,rfl,_⟩:=hy;simp at h;subst h;simp [eqv]
 ·obtain ⟨_,rfl,_⟩:=hx;obtain ⟨rfl,_⟩:=hy;simp at h;subst h;simp [eqv]
 ·obtain ⟨rfl,_⟩:=hx;obtain ⟨_,rfl,_⟩:=hy;simp at h;subst h;simp [eqv]
 ·obtain ⟨_,rfl,_⟩:=hx;obtain ⟨rfl,_⟩:=hy;simp at h;subst h;simp [eqv]
 ·obtain ⟨rfl,_⟩:=hx;obtain ⟨_,rfl,_⟩:=hy;simp at h;subst h;simp [eqv]
 ·obtain ⟨_,rfl,_⟩:=hx;obtain ⟨rfl,_⟩:=hy;simp at h;subst h;simp [eqv]
 ·obtain ⟨_,rfl,rfl,_⟩:=hx;obtain ⟨_,rfl,rfl,_⟩:=hy;simp only [eqv];exact h
 ·obtain ⟨rfl,_⟩:=hx;obtain ⟨_,_,_,_,_,_,rfl,_⟩:=hy;simp at h;subst h;simp [eqv]
 ·obtain ⟨_,_,_,_,_,_,rfl,_⟩:=hx;obtain ⟨rfl,_⟩:=hy;simp at h;subst h;simp [eqv]
 ·obtain ⟨rfl,_⟩:=hx;rcases hy with ⟨h0,_⟩ | ⟨_,_,_,_,_,_,rfl,_⟩
  ·simp at h0
  ·simp at h;subst h;simp [eqv]
 ·obtain ⟨rfl,_⟩:=hy;rcases hx with ⟨h0,_⟩ | ⟨_,_,_,_,_,_,rfl,_⟩
  ·simp at h0
  ·simp at h;subst h;simp [eqv]
 ·obtain ⟨rfl,_⟩:=hx;obtain ⟨_,_,rfl⟩:=hy;simp at h;subst h;simp [eqv]
 ·obtain ⟨_,_,rfl⟩:=hx;obtain ⟨rfl,_⟩:=hy;simp at h;subst h;simp [eqv]
 ·obtain ⟨rfl,_⟩:=hx;obtain ⟨_,_,rfl⟩:=hy;simp at h;subst h;simp [eqv]
 ·obtain ⟨_,_,rfl⟩:=hx;obtain ⟨rfl,_⟩:=hy;simp at h;subst h;simp [eqv]
 ·obtain ⟨rfl,_⟩:=hx;obtain ⟨_,_,rfl,_⟩:=hy;simp at h;subst h;simp [eqv]
 ·obtain ⟨_,_,rfl,_⟩:=hx;obtain ⟨rfl,_⟩:=hy;simp at h;subst h;simp [eqv]
 ·obtain ⟨_,rfl,h1⟩:=hx;obtain ⟨_,rfl,h2⟩:=hy;simp only [eqv];exact eqPs_sim h1 h2 h
theorem eqPs_sim:∀ {fs:List (Nat × Option Nat × EqT)} {x y:List PV} {v w:List Value} {b:Bool},RdL I η x v→RdL I η y w→eqPs fs x y=some b→eqvFs fs v w=some b:=by
 intro fs x y v w b hx hy h
 unfold eqPs at h
 split at h
 ·simp [eqvFs,← h]
 ·rename_i off n t fs
  split at h
  ·rename_i a c ha hc
   obtain ⟨a',ha',hra⟩:=partP_sim hx ha
   obtain ⟨c',hc',hrc⟩:=partP_sim hy hc
   simp only [eqvFs,ha',hc']
   split at h
   ·rename_i he
    rw [eqP_sim hra hrc he]
    exact eqPs_sim hx hy h
   ·rename_i he
    rw [eqP_sim hra hrc he]
    exact h
   ·simp at h
  ·simp at h
end
theorem rd_lit {u v:Value} (h:Rd I η (.lit u) v):v=u∧lt 0 u=true:=by simpa [Rd] using h
theorem rd_mk {u:Value} (h:lt 0 u=true):Rd I η (.lit u) u:=by simp [Rd,h]
theorem bits_lit {op:BinOp} {k:IntKind} {a b:Int} {r:Value} (h:bits op k a b=some r):lt 0 r=true:=by
 unfold bits at h
 split at h <;> simp at h <;> subst h <;> simp [lt]
theorem bin_lit {op:BinOp} {a b r:Value} (h:bin op a b=some r):lt 0 r=true:=by
 unfold bin at h
 split at h
 ·split at h
  ·unfold shiftInt at h
   split at h
   ·simp at h
   ·split at h <;> simp at h <;> subst h <;> simp [lt]
  ·split at h
   ·unfold binInt at h
    split at h
    all_goals first
     | (exact bits_lit h)
     | (split at h <;> simp at h <;> subst h <;> simp [lt];done)
     | (simp at h;subst h;simp [lt];done)
     | (simp at h;done)
   ·simp at h
 ·unfold binStr at h
  split at h
  all_goals first
   | (split at h <;> simp at h <;> subst h <;> simp [lt];done)
   | (simp at h;subst h;simp [lt];done)
   | (simp at h;done)
 ·simp at h
end
end Go.Proofs.YtnpoloachkcadaaGreatDoor.Ai
namespace Go.Proofs.YtnpoloachkcadaaGreatDoor.Ai
open Go
set_option linter.unusedSimpArgs false
set_option linter.unusedVariables false
section
variable {I:Img} {η:Eta} {G:PG} {e:List PV} {env:List Value}
theorem pevP_sim (hG:GRd I η G) (h:RdL I η e env) {q:POp} {p:PV} (hp:pevP G e q=some p):∃ v,evP env q=some v∧Rd I η p v:=by
 have ho:=rd_opd hG h
 cases q with
 | mov x=>simp only [pevP,Option.some.injEq] at hp;subst hp;exact ⟨_,rfl,ho x⟩
 | pick c a b=>
  have hc:=ho c
  simp only [pevP] at hp
  simp only [evP]
  generalize c.pv G e=C at hp hc
  generalize c.ev env=V at hc ⊢
  split at hp
  ·obtain ⟨rfl,_⟩:=rd_lit hc;simp at hp;subst hp;exact ⟨_,rfl,ho a⟩
  ·obtain ⟨rfl,_⟩:=rd_lit hc;simp at hp;subst hp;exact ⟨_,rfl,ho b⟩
  ·simp at hp
 | build zero parts=>
  simp only [pevP] at hp
  split at hp
  ·rename_i hz
   simp only [Option.map_eq_some_iff] at hp
   obtain ⟨cs,hcs,rfl⟩:=hp
   obtain ⟨s,hs,hr⟩:=fillP_sim hG h (rdL_ofVs zero hz) hcs
   exact ⟨.agg ⟨s⟩,by simp [evP,hs],by simp only [Rd];exact ⟨s,rfl,hr⟩⟩
  ·simp at hp
 | nilchk mm x=>
  have hx:=ho x
  simp only [pevP] at hp
  simp only [evP]
  generalize x.pv G e=X at hp hx
  generalize x.ev env=V at hx ⊢
  split at hp <;> (try (simp at hp;done)) <;> simp at hp <;> subst hp
  ·have hx':=hx;simp only [Rd] at hx';obtain ⟨i,off,vs,ws,rest,rfl,_⟩:=hx';exact ⟨_,rfl,hx⟩
  ·have hx':=hx;simp only [Rd] at hx';obtain ⟨_,_,rfl⟩:=hx';exact ⟨_,rfl,hx⟩
  ·have hx':=hx;simp only [Rd] at hx';obtain ⟨a,b,rfl,_⟩:=hx';exact ⟨_,rfl,hx⟩
  ·have hx':=hx;simp only [Rd] at hx';obtain ⟨a,rfl,_⟩:=hx';exact ⟨_,rfl,hx⟩
 | bin op x y=>
  have hx:=ho x;have hy:=ho y
  simp only [pevP] at hp
  simp only [evP]
  generalize x.pv G e=X at hp hx
  generalize x.ev env=V at hx ⊢
  generalize y.pv G e=Y at hp hy
  generalize y.ev env=W at hy ⊢
  split at hp
  ·obtain ⟨rfl,_⟩:=rd_lit hx;obtain ⟨rfl,_⟩:=rd_lit hy
   simp only [Option.map_eq_some_iff] at hp
   obtain ⟨r,hr,rfl⟩:=hp
   exact ⟨r,hr,rd_mk (bin_lit hr)⟩
  ·simp at hp
 | eqv neg t x y=>
  simp only [pevP,Option.map_eq_some_iff] at hp
  obtain ⟨b,hb,rfl⟩:=hp
  exact ⟨_,by simp only [evP,eqP_sim (ho x) (ho y) hb];rfl,rd_mk (by simp [lt])⟩
 | un op x=>
  have hx:=ho x
  simp only [pevP] at hp
  simp only [evP]
  generalize x.pv G e=X at hp hx
  generalize x.ev env=V at hx ⊢
  split at hp
  ·obtain ⟨rfl,_⟩:=rd_lit hx;simp only [Option.some.injEq] at hp;subst hp;exact ⟨_,rfl,rd_mk (by simp [lt])⟩
  ·obtain ⟨rfl,_⟩:=rd_lit hx
   simp only [Option.map_eq_some_iff] at hp
   obtain ⟨r,hr,rfl⟩:=hp
   exact ⟨r,hr,rd_mk (bits_lit hr)⟩
  ·obtain ⟨rfl,_⟩:=rd_lit hx;simp at hp;subst hp;exact ⟨_,rfl,rd_mk (by simp [lt])⟩
  ·simp at hp
 | conv k x=>
  have hx:=ho x
  simp only [pevP] at hp
  simp only [evP]
  generalize x.pv G e=X at hp hx
  generalize x.ev env=V at hx ⊢
  split at hp
  ·obtain ⟨rfl,_⟩:=rd_lit hx;simp at hp;subst hp;exact ⟨_,rfl,rd_mk (by simp [lt])⟩
  ·simp at hp
 | convStr x=>
  have hx:=ho x
  simp only [pevP] at hp
  simp only [evP]
  generalize x.pv G e=X at hp hx
  generalize x.ev env=V at hx ⊢
  split at hp
  ·obtain ⟨rfl,_⟩:=rd_lit hx;simp at hp;subst hp;exact ⟨_,rfl,rd_mk (by simp [lt])⟩
  ·simp at hp
 | mkI t x=>
  simp only [pevP,Option.some.injEq] at hp
  subst hp
  refine ⟨.iface t (x.ev env),rfl,?_⟩
  unfold Rd
  exact ⟨_,rfl,ho x⟩
 | mkF fn a b=>
  simp only [pevP] at hp
  split at hp
  ·rename_i f
   simp at hp;subst hp
   refine ⟨.func (.func f) ⟨evs env a⟩ ⟨evs env b⟩,rfl,?_⟩
   unfold Rd
   exact ⟨_,_,rfl,evsP_sim hG h a,evsP_sim hG h b⟩
  ·simp at hp
 | faddr off x=>
  have hx:=ho x
  simp only [pevP] at hp
  simp only [evP]
  generalize x.pv G e=X at hp hx
  generalize x.ev env=V at hx ⊢
  split at hp
  ·simp only [Rd] at hx;obtain ⟨a,ha,rfl⟩:=hx;simp at hp;subst hp;exact ⟨_,rfl,by simp [Rd,ha]⟩
  ·simp only [Rd] at hx
   obtain ⟨i,o,vs,ws,rest,rfl,h1,h2,h3⟩:=hx
   simp at hp;subst hp
   refine ⟨_,rfl,?_⟩
   simp only [Rd]
   refine ⟨i,o + off,vs,ws.drop off,rest.drop (off - ws.length),rfl,h1,?_,h3.drop off⟩
   rw [← List.drop_drop,h2,List.drop_append]
  ·simp at hp
 | field off n x=>
  have hx:=ho x
  simp only [pevP] at hp
  simp only [evP]
  generalize x.pv G e=X at hp hx
  generalize x.ev env=V at hx ⊢
  split at hp
  ·simp only [Rd] at hx;obtain ⟨w,rfl,hw⟩:=hx
   obtain ⟨v,hv,hr⟩:=partP_sim hw hp
   exact ⟨v,hv,hr⟩
  ·simp at hp
 | iaddrS esz x i=>
  have hx:=ho x;have hy:=ho i
  simp only [pevP] at hp
  simp only [evP]
  generalize x.pv G e=X at hp hx
  generalize x.ev env=V at hx ⊢
  generalize i.pv G e=Y at hp hy
  generalize i.ev env=W at hy ⊢
  split at hp
  ·rename_i cs len k j
   obtain ⟨rfl,_⟩:=rd_lit hy
   simp only [Rd] at hx
   obtain ⟨b,o,cap,vs,ws,rest,rfl,h0,h1,h2,h3⟩:=hx
   split at hp
   ·rename_i hj
    simp at hp;subst hp
    refine ⟨_,by simp only [];rw [if_pos hj],?_⟩
    simp only [Rd]
    refine ⟨b,o + j.toNat * esz,vs,ws.drop (j.toNat * esz),rest.drop (j.toNat * esz - ws.length),rfl,h1,?_,h3.drop _⟩
    rw [← List.drop_drop,h2,List.drop_append]
   ·simp at hp
  ·rename_i cs len k j
   obtain ⟨rfl,_⟩:=rd_lit hy
   simp only [Rd] at hx
   split at hp
   ·rename_i hj
    rcases hx with ⟨h00,_⟩ | ⟨b,o,cap,vs,ws,rest,rfl,h0,h1,h2,h3⟩
    ·omega
    ·simp at hp;subst hp
     refine ⟨_,by simp only [];rw [if_pos hj],?_⟩
     simp only [Rd]
     refine ⟨b,o + j.toNat * esz,vs,ws.drop (j.toNat * esz),rest.drop (j.toNat * esz - ws.length),rfl,h1,?_,h3.drop _⟩
     rw [← List.drop_drop,h2,List.drop_append]
   ·simp at hp
  ·rename_i a off len cap k j
   obtain ⟨rfl,_⟩:=rd_lit hy
   simp only [Rd] at hx
   obtain ⟨b,hb,rfl⟩:=hx
   split at hp
   ·rename_i hj
    simp at hp;subst hp
    exact ⟨_,by simp only [];rw [if_pos hj],by simp [Rd,hb]⟩
   ·simp at hp
  ·rename_i cs len cap k j
   obtain ⟨rfl,_⟩:=rd_lit hy
   simp only [Rd] at hx
   obtain ⟨b,o,vs,ws,rest,rfl,h0,h1,h2,_,h3⟩:=hx
   split at hp
   ·rename_i hj
    simp at hp;subst hp
    refine ⟨_,by simp only [];rw [if_pos hj],?_⟩
    simp only [Rd]
    refine ⟨b,o + j.toNat * esz,vs,ws.drop (j.toNat * esz),rest.drop (j.toNat * esz - ws.length),rfl,h1,?_,h3.drop _⟩
    rw [← List.drop_drop,h2,List.drop_append]
   ·simp at hp
  ·simp at hp
 | iaddrA esz len x i=>
  have hx:=ho x;have hy:=ho i
  simp only [pevP] at hp
  simp only [evP]
  generalize x.pv G e=X at hp hx
  generalize x.ev env=V at hx ⊢
  generalize i.pv G e=Y at hp hy
  generalize i.ev env=W at hy ⊢
  split at hp
  ·rename_i a o k j
   obtain ⟨rfl,_⟩:=rd_lit hy
   simp only [Rd] at hx
   obtain ⟨b,hb,rfl⟩:=hx
   split at hp
   ·rename_i hj
    simp at hp;subst hp
    exact ⟨_,by simp only [];rw [if_pos hj],by simp [Rd,hb]⟩
   ·simp at hp
  ·rename_i cs k j
   obtain ⟨rfl,_⟩:=rd_lit hy
   simp only [Rd] at hx
   obtain ⟨b,o,vs,ws,rest,rfl,h1,h2,h3⟩:=hx
   split at hp
   ·rename_i hj
    simp at hp;subst hp
    refine ⟨_,by simp only [];rw [if_pos hj],?_⟩
    simp only [Rd]
    refine ⟨b,o + j.toNat * esz,vs,ws.drop (j.toNat * esz),rest.drop (j.toNat * esz - ws.length),rfl,h1,?_,h3.drop _⟩
    rw [← List.drop_drop,h2,List.drop_append]
   ·simp at hp
  ·simp at hp
 | idxS x i=>
  have hx:=ho x;have hy:=ho i
  simp only [pevP] at hp
  simp only [evP]
  generalize x.pv G e=X at hp hx
  generalize x.ev env=V at hx ⊢
  generalize i.pv G e=Y at hp hy
  generalize i.ev env=W at hy ⊢
  split at hp
  ·rename_i s k j
   obtain ⟨rfl,_⟩:=rd_lit hx;obtain ⟨rfl,_⟩:=rd_lit hy
   split at hp
   ·rename_i hj
    simp only [Option.map_eq_some_iff] at hp
    obtain ⟨b,hb,rfl⟩:=hp
    exact ⟨.int .u8 b.toNat,by simp [hj,hb],rd_mk (by simp [lt])⟩
   ·simp at hp
  ·simp at hp
 | idxA esz len n x i=>
  have hx:=ho x;have hy:=ho i
  simp only [pevP] at hp
  simp only [evP]
  generalize x.pv G e=X at hp hx
  generalize x.ev env=V at hx ⊢
  generalize i.pv G e=Y at hp hy
  generalize i.ev env=W at hy ⊢
  split at hp
  ·rename_i cs k j
   obtain ⟨rfl,_⟩:=rd_lit hy
   simp only [Rd] at hx
   obtain ⟨w,rfl,hw⟩:=hx
   split at hp
   ·rename_i hj
    obtain ⟨v,hv,hr⟩:=partP_sim hw hp
    exact ⟨v,by simp only [];rw [if_pos hj];exact hv,hr⟩
   ·simp at hp
  ·simp at hp
 | slS x lo hi=>
  have hx:=ho x
  simp only [pevP] at hp
  simp only [evP]
  generalize x.pv G e=X at hp hx
  generalize x.ev env=V at hx ⊢
  split at hp
  ·rename_i s
   obtain ⟨rfl,_⟩:=rd_lit hx
   simp only [Option.bind_eq_some_iff,Option.map_eq_some_iff] at hp
   obtain ⟨a,ha,b,hb,rfl⟩:=hp
   exact ⟨_,by simp [boundP_sim hG h ha,boundP_sim hG h hb],rd_mk (by simp [lt])⟩
  ·simp at hp
 | ext x i=>
  have hx:=ho x
  simp only [pevP] at hp
  simp only [evP]
  generalize x.pv G e=X at hp hx
  generalize x.ev env=V at hx ⊢
  split at hp
  ·simp only [Rd] at hx;obtain ⟨w,rfl,hw⟩:=hx
   rw [nthP_eq] at hp
   obtain ⟨v,hv,hr⟩:=hw.get hp
   exact ⟨v,by simp [nthV_eq,hv],hr⟩
  ·simp at hp
 | lenS x=>
  have hx:=ho x
  simp only [pevP] at hp
  simp only [evP]
  generalize x.pv G e=X at hp hx
  generalize x.ev env=V at hx ⊢
  split at hp
  ·obtain ⟨rfl,_⟩:=rd_lit hx;simp at hp;subst hp;exact ⟨_,rfl,rd_mk (by simp [lt])⟩
  ·simp at hp
 | lenL x=>
  have hx:=ho x
  simp only [pevP] at hp
  simp only [evP]
  generalize x.pv G e=X at hp hx
  generalize x.ev env=V at hx ⊢
  split at hp
  ·simp only [Rd] at hx;obtain ⟨_,_,_,_,_,_,rfl,_⟩:=hx;simp at hp;subst hp;exact ⟨_,rfl,rd_mk (by simp [lt])⟩
  ·simp only [Rd] at hx
   simp at hp;subst hp
   rcases hx with ⟨rfl,rfl | ⟨_,_,_,rfl,_⟩⟩ | ⟨_,_,_,_,_,_,rfl,_⟩ <;> exact ⟨_,rfl,rd_mk (by simp [lt])⟩
  ·simp only [Rd] at hx;obtain ⟨_,_,rfl⟩:=hx;simp at hp;subst hp;exact ⟨_,rfl,rd_mk (by simp [lt])⟩
  ·obtain ⟨rfl,_⟩:=rd_lit hx;simp at hp;subst hp;exact ⟨_,rfl,rd_mk (by simp [lt])⟩
  ·simp only [Rd] at hx;obtain ⟨_,_,_,_,_,rfl,_⟩:=hx;simp at hp;subst hp;exact ⟨_,rfl,rd_mk (by simp [lt])⟩
  ·simp at hp
 | lenC n=>simp only [pevP,Option.some.injEq] at hp;subst hp;exact ⟨_,rfl,rd_mk (by simp [lt])⟩
 | max x y=>
  have hx:=ho x;have hy:=ho y
  simp only [pevP] at hp
  simp only [evP]
  generalize x.pv G e=X at hp hx
  generalize x.ev env=V at hx ⊢
  generalize y.pv G e=Y at hp hy
  generalize y.ev env=W at hy ⊢
  split at hp
  ·obtain ⟨rfl,_⟩:=rd_lit hx;obtain ⟨rfl,_⟩:=rd_lit hy;simp at hp;subst hp;exact ⟨_,rfl,rd_mk (by simp [lt])⟩
  ·simp at hp
 | min x y=>
  have hx:=ho x;have hy:=ho y
  simp only [pevP] at hp
  simp only [evP]
  generalize x.pv G e=X at hp hx
  generalize x.ev env=V at hx ⊢
  generalize y.pv G e=Y at hp hy
  generalize y.ev env=W at hy ⊢
  split at hp
  ·obtain ⟨rfl,_⟩:=rd_lit hx;obtain ⟨rfl,_⟩:=rd_lit hy;simp at hp;subst hp;exact ⟨_,rfl,rd_mk (by simp [lt])⟩
  ·simp at hp
 | tassert t ok x=>
  have hx:=ho x
  simp only [pevP] at hp
  simp only [evP]
  generalize x.pv G e=X at hp hx
  generalize x.ev env=V at hx ⊢
  split at hp
  ·simp only [Rd] at hx;obtain ⟨w,rfl,hw⟩:=hx
   split at hp
   ·rename_i hu;simp at hp;subst hp;exact ⟨w,by simp [hu],hw⟩
   ·simp at hp
  ·rename_i u v z
   simp only [Rd] at hx;obtain ⟨w,rfl,hw⟩:=hx
   split at hp
   ·rename_i hu;simp at hp;subst hp
    exact ⟨_,by simp only [];rw [if_pos hu],by simp only [Rd];exact ⟨_,rfl,by simp only [RdL];exact ⟨hw,rd_mk (by simp [lt]),trivial⟩⟩⟩
   ·rename_i hu
    split at hp
    ·rename_i hz;simp at hp;subst hp
     exact ⟨_,by simp only [];rw [if_neg hu],by simp only [Rd];exact ⟨_,rfl,by simp only [RdL];exact ⟨rd_ofV z hz,rd_mk (by simp [lt]),trivial⟩⟩⟩
    ·simp at hp
  ·rename_i z
   obtain ⟨rfl,_⟩:=rd_lit hx
   split at hp
   ·rename_i hz;simp at hp;subst hp
    exact ⟨_,rfl,by simp only [Rd];exact ⟨_,rfl,by simp only [RdL];exact ⟨rd_ofV z hz,rd_mk (by simp [lt]),trivial⟩⟩⟩
   ·simp at hp
  ·simp at hp
 | cmpS x y=>
  have hx:=ho x;have hy:=ho y
  simp only [pevP] at hp
  simp only [evP]
  generalize x.pv G e=X at hp hx
  generalize x.ev env=V at hx ⊢
  generalize y.pv G e=Y at hp hy
  generalize y.ev env=W at hy ⊢
  split at hp
  ·obtain ⟨rfl,_⟩:=rd_lit hx;obtain ⟨rfl,_⟩:=rd_lit hy;simp at hp;subst hp;exact ⟨_,rfl,rd_mk (by simp [lt])⟩
  ·simp at hp
 | idxB x y=>
  have hx:=ho x;have hy:=ho y
  simp only [pevP] at hp
  simp only [evP]
  generalize x.pv G e=X at hp hx
  generalize x.ev env=V at hx ⊢
  generalize y.pv G e=Y at hp hy
  generalize y.ev env=W at hy ⊢
  split at hp
  ·obtain ⟨rfl,_⟩:=rd_lit hx;obtain ⟨rfl,_⟩:=rd_lit hy
   simp only [Option.some.injEq] at hp
   subst hp;exact ⟨_,rfl,rd_mk (by simp [lt])⟩
  ·simp at hp
end
end Go.Proofs.YtnpoloachkcadaaGreatDoor.Ai
namespace Go.Proofs.YtnpoloachkcadaaGreatDoor.Ai
open Go
set_option linter.unusedSimpArgs false
set_option linter.unusedVariables false
inductive PObj where
 | cells (cs:List PV) (ty:TypeId) (esz:Nat) (exact retired:Bool) (al:List Nat)
 | map (es:List (PV × PV × Nat)) (clock:Nat)
 | deferred (taken:Bool)
 | loop (st:LoopState) (pend:Option IExit) (tmps:List PV) (params:List Nat) (as bo:ICode)
structure PW where
 next:Nat
 heap:List (Nat × PObj)
def look:List (Nat × PObj)→Nat→Option PObj
 | [],_=>none
 | (j,o)::l,i=>if i=j then some o else look l i
def PW.cs? (π:PW) (i:Nat):Option (List PV):=match look π.heap i with | some (.cells cs _ _ _ _ _)=>some cs | _=>none
def PW.exactAt (π:PW) (i:Nat):Bool:=match look π.heap i with | some (.cells _ _ _ ex _ _)=>ex | _=>false
def EntRd (I:Img) (η:Eta):List (PV × PV × Nat)→List (Value × Value × Nat)→Prop
 | [],[]=>True
 | (p,q,c)::l,(v,w,d)::m=>Rd I η p v∧Rd I η q w∧c=d∧EntRd I η l m
 | _,_=>False
def ORd (I:Img) (η:Eta):PObj→Blk→Prop
 | .cells cs ty esz ex ret al,.cells b=>RdL I η cs b.cs∧b.ty=ty∧b.esz=esz∧b.exact=ex∧b.retired=ret∧b.ro=false∧b.frozen=false
 | .map es cl,.map fs c=>EntRd I η es fs∧c=cl
 | .deferred t,.deferred u=>u=t
 | .loop st pd t ps a c,.loop r=>r.state=st∧r.pending=pd∧RdL I η t r.tmps∧r.params=ps∧r.assign=a∧r.body=c
 | _,_=>False
structure SRel (F:Nat→Prop) (I:Img) (η:Eta) (π:PW) (σ:AW):Prop where
 hn:∀ i b,σ.heap.get i=some b→i < σ.next
 fn:∀ i,F i→i < σ.next
 fo:∀ j o a,look π.heap j=some o→η j=some a→¬ F a
 img:∀ i vs,I i=some vs→i < σ.next∧∃ b,σ.heap.get i=some (.cells b)∧b.cs=vs∧b.retired=false∧(I.x i→b.exact=true)
 fresh:∀ j a,η j=some a→j < π.next
 obj:∀ j o,look π.heap j=some o→∃ a b,η j=some a∧a < σ.next∧σ.heap.get a=some b∧ORd I η o b
 inj:∀ j k oj ok a,look π.heap j=some oj→look π.heap k=some ok→η j=some a→η k=some a→j=k
 sep:∀ j o a,look π.heap j=some o→η j=some a→I a=none
 al:∀ j cs ty esz ex ret al a b,look π.heap j=some (.cells cs ty esz ex ret al)→η j=some a→σ.heap.get a=some (.cells b)→∀ i∈b.al,i < σ.next∧I i=none∧(F i→σ.heap.get i=none)∧∀ k o,look π.heap k=some o→η k=some i→k∈al
def findP (kt:EqT) (k:PV):List (PV × PV × Nat)→Nat→Option (Option (Nat × PV))
 | [],_=>some none
 | (k',v,_)::l,i=>
  match eqP kt k k' with
  | some true=>some (some (i,v))
  | some false=>findP kt k l (i + 1)
  | none=>none
def keyP:EqT→PV→Bool
 | .strct fs,.agg x=>fs.all fun f=>(partP f.2.1 x f.1).isSome
 | .strct _,_=>false
 | _,_=>true
def cutP (n:Nat) (l:List PV):Option (List PV):=if n≤l.length then some (l.take n) else none
def bytesP:List PV→Option (List UInt8)
 | []=>some []
 | .lit v::l=>match byteOf v,bytesP l with | some b,some r=>some (b::r) | _,_=>none
 | _::_=>none
def pevR (G:PG) (e:List PV) (π:PW):ROp→Option PV
 | .ld x=>
  match x.pv G e with
  | .ref (c::_)=>some c
  | .ptr i o=>(π.cs? i).bind fun cs=>nthP cs o
  | _=>none
 | .ldn n x=>
  match x.pv G e with
  | .ref cs=>(cutP n cs).map .agg
  | .ptr i o=>(π.cs? i).bind fun cs=>(cutP n (cs.drop o)).map .agg
  | _=>none
 | .lenM x=>
  match x.pv G e with
  | .lit (.map none)=>some (.lit (.int .i64 0))
  | .map i=>match look π.heap i with | some (.map es _)=>some (.lit (.int .i64 es.length)) | _=>none
  | _=>none
 | .peq neg x y=>
  match x.pv G e,y.pv G e with
  | .lit (.pointer none),.lit (.pointer none)=>some (.lit (.bool (true != neg)))
  | .lit (.pointer none),.ptr _ _ | .lit (.pointer none),.ref _ | .ptr _ _,.lit (.pointer none) | .ref _,.lit (.pointer none)=>some (.lit (.bool (false != neg)))
  | .ptr i a,.ptr j b=>if i=j then some (.lit (.bool ((a == b) != neg))) else none
  | _,_=>none
 | .slV esz x lo hi mx=>
  match x.pv G e with
  | .lit (.slice none n c)=>
   if n≤c then (boundP G e c c mx).bind fun m=>(boundP G e n m hi).bind fun h=>(boundP G e 0 h lo).map fun l=>.lit (.slice none (h - l) (m - l)) else none
  | .sl cs n=>
   if mx.isNone then (boundP G e n n hi).bind fun h=>(boundP G e 0 h lo).bind fun l=>if l=0∨l < n then some (.sl (cs.drop (l * esz)) (h - l)) else none else none
  | .sz cs n=>
   if mx.isNone then (boundP G e n n hi).bind fun h=>(boundP G e 0 h lo).bind fun l=>if l=0∨l < n then some (.sz (cs.drop (l * esz)) (h - l)) else none else none
  | .loc i off n c=>
   if n≤c then
    (boundP G e c c mx).bind fun m=>(boundP G e n m hi).bind fun h=>(boundP G e 0 h lo).bind fun l=>
     if (mx.isNone && (l == 0 || Nat.blt l c)) || π.exactAt i then some (.loc i (if m=l then off else off + l * esz) (h - l) (m - l)) else none
   else none
  | .sp cs n m=>if lo.isNone && mx.isNone then (boundP G e n m hi).map fun h=>.sp cs h m else none
  | _=>none
 | .slA esz len x lo hi=>
  match x.pv G e with
  | .ptr i o=>(boundP G e len len hi).bind fun h=>(boundP G e 0 h lo).bind fun l=>
   if π.exactAt i then some (.loc i (if len=l then o else o + l * esz) (h - l) (len - l)) else none
  | _=>none
 | .cap x=>
  match x.pv G e with
  | .lit (.slice none _ c)=>some (.lit (.int .i64 c))
  | .loc i _ _ c=>if π.exactAt i then some (.lit (.int .i64 c)) else none
  | .sp _ _ m=>some (.lit (.int .i64 m))
  | _=>none
 | .b2s x=>
  match x.pv G e with
  | .lit (.slice none _ _)=>some (.lit (.string .empty))
  | .sl cs n=>(cutP n cs).bind fun l=>(bytesP l).map fun b=>.lit (.string ⟨⟨b⟩⟩)
  | .sz cs n=>(cutP n cs).bind fun l=>(bytesP l).map fun b=>.lit (.string ⟨⟨b⟩⟩)
  | .loc i off n _=>(π.cs? i).bind fun cs=>(cutP n (cs.drop off)).bind fun l=>(bytesP l).map fun b=>.lit (.string ⟨⟨b⟩⟩)
  | _=>none
 | .lookup kt zero ok x k=>
  let es:=match x.pv G e with
   | .lit (.map none)=>some []
   | .map i=>match look π.heap i with | some (.map es _)=>some es | _=>none
   | _=>none
  match es with
  | some es=>
   if keyP kt (k.pv G e) && lt 0 zero then
    match findP kt (k.pv G e) es 0 with
    | some (some (_,v))=>some (if ok then .tup [v,.lit (.bool true)] else v)
    | some none=>some (if ok then .tup [ofV zero,.lit (.bool false)] else ofV zero)
    | none=>none
   else none
  | none=>none
 | .p2u x=>
  match x.pv G e with
  | .lit (.pointer none)=>some (.lit (.pointer none))
  | .ptr i o=>(π.cs? i).bind fun cs=>if o < cs.length then some (.ptr i o) else none
  | _=>none
 | .u2p t n x=>
  match x.pv G e with
  | .lit (.pointer none)=>some (.lit (.pointer none))
  | .ptr i o=>match look π.heap i with | some (.cells cs ty _ ex _ _)=>if ty=t∧ex=true∧cs.length=n∧o=0 then some (.ptr i o) else none | _=>none
  | _=>none
section
variable {F:Nat→Prop} {I:Img} {η:Eta} {G:PG} {e:List PV} {env:List Value} {π:PW} {σ:AW}
theorem SRel.cells (h:SRel F I η π σ) {i a:Nat} {cs:List PV} (ha:η i=some a) (hi:π.cs? i=some cs):∃ b,σ.cells? a=some b∧RdL I η cs b.cs:=by
 unfold PW.cs? at hi
 split at hi
 ·rename_i cs' ty esz ex ret al hl
  simp at hi;subst hi
  obtain ⟨a',b,ha',_,hb,ho⟩:=h.obj i _ hl
  rw [ha] at ha';cases ha'
  cases b <;> simp only [ORd] at ho
  exact ⟨_,cells?_some.2 hb,ho.1⟩
 ·simp at hi
theorem SRel.image (h:SRel F I η π σ) {i:Nat} {vs:List Value} (hi:I i=some vs):∃ b,σ.cells? i=some b∧b.cs=vs:=by
 obtain ⟨_,b,hb,hc,_⟩:=h.img i vs hi
 exact ⟨b,cells?_some.2 hb,hc⟩
theorem SRel.exact (h:SRel F I η π σ) {i a:Nat} (ha:η i=some a) (hi:π.exactAt i=true):σ.exactAt a=true∧∃ b,σ.cells? a=some b∧b.exact=true:=by
 unfold PW.exactAt at hi
 split at hi
 ·rename_i cs ty esz ex ret al hl
  subst hi
  obtain ⟨a',b,ha',_,hb,ho⟩:=h.obj i _ hl
  rw [ha] at ha';cases ha'
  cases b <;> simp only [ORd] at ho
  rename_i b
  have hc:=cells?_some.2 hb
  exact ⟨by simp [AW.exactAt,hc,ho.2.2.2.1],b,hc,ho.2.2.2.1⟩
 ·simp at hi
theorem bound_more {d y y' r:Nat} {x:Option Opd} (h:bound env d y x=some r) (hy:y≤y'):bound env d y' x=some r:=by
 cases x with
 | none=>exact h
 | some x=>
  simp only [bound] at h ⊢
  split at h
  ·split at h
   ·rename_i hc;rw [if_pos (by omega)];exact h
   ·simp at h
  ·simp at h
theorem bound_le {d y r:Nat} {x:Option Opd} (h:bound env d y x=some r) (hd:d≤y):r≤y:=by
 cases x with
 | none=>simp [bound] at h;omega
 | some x=>
  simp only [bound] at h
  split at h
  ·split at h
   ·simp at h;omega
   ·simp at h
  ·simp at h
theorem bytesP_sim:∀ {l:List PV} {vs:List Value} {b:List UInt8},RdL I η l vs→bytesP l=some b→bytesOf vs=some b
 | [],[],b,_,h=>by simpa [bytesP,bytesOf] using h
 | .lit u::l,v::vs,b,hr,h=>by
  simp only [RdL] at hr
  obtain ⟨rfl,_⟩:=rd_lit hr.1
  simp only [bytesP] at h
  split at h
  ·rename_i c r hc hr2
   simp at h;subst h
   simp [bytesOf,hc,bytesP_sim hr.2 hr2]
  ·simp at h
 | [],_::_,b,hr,h=>by simp [RdL] at hr
 | _::_,[],b,hr,h=>by simp [RdL] at hr
 | .junk::l,v::vs,b,hr,h=>by simp [bytesP] at h
 | .sl _ _::l,v::vs,b,hr,h=>by simp [bytesP] at h
 | .sz _ _::l,v::vs,b,hr,h=>by simp [bytesP] at h
 | .ref _::l,v::vs,b,hr,h=>by simp [bytesP] at h
 | .loc _ _ _ _::l,v::vs,b,hr,h=>by simp [bytesP] at h
 | .ptr _ _::l,v::vs,b,hr,h=>by simp [bytesP] at h
 | .map _::l,v::vs,b,hr,h=>by simp [bytesP] at h
 | .fn _ _ _::l,v::vs,b,hr,h=>by simp [bytesP] at h
 | .yld _::l,v::vs,b,hr,h=>by simp [bytesP] at h
 | .iface _ _::l,v::vs,b,hr,h=>by simp [bytesP] at h
 | .agg _::l,v::vs,b,hr,h=>by simp [bytesP] at h
 | .tup _::l,v::vs,b,hr,h=>by simp [bytesP] at h
 | .sp _ _ _::l,v::vs,b,hr,h=>by simp [bytesP] at h
theorem keyP_sim {kt:EqT} {p:PV} {v:Value} (h:Rd I η p v) (hk:keyP kt p=true):keyOK kt v=true:=by
 unfold keyP at hk
 split at hk
 ·rename_i fs x
  simp only [Rd] at h
  obtain ⟨w,rfl,hw⟩:=h
  simp only [keyOK,List.all_eq_true] at hk ⊢
  intro f hf
  obtain ⟨a,ha⟩:=Option.isSome_iff_exists.1 (hk f hf)
  obtain ⟨b,hb,_⟩:=partP_sim hw ha
  simp [hb]
 ·simp at hk
 ·rename_i h1 h2
  unfold keyOK
  split
  ·simp_all
  ·simp_all
  ·rfl
theorem findP_sim {kt:EqT} {k:PV} {kv:Value} (hk:Rd I η k kv):∀ {es:List (PV × PV × Nat)} {fs:List (Value × Value × Nat)} {i:Nat} {r:Option (Nat × PV)},EntRd I η es fs→findP kt k es i=some r→
  ∃ r',findK kt kv fs i=some r'∧(r=none∧r'=none∨∃ j p v,r=some (j,p)∧r'=some (j,v)∧Rd I η p v)
 | [],[],i,r,_,h=>by simp [findP] at h;subst h;exact ⟨none,by simp [findK],.inl ⟨rfl,rfl⟩⟩
 | (p,q,c)::es,(v,w,d)::fs,i,r,he,h=>by
  simp only [EntRd] at he
  simp only [findP] at h
  simp only [findK]
  split at h
  ·rename_i hb
   rw [eqP_sim hk he.1 hb]
   simp at h;subst h
   exact ⟨_,rfl,.inr ⟨i,q,w,rfl,rfl,he.2.1⟩⟩
  ·rename_i hb
   rw [eqP_sim hk he.1 hb]
   exact findP_sim hk he.2.2.2 h
  ·simp at h
 | [],_::_,_,_,he,_=>by simp [EntRd] at he
 | _::_,[],_,_,he,_=>by simp [EntRd] at he
theorem cutV_of {n:Nat} {l:List Value} (h:n≤l.length):cutV n l=some (l.take n):=(cutV_some n l _).2 ⟨h,rfl⟩
theorem b2s_eval {σ:AW} {a:Addr} {n:Nat} {l:List Value} {bs:List UInt8} (h:σ.rdN a n=some l) (hb:bytesOf l=some bs) :
  (if n=0 then some (Value.string .empty) else (σ.rdN a n).bind fun l=>(bytesOf l).map fun b=>Value.string ⟨⟨b⟩⟩)=some (.string ⟨⟨bs⟩⟩):=by
 split
 ·rename_i h0
  subst h0
  unfold AW.rdN at h
  split at h
  ·simp [cutV] at h;subst h
   simp [bytesOf] at hb;subst hb;rfl
  ·simp at h
 ·simp [h,hb]
theorem pevR_sim (hG:GRd I η G) (h:RdL I η e env) (hs:SRel F I η π σ) {q:ROp} {p:PV} (hp:pevR G e π q=some p):∃ v,evR env σ q=some v∧Rd I η p v:=by
 have ho:=rd_opd hG h
 cases q with
 | ld x=>
  have hx:=ho x
  simp only [pevR] at hp
  simp only [evR]
  generalize x.pv G e=X at hp hx
  generalize x.ev env=V at hx ⊢
  split at hp
  ·rename_i c cs
   simp at hp;subst hp
   simp only [Rd] at hx
   obtain ⟨i,o,vs,ws,rest,rfl,h1,h2,h3⟩:=hx
   obtain ⟨b,hb,hc⟩:=hs.image h1
   cases ws with
   | nil=>simp [RdL] at h3
   | cons w ws=>
    simp only [RdL] at h3
    refine ⟨w,?_,h3.1.pure⟩
    simp only [AW.rd,hb,nthV_eq,hc]
    have:=congrArg (·[0]?) h2
    simpa [List.getElem?_drop] using this
  ·rename_i i o
   simp only [Rd] at hx
   obtain ⟨ai,hai,rfl⟩:=hx
   simp only [Option.bind_eq_some_iff,nthP_eq] at hp
   obtain ⟨cs,hcs,hp⟩:=hp
   obtain ⟨b,hb,hr⟩:=hs.cells hai hcs
   obtain ⟨v,hv,hrv⟩:=hr.get hp
   exact ⟨v,by simp [AW.rd,hb,nthV_eq,hv],hrv⟩
  ·simp at hp
 | ldn n x=>
  have hx:=ho x
  simp only [pevR] at hp
  simp only [evR]
  generalize x.pv G e=X at hp hx
  generalize x.ev env=V at hx ⊢
  split at hp
  ·rename_i cs
   simp only [Option.map_eq_some_iff] at hp
   obtain ⟨l,hl,rfl⟩:=hp
   unfold cutP at hl
   split at hl
   ·rename_i hn
    simp at hl;subst hl
    simp only [Rd] at hx
    obtain ⟨i,o,vs,ws,rest,rfl,h1,h2,h3⟩:=hx
    obtain ⟨b,hb,hc⟩:=hs.image h1
    have hln:=h3.length
    refine ⟨.agg ⟨ws.take n⟩,?_,by simp only [Rd];exact ⟨_,rfl,(h3.take n).pure⟩⟩
    simp only [AW.rdN,hb,dropV_eq,hc,h2]
    rw [cutV_of (by simp;omega),List.take_append_of_le_length (by omega)]
    rfl
   ·simp at hl
  ·rename_i i o
   simp only [Rd] at hx
   obtain ⟨ai,hai,rfl⟩:=hx
   simp only [Option.bind_eq_some_iff,Option.map_eq_some_iff] at hp
   obtain ⟨cs,hcs,l,hl,rfl⟩:=hp
   obtain ⟨b,hb,hr⟩:=hs.cells hai hcs
   unfold cutP at hl
   split at hl
   ·rename_i hn
    simp at hl;subst hl
    have hr':=hr.drop o
    have hln:=hr'.length
    refine ⟨.agg ⟨(b.cs.drop o).take n⟩,?_,by simp only [Rd];exact ⟨_,rfl,hr'.take n⟩⟩
    simp only [AW.rdN,hb,dropV_eq]
    rw [cutV_of (by omega)]
    rfl
   ·simp at hl
  ·simp at hp
 | lenM x=>
  have hx:=ho x
  simp only [pevR] at hp
  simp only [evR]
  generalize x.pv G e=X at hp hx
  generalize x.ev env=V at hx ⊢
  split at hp
  ·obtain ⟨rfl,_⟩:=rd_lit hx;simp only [Option.some.injEq] at hp;subst hp;exact ⟨_,rfl,rd_mk (by simp [lt])⟩
  ·rename_i i
   simp only [Rd] at hx;obtain ⟨ai,hai,rfl⟩:=hx
   split at hp
   ·rename_i es cl hl
    simp only [Option.some.injEq] at hp;subst hp
    obtain ⟨a',b,ha',_,hb,hob⟩:=hs.obj i _ hl;rw [hai] at ha';cases ha'
    cases b <;> simp only [ORd] at hob
    rename_i fs c
    have hlen:∀ (es:List (PV × PV × Nat)) (fs:List (Value × Value × Nat)),EntRd I η es fs→es.length=fs.length:=by
     intro es
     induction es with
     | nil=>intro fs h;cases fs <;> simp [EntRd] at h ⊢
     | cons x es ih=>
      intro fs h
      obtain ⟨p,q,c⟩:=x
      cases fs with
      | nil=>simp [EntRd] at h
      | cons y fs=>obtain ⟨v,w,d⟩:=y;simp only [EntRd] at h;simp [ih fs h.2.2.2]
    exact ⟨.int .i64 es.length,by simp [hb,hlen es fs hob.1],rd_mk (by simp [lt])⟩
   ·simp at hp
  ·simp at hp
 | peq neg x y=>
  have hx:=ho x;have hy:=ho y
  simp only [pevR] at hp
  simp only [evR]
  generalize x.pv G e=X at hp hx
  generalize x.ev env=V at hx ⊢
  generalize y.pv G e=Y at hp hy
  generalize y.ev env=W at hy ⊢
  split at hp
  ·obtain ⟨rfl,_⟩:=rd_lit hx;obtain ⟨rfl,_⟩:=rd_lit hy;simp only [Option.some.injEq] at hp;subst hp;exact ⟨_,rfl,rd_mk (by simp [lt])⟩
  ·obtain ⟨rfl,_⟩:=rd_lit hx;simp only [Rd] at hy;obtain ⟨_,_,rfl⟩:=hy;simp only [Option.some.injEq] at hp;subst hp;exact ⟨_,rfl,rd_mk (by simp [lt])⟩
  ·obtain ⟨rfl,_⟩:=rd_lit hx;simp only [Rd] at hy;obtain ⟨_,_,_,_,_,rfl,_⟩:=hy;simp only [Option.some.injEq] at hp;subst hp;exact ⟨_,rfl,rd_mk (by simp [lt])⟩
  ·obtain ⟨rfl,_⟩:=rd_lit hy;simp only [Rd] at hx;obtain ⟨_,_,rfl⟩:=hx;simp only [Option.some.injEq] at hp;subst hp;exact ⟨_,rfl,rd_mk (by simp [lt])⟩
  ·obtain ⟨rfl,_⟩:=rd_lit hy;simp only [Rd] at hx;obtain ⟨_,_,_,_,_,rfl,_⟩:=hx;simp only [Option.some.injEq] at hp;subst hp;exact ⟨_,rfl,rd_mk (by simp [lt])⟩
  ·rename_i i a j b
   simp only [Rd] at hx hy;obtain ⟨ai,hai,rfl⟩:=hx;obtain ⟨bj,hbj,rfl⟩:=hy
   split at hp
   ·rename_i hij;subst hij
    rw [hai] at hbj;cases hbj
    simp only [Option.some.injEq] at hp;subst hp
    exact ⟨_,by simp only [if_true],rd_mk (by simp [lt])⟩
   ·simp at hp
  ·simp at hp
 | slV esz x lo hi mx=>
  have hx:=ho x
  simp only [pevR] at hp
  simp only [evR]
  generalize x.pv G e=X at hp hx
  generalize x.ev env=V at hx ⊢
  split at hp
  ·rename_i n c
   obtain ⟨rfl,_⟩:=rd_lit hx
   split at hp
   ·rename_i hnc
    simp only [Option.bind_eq_some_iff,Option.map_eq_some_iff] at hp
    obtain ⟨m,hm,a,ha,l,hl,rfl⟩:=hp
    refine ⟨.slice none (a - l) (m - l),?_,rd_mk (by simp [lt])⟩
    simp only [if_pos hnc,boundP_sim hG h hm,boundP_sim hG h ha,boundP_sim hG h hl,Option.bind_some]
   ·simp at hp
  ·rename_i cs n
   simp only [Rd] at hx
   obtain ⟨i,off,cap,vs,ws,rest,rfl,hnc,h1,h2,h3⟩:=hx
   split at hp
   ·rename_i hmx
    have hmx':mx=none:=by simpa using hmx
    subst hmx'
    simp only [Option.bind_eq_some_iff] at hp
    obtain ⟨a,ha,l,hl,hp⟩:=hp
    split at hp
    ·rename_i hl0
     simp at hp;subst hp
     have hb1:=boundP_sim hG h ha
     have hb2:=boundP_sim hG h hl
     have han:=bound_le hb1 (Nat.le_refl _)
     have hla:=bound_le hb2 (Nat.zero_le _)
     refine ⟨.slice (some (if cap=l then ⟨i,off,none⟩ else ⟨i,off + l * esz,none⟩)) (a - l) (cap - l),?_,?_⟩
     ·have hb0:bound env cap cap (none:Option Opd)=some cap:=rfl
      dsimp only
      rw [if_pos hnc,hb0]
      simp only [Option.bind_some,bound_more hb1 hnc,hb2]
      rw [if_pos (by
       simp only [Option.isNone_none,Bool.true_and,Bool.or_eq_true,beq_iff_eq,Nat.blt_eq]
       rcases hl0 with h0 | h0
       ·exact .inl (.inl h0)
       ·exact .inl (.inr (by omega)))]
     ·simp only [Rd]
      refine ⟨i,off + l * esz,cap - l,vs,ws.drop (l * esz),rest.drop (l * esz - ws.length),?_,by omega,h1,?_,h3.drop _⟩
      ·split
       ·rename_i hcl
        have hl00:l=0:=by omega
        subst hl00;simp
       ·rfl
      ·rw [← List.drop_drop,h2,List.drop_append]
    ·simp at hp
   ·simp at hp
  ·rename_i cs n
   simp only [Rd] at hx
   rcases hx with ⟨rfl,hv0⟩ | ⟨i,off,cap,vs,ws,rest,rfl,hnc,h1,h2,h3⟩
   ·split at hp
    ·rename_i hmx
     have hmx':mx=none:=by simpa using hmx
     subst hmx'
     simp only [Option.bind_eq_some_iff] at hp
     obtain ⟨a,ha,l,hl,hp⟩:=hp
     split at hp
     ·rename_i hl0
      simp at hp;subst hp
      have hb1:=boundP_sim hG h ha
      have hb2:=boundP_sim hG h hl
      have han:=bound_le hb1 (Nat.le_refl _)
      have hla:=bound_le hb2 (Nat.zero_le _)
      have ha0:a=0:=by omega
      have hl0':l=0:=by omega
      subst ha0 hl0'
      have hb0:bound env 0 0 (none:Option Opd)=some 0:=rfl
      rcases hv0 with rfl | ⟨c,j,us,rfl,h2,h3⟩
      ·refine ⟨.slice none 0 0,?_,by simp [Rd]⟩
       dsimp only
       rw [if_pos (Nat.le_refl _),hb0]
       simp only [Option.bind_some,hb1,hb2]
      ·refine ⟨.slice (some c) 0 0,?_,by simp only [Rd];exact .inl ⟨trivial,.inr ⟨c,j,us,rfl,h2,h3⟩⟩⟩
       dsimp only
       rw [if_pos (Nat.le_refl _),hb0]
       simp only [Option.bind_some,hb1,hb2]
       simp
     ·simp at hp
    ·simp at hp
   ·split at hp
    ·rename_i hmx
     have hmx':mx=none:=by simpa using hmx
     subst hmx'
     simp only [Option.bind_eq_some_iff] at hp
     obtain ⟨a,ha,l,hl,hp⟩:=hp
     split at hp
     ·rename_i hl0
      simp at hp;subst hp
      have hb1:=boundP_sim hG h ha
      have hb2:=boundP_sim hG h hl
      have han:=bound_le hb1 (Nat.le_refl _)
      have hla:=bound_le hb2 (Nat.zero_le _)
      refine ⟨.slice (some (if cap=l then ⟨i,off,none⟩ else ⟨i,off + l * esz,none⟩)) (a - l) (cap - l),?_,?_⟩
      ·have hb0:bound env cap cap (none:Option Opd)=some cap:=rfl
       dsimp only
       rw [if_pos hnc,hb0]
       simp only [Option.bind_some,bound_more hb1 hnc,hb2]
       rw [if_pos (by
        simp only [Option.isNone_none,Bool.true_and,Bool.or_eq_true,beq_iff_eq,Nat.blt_eq]
        rcases hl0 with h0 | h0
        ·exact .inl (.inl h0)
        ·exact .inl (.inr (by omega)))]
      ·simp only [Rd]
       right
       refine ⟨i,off + l * esz,cap - l,vs,ws.drop (l * esz),rest.drop (l * esz - ws.length),?_,by omega,h1,?_,h3.drop _⟩
       ·split
        ·rename_i hcl
         have hl00:l=0:=by omega
         subst hl00;simp
        ·rfl
       ·rw [← List.drop_drop,h2,List.drop_append]
     ·simp at hp
    ·simp at hp
  ·rename_i i off n c
   simp only [Rd] at hx;obtain ⟨ai,hai,rfl⟩:=hx
   split at hp
   ·rename_i hnc
    simp only [Option.bind_eq_some_iff] at hp
    obtain ⟨m,hm,a,ha,l,hl,hp⟩:=hp
    split at hp
    ·rename_i hcond
     simp only [Option.some.injEq] at hp;subst hp
     refine ⟨.slice (some (if m=l then ⟨ai,off,none⟩ else ⟨ai,off + l * esz,none⟩)) (a - l) (m - l),?_,?_⟩
     ·dsimp only
      rw [if_pos hnc]
      simp only [boundP_sim hG h hm,boundP_sim hG h ha,boundP_sim hG h hl,Option.bind_some]
      rw [if_pos (by
       rw [Bool.or_eq_true] at hcond ⊢
       rcases hcond with h0 | h0
       ·exact .inl h0
       ·exact .inr (hs.exact hai h0).1)]
     ·simp only [Rd]
      exact ⟨ai,hai,by split <;> rfl⟩
    ·simp at hp
   ·simp at hp
  ·rename_i cs n m
   simp only [Rd] at hx
   obtain ⟨i,off,vs,ws,rest,rfl,hnm,h1,h2,hx1,h3⟩:=hx
   split at hp
   ·rename_i hlm
    simp only [Bool.and_eq_true,Option.isNone_iff_eq_none] at hlm
    obtain ⟨rfl,rfl⟩:=hlm
    simp only [Option.map_eq_some_iff] at hp
    obtain ⟨a,ha,rfl⟩:=hp
    have hb1:=boundP_sim hG h ha
    have ham:=bound_le hb1 hnm
    refine ⟨.slice (some ⟨i,off,none⟩) a m,?_,?_⟩
    ·have hb0:bound env m m (none:Option Opd)=some m:=rfl
     have hb2:bound env 0 a (none:Option Opd)=some 0:=rfl
     dsimp only
     rw [if_pos hnm,hb0]
     simp only [Option.bind_some,hb1,hb2]
     simp
    ·simp only [Rd]
     exact ⟨i,off,vs,ws,rest,rfl,ham,h1,h2,hx1,h3⟩
   ·simp at hp
  ·simp at hp
 | slA esz len x lo hi=>
  have hx:=ho x
  simp only [pevR] at hp
  simp only [evR]
  generalize x.pv G e=X at hp hx
  generalize x.ev env=V at hx ⊢
  split at hp
  ·rename_i i o
   simp only [Rd] at hx;obtain ⟨ai,hai,rfl⟩:=hx
   simp only [Option.bind_eq_some_iff] at hp
   obtain ⟨a,ha,l,hl,hp⟩:=hp
   split at hp
   ·rename_i hex
    simp only [Option.some.injEq] at hp;subst hp
    obtain ⟨_,b,hb,hbx⟩:=hs.exact hai hex
    refine ⟨.slice (some (if len=l then ⟨ai,o,none⟩ else ⟨ai,o + l * esz,none⟩)) (a - l) (len - l),?_,?_⟩
    ·simp only [boundP_sim hG h ha,boundP_sim hG h hl,Option.bind_some,hb,hbx,if_true]
    ·simp only [Rd]
     exact ⟨ai,hai,by split <;> rfl⟩
   ·simp at hp
  ·simp at hp
 | cap x=>
  have hx:=ho x
  simp only [pevR] at hp
  simp only [evR]
  generalize x.pv G e=X at hp hx
  generalize x.ev env=V at hx ⊢
  split at hp
  ·obtain ⟨rfl,_⟩:=rd_lit hx;simp only [Option.some.injEq] at hp;subst hp;exact ⟨_,rfl,rd_mk (by simp [lt])⟩
  ·rename_i i o n c
   simp only [Rd] at hx;obtain ⟨ai,hai,rfl⟩:=hx
   split at hp
   ·rename_i hex
    simp only [Option.some.injEq] at hp;subst hp
    obtain ⟨_,b,hb,hbx⟩:=hs.exact hai hex
    exact ⟨.int .i64 c,by simp [hb,hbx],rd_mk (by simp [lt])⟩
   ·simp at hp
  ·rename_i cs n m
   simp only [Rd] at hx
   obtain ⟨i,off,vs,ws,rest,rfl,hnm,h1,h2,hx1,h3⟩:=hx
   simp only [Option.some.injEq] at hp;subst hp
   obtain ⟨_,b,hb,_,_,hbx⟩:=hs.img i vs h1
   exact ⟨.int .i64 m,by simp [cells?_some.2 hb,hbx hx1],rd_mk (by simp [lt])⟩
  ·simp at hp
 | b2s x=>
  have hx:=ho x
  simp only [pevR] at hp
  simp only [evR]
  generalize x.pv G e=X at hp hx
  generalize x.ev env=V at hx ⊢
  split at hp
  ·obtain ⟨rfl,_⟩:=rd_lit hx;simp only [Option.some.injEq] at hp;subst hp;exact ⟨_,rfl,rd_mk (by simp [lt])⟩
  ·rename_i cs n
   simp only [Rd] at hx
   obtain ⟨i,off,cap,vs,ws,rest,rfl,hnc,h1,h2,h3⟩:=hx
   simp only [Option.bind_eq_some_iff,Option.map_eq_some_iff] at hp
   obtain ⟨l,hl,bs,hbs,rfl⟩:=hp
   unfold cutP at hl
   split at hl
   ·rename_i hn
    simp at hl;subst hl
    obtain ⟨b,hb,hc⟩:=hs.image h1
    have hln:=h3.length
    refine ⟨.string ⟨⟨bs⟩⟩,?_,rd_mk (by simp [lt])⟩
    refine b2s_eval (l:=ws.take n) ?_ (bytesP_sim (h3.take n) hbs)
    simp only [AW.rdN,hb,dropV_eq,hc,h2]
    rw [cutV_of (by simp;omega),List.take_append_of_le_length (by omega)]
   ·simp at hl
  ·rename_i cs n
   simp only [Rd] at hx
   rcases hx with ⟨rfl,hv0⟩ | ⟨i,off,cap,vs,ws,rest,rfl,hnc,h1,h2,h3⟩
   ·simp only [Option.bind_eq_some_iff,Option.map_eq_some_iff] at hp
    obtain ⟨l,hl,bs,hbs,rfl⟩:=hp
    simp [cutP] at hl;subst hl
    simp [bytesP] at hbs;subst hbs
    rcases hv0 with rfl | ⟨_,_,_,rfl,_⟩ <;> exact ⟨_,rfl,rd_mk (by simp [lt])⟩
   ·simp only [Option.bind_eq_some_iff,Option.map_eq_some_iff] at hp
    obtain ⟨l,hl,bs,hbs,rfl⟩:=hp
    unfold cutP at hl
    split at hl
    ·rename_i hn
     simp at hl;subst hl
     obtain ⟨b,hb,hc⟩:=hs.image h1
     have hln:=h3.length
     refine ⟨.string ⟨⟨bs⟩⟩,?_,rd_mk (by simp [lt])⟩
     refine b2s_eval (l:=ws.take n) ?_ (bytesP_sim (h3.take n) hbs)
     simp only [AW.rdN,hb,dropV_eq,hc,h2]
     rw [cutV_of (by simp;omega),List.take_append_of_le_length (by omega)]
    ·simp at hl
  ·rename_i i off n c
   simp only [Rd] at hx;obtain ⟨ai,hai,rfl⟩:=hx
   simp only [Option.bind_eq_some_iff,Option.map_eq_some_iff] at hp
   obtain ⟨cs,hcs,l,hl,bs,hbs,rfl⟩:=hp
   obtain ⟨b,hb,hr⟩:=hs.cells hai hcs
   unfold cutP at hl
   split at hl
   ·rename_i hn
    simp at hl;subst hl
    have hr':=hr.drop off
    have hln:=hr'.length
    refine ⟨.string ⟨⟨bs⟩⟩,?_,rd_mk (by simp [lt])⟩
    refine b2s_eval (l:=(b.cs.drop off).take n) ?_ (bytesP_sim (hr'.take n) hbs)
    simp only [AW.rdN,hb,dropV_eq]
    rw [cutV_of (by omega)]
   ·simp at hl
  ·simp at hp
 | lookup kt zero ok x k=>
  have hx:=ho x;have hk:=ho k
  simp only [pevR] at hp
  simp only [evR]
  generalize x.pv G e=X at hp hx
  generalize x.ev env=V at hx ⊢
  generalize k.pv G e=K at hp hk
  generalize k.ev env=W at hk ⊢
  obtain ⟨es,fs,hfs,hent,hp⟩:∃ es fs,(match V with | .map none=>some [] | .map (some r)=>(match σ.heap.get r with | some (.map es _)=>some es | _=>none) | _=>none)=some fs∧EntRd I η es fs∧
    (if keyP kt K && lt 0 zero then (match findP kt K es 0 with | some (some (_,v))=>some (if ok then .tup [v,.lit (.bool true)] else v) | some none=>some (if ok then .tup [ofV zero,.lit (.bool false)] else ofV zero) | none=>none) else none)=some p:=by
   split at hp
   ·rename_i es hes
    split at hes
    ·obtain ⟨rfl,_⟩:=rd_lit hx
     simp at hes;subst hes
     exact ⟨[],[],rfl,trivial,hp⟩
    ·rename_i i
     simp only [Rd] at hx;obtain ⟨ai,hai,rfl⟩:=hx
     split at hes
     ·rename_i es' cl hl
      simp at hes;subst hes
      obtain ⟨a',b,ha',_,hb,hob⟩:=hs.obj i _ hl;rw [hai] at ha';cases ha'
      cases b <;> simp only [ORd] at hob
      rename_i fs c
      exact ⟨es',fs,by simp only [hb],hob.1,hp⟩
     ·simp at hes
    ·simp at hes
   ·simp at hp
  suffices hw:∃ v,(if keyOK kt W then (match findK kt W fs 0 with | some (some (_,v))=>some (if ok then .tuple ⟨[v,.bool true]⟩ else v) | some none=>some (if ok then .tuple ⟨[zero,.bool false]⟩ else zero) | none=>none) else none)=some v∧Rd I η p v by
   obtain ⟨v,hv,hr⟩:=hw
   refine ⟨v,?_,hr⟩
   rw [← hv]
   split
   ·rename_i es' he
    have hq:some es'=some fs:=he.symm.trans hfs
    cases hq;rfl
   ·rename_i he
    have hq:none=some fs:=he.symm.trans hfs
    cases hq
  split at hp
  ·rename_i hkz
   simp only [Bool.and_eq_true] at hkz
   rw [if_pos (keyP_sim hk hkz.1)]
   split at hp
   ·rename_i j v hf
    obtain ⟨r',hr',hor⟩:=findP_sim hk hent hf
    rcases hor with ⟨h1,_⟩ | ⟨j',p',v',h1,rfl,hv⟩
    ·simp at h1
    ·simp at h1;obtain ⟨rfl,rfl⟩:=h1
     simp only [hr']
     simp only [Option.some.injEq] at hp;subst hp
     cases ok
     ·exact ⟨_,rfl,hv⟩
     ·exact ⟨_,rfl,by simp only [if_true,Rd];exact ⟨_,rfl,by simp only [RdL];exact ⟨hv,rd_mk (by simp [lt]),trivial⟩⟩⟩
   ·rename_i hf
    obtain ⟨r',hr',hor⟩:=findP_sim hk hent hf
    rcases hor with ⟨_,rfl⟩ | ⟨j',p',v',h1,_⟩
    ·simp only [hr']
     simp only [Option.some.injEq] at hp;subst hp
     cases ok
     ·exact ⟨_,rfl,rd_ofV zero hkz.2⟩
     ·exact ⟨_,rfl,by simp only [if_true,Rd];exact ⟨_,rfl,by simp only [RdL];exact ⟨rd_ofV zero hkz.2,rd_mk (by simp [lt]),trivial⟩⟩⟩
    ·simp at h1
   ·simp at hp
  ·simp at hp
 | p2u x=>
  have hx:=ho x
  simp only [pevR] at hp
  simp only [evR]
  generalize x.pv G e=X at hp hx
  generalize x.ev env=V at hx ⊢
  split at hp
  ·obtain ⟨rfl,_⟩:=rd_lit hx;simp only [Option.some.injEq] at hp;subst hp;exact ⟨_,rfl,rd_mk (by simp [lt])⟩
  ·rename_i i o
   simp only [Rd] at hx;obtain ⟨ai,hai,rfl⟩:=hx
   simp only [Option.bind_eq_some_iff] at hp
   obtain ⟨cs,hcs,hp⟩:=hp
   obtain ⟨b,hb,hr⟩:=hs.cells hai hcs
   split at hp
   ·rename_i hlt
    simp only [Option.some.injEq] at hp;subst hp
    exact ⟨.pointer (some ⟨ai,o,none⟩),by simp only [hb];rw [if_pos (by rw [← hr.length];exact hlt)],by simp only [Rd];exact ⟨ai,hai,rfl⟩⟩
   ·simp at hp
  ·simp at hp
 | u2p t n x=>
  have hx:=ho x
  simp only [pevR] at hp
  simp only [evR]
  generalize x.pv G e=X at hp hx
  generalize x.ev env=V at hx ⊢
  split at hp
  ·obtain ⟨rfl,_⟩:=rd_lit hx;simp only [Option.some.injEq] at hp;subst hp;exact ⟨_,rfl,rd_mk (by simp [lt])⟩
  ·rename_i i o
   simp only [Rd] at hx;obtain ⟨ai,hai,rfl⟩:=hx
   split at hp
   ·rename_i cs ty esz ex ret al hl
    split at hp
    ·rename_i hc
     simp only [Option.some.injEq] at hp;subst hp
     obtain ⟨a',bk,ha',_,hb,hob⟩:=hs.obj i _ hl
     rw [hai] at ha';cases ha'
     cases bk <;> simp only [ORd] at hob
     rename_i bk
     obtain ⟨g1,g2,g3,g4,g5,g6,g7⟩:=hob
     obtain ⟨q1,q2,q3,q4⟩:=hc
     refine ⟨.pointer (some ⟨ai,o,none⟩),?_,by simp only [Rd];exact ⟨ai,hai,rfl⟩⟩
     simp only [cells?_some.2 hb]
     rw [if_pos ⟨by rw [g2,q1],by rw [g4,q2],by rw [← g1.length,q3],q4,by rw [g6];simp⟩]
    ·simp at hp
   ·simp at hp
  ·simp at hp
end
end Go.Proofs.YtnpoloachkcadaaGreatDoor.Ai
namespace Go.Proofs.YtnpoloachkcadaaGreatDoor.Ai
open Go
set_option linter.unusedSimpArgs false
set_option linter.unusedVariables false
def boxP (p:PV):Option (List PV):=
 match p with
 | .agg l=>some l
 | p=>if plainP p then some [p] else none
def pevN (G:PG) (e:List PV):NOp→Option (PObj × (Nat→PV))
 | .new t esz zero=>if ltL 0 zero then some (.cells (ofVs zero) t esz true false [],fun i=>.ptr i 0) else none
 | .box t esz x=>(boxP (x.pv G e)).map fun cs=>(.cells cs t esz true false [],fun i=>.ptr i 0)
 | .buildSlice t esz len zero parts=>if ltL 0 zero then (fillP G e (ofVs zero) parts).map fun cs=>(.cells cs t esz true false [],fun i=>.loc i 0 len len) else none
 | .mkSlice t esz bytes zero len cap=>
  match len.pv G e,cap.pv G e with
  | .lit (.int _ l),.lit (.int _ c)=>
   if (0≤l∧l≤c∧c * bytes≤140737488355328∧c≤140737488355328)∧ltL 0 zero=true then
    some (.cells (List.replicate c.toNat (ofVs zero)).flatten t esz true false [],fun i=>.loc i 0 l.toNat c.toNat)
   else none
  | _,_=>none
 | .mkMap=>some (.map [] 0,fun i=>.map i)
section
variable {I:Img} {η:Eta} {G:PG} {e:List PV} {env:List Value} {π:PW} {σ:AW}
theorem boxP_sim {p:PV} {v:Value} {cs:List PV} (h:Rd I η p v) (hb:boxP p=some cs):RdL I η cs (cellsOf v):=by
 unfold boxP at hb
 split at hb
 ·simp at hb;subst hb
  simp only [Rd] at h
  obtain ⟨w,rfl,hw⟩:=h
  exact hw
 ·split at hb
  ·rename_i hp
   simp at hb;subst hb
   rw [(plain_cells hp h).1]
   simp only [RdL]
   exact ⟨h,trivial⟩
  ·simp at hb
theorem rdL_flatten {l:List PV} {vs:List Value} (h:RdL I η l vs):∀ n,RdL I η (List.replicate n l).flatten (List.replicate n vs).flatten
 | 0=>by simp [RdL]
 | n + 1=>by simp only [List.replicate_succ,List.flatten_cons];exact h.append (rdL_flatten h n)
theorem pevN_sim (hG:GRd I η G) (h:RdL I η e env) {q:NOp} {o:PObj} {f:Nat→PV} (hp:pevN G e q=some (o,f)) :
  ∃ b g,evN env q=some (b,g)∧ORd I η o b∧(∀ c,b = .cells c→c.al=[])∧(∀ J θ j i,θ j=some i→Rd J θ (f j) (g i)):=by
 have ho:=rd_opd hG h
 cases q with
 | new t esz zero=>
  simp only [pevN] at hp
  split at hp
  ·rename_i hz
   simp at hp;obtain ⟨rfl,rfl⟩:=hp
   exact ⟨_,_,rfl,⟨rdL_ofVs zero hz,rfl,rfl,rfl,rfl,rfl,rfl⟩,fun c hc=>by simp at hc;subst hc;rfl,fun J θ j i hj=>by simp [Rd,hj]⟩
  ·simp at hp
 | box t esz x=>
  simp only [pevN,Option.map_eq_some_iff,Prod.mk.injEq] at hp
  obtain ⟨cs,hcs,rfl,rfl⟩:=hp
  exact ⟨_,_,rfl,⟨boxP_sim (ho x) hcs,rfl,rfl,rfl,rfl,rfl,rfl⟩,fun c hc=>by simp at hc;subst hc;rfl,fun J θ j i hj=>by simp [Rd,hj]⟩
 | buildSlice t esz len zero parts=>
  simp only [pevN] at hp
  split at hp
  ·rename_i hz
   simp only [Option.map_eq_some_iff,Prod.mk.injEq] at hp
   obtain ⟨cs,hcs,rfl,rfl⟩:=hp
   obtain ⟨s,hs,hr⟩:=fillP_sim hG h (rdL_ofVs zero hz) hcs
   exact ⟨.cells (newCB t esz s true []),fun i=>.slice (some ⟨i,0,none⟩) len len,by simp only [evN,hs,Option.map_some],⟨hr,rfl,rfl,rfl,rfl,rfl,rfl⟩,fun c hc=>by simp at hc;subst hc;rfl,fun J θ j i hj=>by simp [Rd,hj]⟩
  ·simp at hp
 | mkSlice t esz bytes zero len cap=>
  have hx:=ho len;have hy:=ho cap
  simp only [pevN] at hp
  simp only [evN]
  generalize len.pv G e=X at hp hx
  generalize len.ev env=V at hx ⊢
  generalize cap.pv G e=Y at hp hy
  generalize cap.ev env=W at hy ⊢
  split at hp
  ·rename_i k l k' c
   obtain ⟨rfl,_⟩:=rd_lit hx;obtain ⟨rfl,_⟩:=rd_lit hy
   split at hp
   ·rename_i hc
    simp only [Option.some.injEq,Prod.mk.injEq] at hp
    obtain ⟨rfl,rfl⟩:=hp
    exact ⟨.cells (newCB t esz (List.replicate c.toNat zero).flatten true []),fun i=>.slice (some ⟨i,0,none⟩) l.toNat c.toNat,by dsimp only;rw [if_pos hc.1],⟨rdL_flatten (rdL_ofVs zero hc.2) _,rfl,rfl,rfl,rfl,rfl,rfl⟩,fun c hc=>by simp at hc;subst hc;rfl,fun J θ j i hj=>by simp [Rd,hj]⟩
   ·simp at hp
  ·simp at hp
 | mkMap=>
  simp only [pevN,Option.some.injEq,Prod.mk.injEq] at hp
  obtain ⟨rfl,rfl⟩:=hp
  exact ⟨_,_,rfl,⟨trivial,rfl⟩,fun c hc=>by simp at hc,fun J θ j i hj=>by simp [Rd,hj]⟩
end
end Go.Proofs.YtnpoloachkcadaaGreatDoor.Ai
namespace Go.Proofs.YtnpoloachkcadaaGreatDoor.Ai
open Go
set_option linter.unusedSimpArgs false
set_option linter.unusedVariables false
def setO:List (Nat × PObj)→Nat→PObj→List (Nat × PObj)
 | [],_,_=>[]
 | (j,o)::l,i,x=>if i=j then (j,x)::l else (j,o)::setO l i x
def killO:List Nat→List (Nat × PObj)→List (Nat × PObj)
 | [],h=>h
 | i::al,h=>killO al (h.filter fun x=>x.1 != i)
def allPlain:List PV→Bool
 | []=>true
 | v::l=>plainP v && allPlain l
def PW.wr (π:PW) (i off:Nat) (vs:List PV):Option PW:=
 match look π.heap i with
 | some (.cells cs ty esz ex ret al)=>
  if ret || !allPlain vs then none else
  match spliceP cs off vs with
  | some cs=>some {π with heap:=setO (killO al π.heap) i (.cells cs ty esz ex ret []) }
  | none=>none
 | _=>none
theorem look_setO (h:List (Nat × PObj)) (i j:Nat) (x:PObj):look (setO h i x) j=if j=i then (look h i).map fun _=>x else look h j:=by
 induction h with
 | nil=>simp [setO,look]
 | cons y l ih=>
  obtain ⟨k,o⟩:=y
  simp only [setO]
  split
  ·rename_i hik
   subst hik
   simp only [look]
   by_cases hj:j=i
   ·simp [hj]
   ·simp [hj]
  ·rename_i hik
   simp only [look,ih]
   by_cases hj:j=k
   ·subst hj
    simp only [if_true]
    rw [if_neg (fun h=>hik h.symm)]
   ·simp only [hj,if_false,hik]
theorem look_filter (h:List (Nat × PObj)) (i j:Nat):look (h.filter fun x=>x.1 != i) j=if j=i then none else look h j:=by
 induction h with
 | nil=>simp [look]
 | cons y l ih=>
  obtain ⟨k,o⟩:=y
  simp only [List.filter_cons]
  split
  ·rename_i hk
   have hk:k ≠ i:=by simpa using hk
   simp only [look,ih]
   by_cases hj:j=k
   ·subst hj;simp [hk]
   ·simp [hj]
  ·rename_i hk
   have hk:k=i:=by simpa using hk
   subst hk
   rw [ih]
   by_cases hj:j=k
   ·simp [hj]
   ·simp [hj,look]
theorem look_killO (al:List Nat):∀ (h:List (Nat × PObj)) (j:Nat),look (killO al h) j=if j∈al then none else look h j:=by
 induction al with
 | nil=>intro h j;simp [killO]
 | cons i al ih=>
  intro h j
  rw [killO,ih,look_filter]
  by_cases h1:j∈al
  ·simp [h1]
  ·by_cases h2:j=i
   ·simp [h2]
   ·simp [h1,h2]
def Stay (I:Img) (η:Eta) (π':PW) (σ σ':AW) (i:Nat):Prop:=
 (∀ k us,I k=some us→σ'.heap.get k=σ.heap.get k)∧∀ j o a,j ≠ i→look π'.heap j=some o→η j=some a→σ'.heap.get a=σ.heap.get a
section
variable {F:Nat→Prop} {I:Img} {η:Eta} {G:PG} {e:List PV} {env:List Value} {π π':PW} {σ:AW}
theorem allPlain_sim:∀ {vs:List PV} {ws:List Value},RdL I η vs ws→allPlain vs=true→allCells ws=true
 | [],[],_,_=>rfl
 | p::ps,v::vs,h,ha=>by
  simp only [RdL] at h
  simp only [allPlain,Bool.and_eq_true] at ha
  simp only [allCells,Bool.and_eq_true]
  exact ⟨(plain_cells ha.1 h.1).2,allPlain_sim h.2 ha.2⟩
 | [],_::_,h,_=>by simp [RdL] at h
 | _::_,[],h,_=>by simp [RdL] at h
theorem kills (al:List Nat) (h:Tr Blk) (k:Nat):(killAll al h).get k=if k∈al then none else h.get k:=get_killAll al h (fun i _=>Nat.lt_succ_self i) k
theorem look_wr {i j:Nat} {al:List Nat} {x:PObj} {o:PObj} {h:List (Nat × PObj)} (hl:look (setO (killO al h) i x) j=some o):(j=i∧o=x)∨(j ≠ i∧j∉al∧look h j=some o):=by
 rw [look_setO] at hl
 split at hl
 ·rename_i hj
  simp only [Option.map_eq_some_iff] at hl
  obtain ⟨_,_,rfl⟩:=hl
  exact .inl ⟨hj,rfl⟩
 ·rename_i hj
  rw [look_killO] at hl
  split at hl
  ·simp at hl
  ·rename_i hn;exact .inr ⟨hj,hn,hl⟩
theorem look_wr' {i j:Nat} {al:List Nat} {x:PObj} {o:PObj} {h:List (Nat × PObj)} (hl:look (setO (killO al h) i x) j=some o):∃ o',look h j=some o':=by
 rw [look_setO] at hl
 split at hl
 ·rename_i hj
  subst hj
  simp only [Option.map_eq_some_iff] at hl
  obtain ⟨y,hy,_⟩:=hl
  rw [look_killO] at hy
  split at hy
  ·simp at hy
  ·exact ⟨_,hy⟩
 ·rw [look_killO] at hl
  split at hl
  ·simp at hl
  ·exact ⟨_,hl⟩
theorem wr_sim (hs:SRel F I η π σ) {i a off:Nat} (ha:η i=some a) {vs:List PV} {ws:List Value} (hw:π.wr i off vs=some π') (hv:RdL I η vs ws) :
  ∃ σ',σ.wrN a off ws=some σ'∧SRel F I η π' σ'∧σ'.next=σ.next∧π'.next=π.next∧(∀ k,F k→σ'.heap.get k=σ.heap.get k)∧Stay I η π' σ σ' i:=by
 unfold PW.wr at hw
 split at hw
 ·rename_i cs ty esz ex ret al hl
  split at hw
  ·simp at hw
  ·rename_i hc
   simp only [Bool.or_eq_true,Bool.not_eq_true',not_or,Bool.not_eq_true,Bool.not_eq_false] at hc
   obtain ⟨rfl,hpl⟩:=hc
   split at hw
   ·rename_i cs' hsp
    simp only [Option.some.injEq] at hw
    subst hw
    obtain ⟨a',b,ha',han,hb,ho⟩:=hs.obj i _ hl
    rw [ha] at ha';cases ha'
    cases b <;> simp only [ORd] at ho
    rename_i b
    obtain ⟨h1,h2,h3,h4,h5,h6,h7⟩:=ho
    obtain ⟨s,hss,hr⟩:=spliceP_sim h1 hv hsp
    have hal:=hs.al i _ _ _ _ _ _ _ _ hl ha hb
    have hgetA:∀ k,((killAll b.al σ.heap).set a (.cells {b with cs:=s,al:=[] })).get k=if k=a then some (.cells {b with cs:=s,al:=[] }) else if k∈b.al then none else σ.heap.get k:=by
     intro k;rw [Tr.get_set _ _ _ _ (Nat.lt_succ_self a),kills]
    refine ⟨{σ with heap:=(killAll b.al σ.heap).set a (.cells {b with cs:=s,al:=[] }) },?_,?_,rfl,rfl,?_,?_,?_⟩
    rotate_left 2
    ·intro k hk
     dsimp only
     rw [hgetA,if_neg (fun h=>by subst h;exact hs.fo i _ _ hl ha hk)]
     split
     ·rename_i h;exact ((hal _ h).2.2.1 hk).symm
     ·rfl
    ·intro k us hk
     dsimp only
     rw [hgetA,if_neg (fun h=>by subst h;rw [hs.sep i _ _ hl ha] at hk;simp at hk),if_neg (fun h=>by rw [(hal _ h).2.1] at hk;simp at hk)]
    ·intro j o aj hne hj haj
     dsimp only at hj ⊢
     rcases look_wr hj with ⟨h,_⟩ | ⟨_,hna,hlj⟩
     ·exact absurd h hne
     ·rw [hgetA,if_neg (fun h=>by subst h;exact hne (hs.inj j i _ _ _ hlj hl haj ha)),if_neg (fun h=>hna ((hal _ h).2.2.2 j _ hlj haj))]
    ·simp only [AW.wrN,cells?_some.2 hb,h5,h6,h7,allPlain_sim hv hpl,hss]
     rfl
    ·have hget:∀ k,((killAll b.al σ.heap).set a (.cells {b with cs:=s,al:=[] })).get k=if k=a then some (.cells {b with cs:=s,al:=[] }) else if k∈b.al then none else σ.heap.get k:=by
      intro k;rw [Tr.get_set _ _ _ _ (Nat.lt_succ_self a),kills]
     have hoth:∀ j o aj,look (setO (killO al π.heap) i (.cells cs' ty esz ex false [])) j=some o→η j=some aj→j ≠ i→look π.heap j=some o∧((killAll b.al σ.heap).set a (.cells {b with cs:=s,al:=[] })).get aj=σ.heap.get aj:=by
      intro j o aj hj haj hne
      rcases look_wr hj with ⟨h,_⟩ | ⟨_,hna,hlj⟩
      ·exact absurd h hne
      ·refine ⟨hlj,?_⟩
       have q1:aj ≠ a:=by intro h;subst h;exact hne (hs.inj j i _ _ _ hlj hl haj ha)
       have q2:aj∉b.al:=fun h=>hna ((hal _ h).2.2.2 j _ hlj haj)
       rw [hget,if_neg q1,if_neg q2]
     constructor
     ·intro k c hk
      dsimp only at hk ⊢
      rw [hget] at hk
      split at hk
      ·rename_i h;subst h;exact han
      ·split at hk
       ·simp at hk
       ·exact hs.hn k c hk
     ·exact hs.fn
     ·intro j o c hj hc
      obtain ⟨_,h8⟩:=look_wr' hj
      exact hs.fo j _ c h8 hc
     ·intro k us hk
      obtain ⟨hkn,c,hc,hcs,hcr⟩:=hs.img k us hk
      refine ⟨hkn,c,?_,hcs,hcr⟩
      dsimp only
      rw [hget,if_neg (fun h=>by subst h;rw [hs.sep i _ _ hl ha] at hk;simp at hk),if_neg (fun h=>by rw [(hal _ h).2.1] at hk;simp at hk)]
      exact hc
     ·exact hs.fresh
     ·intro j o hj
      dsimp only at hj ⊢
      by_cases hji:j=i
      ·subst hji
       rcases look_wr hj with ⟨_,rfl⟩ | ⟨h,_⟩
       ·refine ⟨a,.cells {b with cs:=s,al:=[] },ha,han,by rw [hget,if_pos rfl],hr,h2,h3,h4,h5,h6,h7⟩
       ·exact absurd rfl h
      ·obtain ⟨o',ho'⟩:=look_wr' hj
       obtain ⟨aj,bj,haj,hlt,hbj,hoj⟩:=hs.obj j _ ho'
       obtain ⟨hlj,hg⟩:=hoth j o aj hj haj hji
       rw [ho'] at hlj;cases hlj
       exact ⟨aj,bj,haj,hlt,by rw [hg];exact hbj,hoj⟩
     ·intro j k oj ok c hj hk hcj hck
      obtain ⟨_,h8⟩:=look_wr' hj
      obtain ⟨_,h9⟩:=look_wr' hk
      exact hs.inj j k _ _ c h8 h9 hcj hck
     ·intro j o c hj hc
      obtain ⟨_,h8⟩:=look_wr' hj
      exact hs.sep j _ c h8 hc
     ·intro j cs2 ty2 esz2 ex2 ret2 al2 c b2 hj hc hb2 k hk
      dsimp only at hj hb2
      by_cases hji:j=i
      ·subst hji
       rw [ha] at hc;cases hc
       rw [hget,if_pos rfl] at hb2
       simp only [Option.some.injEq,Blk.cells.injEq] at hb2
       subst hb2
       simp at hk
      ·obtain ⟨hlj,hg⟩:=hoth j _ c hj hc hji
       rw [hg] at hb2
       obtain ⟨h7',h8,h8',h9⟩:=hs.al j _ _ _ _ _ _ _ _ hlj hc hb2 k hk
       refine ⟨h7',h8,fun hf=>?_,fun m o hm hcm=>?_⟩
       ·dsimp only
        rw [hget]
        split
        ·rename_i e;subst e;exact absurd hf (hs.fo i _ _ hl ha)
        ·split
         ·rfl
         ·exact h8' hf
       obtain ⟨_,h10⟩:=look_wr' hm
       exact h9 m _ h10 hcm
   ·simp at hw
 ·simp at hw
end
end Go.Proofs.YtnpoloachkcadaaGreatDoor.Ai
namespace Go.Proofs.YtnpoloachkcadaaGreatDoor.Ai
open Go
set_option linter.unusedSimpArgs false
set_option linter.unusedVariables false
section
variable {F:Nat→Prop} {I J:Img} {η θ:Eta} {π:PW} {σ:AW}
theorem EntRd.mono (h:I.le J) (g:η.le θ):∀ {es:List (PV × PV × Nat)} {fs:List (Value × Value × Nat)},EntRd I η es fs→EntRd J θ es fs
 | [],[],_=>trivial
 | (p,q,c)::l,(v,w,d)::m,hr=>by
  simp only [EntRd] at hr ⊢
  exact ⟨hr.1.mono h g,hr.2.1.mono h g,hr.2.2.1,EntRd.mono h g hr.2.2.2⟩
 | [],_::_,hr=>by simp [EntRd] at hr
 | _::_,[],hr=>by simp [EntRd] at hr
theorem ORd.mono (h:I.le J) (g:η.le θ) {o:PObj} {b:Blk} (hr:ORd I η o b):ORd J θ o b:=by
 cases o <;> cases b <;> simp only [ORd] at hr ⊢
 ·exact ⟨hr.1.mono h g,hr.2⟩
 ·exact ⟨EntRd.mono h g hr.1,hr.2⟩
 ·exact hr
 ·exact ⟨hr.1,hr.2.1,hr.2.2.1.mono h g,hr.2.2.2⟩
def Eta.ext (η:Eta) (j a:Nat):Eta:=fun k=>if k=j then some a else η k
theorem ext_le (hs:SRel F I η π σ) (a:Nat):η.le (η.ext π.next a):=by
 intro k b hk
 have:=hs.fresh k b hk
 simp only [Eta.ext]
 rw [if_neg (by omega)];exact hk
theorem push_sim (hs:SRel F I η π σ) {o:PObj} {b:Blk} (ho:ORd I η o b) (hal:∀ c,b = .cells c→∃ cs ty esz ex ret al,o = .cells cs ty esz ex ret al∧∀ i∈c.al,i < σ.next∧I i=none∧(F i→σ.heap.get i=none)∧∀ k o,look π.heap k=some o→η k=some i→k∈al) :
  SRel F I (η.ext π.next σ.next) {next:=π.next + 1,heap:=(π.next,o)::π.heap } {next:=σ.next + 1,heap:=σ.heap.set σ.next b }:=by
 have hle:=ext_le hs σ.next
 have hget:∀ k,(σ.heap.set σ.next b).get k=if k=σ.next then some b else σ.heap.get k:=fun k=>Tr.get_set _ _ _ _ (Nat.lt_succ_self _)
 have hold:∀ j o',look ((π.next,o)::π.heap) j=some o'→(j=π.next∧o'=o)∨(j ≠ π.next∧look π.heap j=some o'):=by
  intro j o' hj
  simp only [look] at hj
  split at hj
  ·rename_i h;simp at hj;exact .inl ⟨h,hj.symm⟩
  ·rename_i h;exact .inr ⟨h,hj⟩
 have hext:∀ j,j ≠ π.next→(η.ext π.next σ.next) j=η j:=fun j hj=>by simp [Eta.ext,hj]
 have hnew:(η.ext π.next σ.next) π.next=some σ.next:=by simp [Eta.ext]
 have hlt:∀ j o' c,look π.heap j=some o'→η j=some c→c < σ.next:=by
  intro j o' c hj hc
  obtain ⟨a,_,ha,hlt,_⟩:=hs.obj j _ hj
  rw [hc] at ha;cases ha;exact hlt
 constructor
 ·intro k c hk
  dsimp only at hk ⊢
  rw [hget] at hk
  split at hk
  ·omega
  ·have:=hs.hn k c hk;omega
 ·intro k hk;have:=hs.fn k hk;dsimp only;omega
 ·intro j o' a hj ha
  rcases hold j o' hj with ⟨rfl,rfl⟩ | ⟨hne,hj⟩
  ·rw [hnew] at ha;cases ha
   exact fun h=>absurd (hs.fn _ h) (by omega)
  ·rw [hext j hne] at ha;exact hs.fo j _ a hj ha
 ·intro k us hk
  obtain ⟨hkn,c,hc,hr⟩:=hs.img k us hk
  refine ⟨by dsimp only;omega,c,?_,hr⟩
  dsimp only
  rw [hget,if_neg (by omega)];exact hc
 ·intro j a hj
  dsimp only
  by_cases h:j=π.next
  ·omega
  ·rw [hext j h] at hj;have:=hs.fresh j a hj;omega
 ·intro j o' hj
  rcases hold j o' hj with ⟨rfl,rfl⟩ | ⟨hne,hj⟩
  ·exact ⟨σ.next,b,hnew,by simp,by simp [hget],ho.mono (Img.le_refl _) hle⟩
  ·obtain ⟨a,c,ha,han,hc,hr⟩:=hs.obj j _ hj
   refine ⟨a,c,by rw [hext j hne];exact ha,by dsimp only;omega,?_,hr.mono (Img.le_refl _) hle⟩
   dsimp only
   rw [hget,if_neg (by omega)];exact hc
 ·intro j k oj ok a hj hk ha hb
  by_cases h1:j=π.next <;> by_cases h2:k=π.next
  ·omega
  ·rcases hold k ok hk with ⟨h,_⟩ | ⟨_,hk2⟩
   ·exact absurd h h2
   ·rw [h1,hnew] at ha;cases ha;rw [hext k h2] at hb;exact absurd (hlt k _ _ hk2 hb) (by omega)
  ·rcases hold j oj hj with ⟨h,_⟩ | ⟨_,hj2⟩
   ·exact absurd h h1
   ·rw [h2,hnew] at hb;cases hb;rw [hext j h1] at ha;exact absurd (hlt j _ _ hj2 ha) (by omega)
  ·rcases hold k ok hk with ⟨h,_⟩ | ⟨_,hk2⟩
   ·exact absurd h h2
   ·rcases hold j oj hj with ⟨h,_⟩ | ⟨_,hj2⟩
    ·exact absurd h h1
    ·rw [hext j h1] at ha;rw [hext k h2] at hb;exact hs.inj j k _ _ a hj2 hk2 ha hb
 ·intro j o' a hj ha
  rcases hold j o' hj with ⟨rfl,rfl⟩ | ⟨hne,hj⟩
  ·rw [hnew] at ha;cases ha
   cases hI:I σ.next with
   | none=>rfl
   | some us=>exact absurd (hs.img _ us hI).1 (by omega)
  ·rw [hext j hne] at ha;exact hs.sep j _ a hj ha
 ·intro j cs ty esz ex ret al a c hj ha hc k hk
  rcases hold j _ hj with ⟨rfl,rfl⟩ | ⟨hne,hj⟩
  ·rw [hnew] at ha;cases ha
   simp [hget] at hc
   obtain ⟨_,_,_,_,_,_,he,hal⟩:=hal c hc
   cases he
   obtain ⟨h1,h2,h2',h3⟩:=hal k hk
   refine ⟨by dsimp only;omega,h2,fun hf=>by dsimp only;rw [hget,if_neg (by omega)];exact h2' hf,fun m o' hm hcm=>?_⟩
   rcases hold m _ hm with ⟨rfl,rfl⟩ | ⟨hne',hm⟩
   ·rw [hnew] at hcm;cases hcm;omega
   ·rw [hext m hne'] at hcm;exact h3 m _ hm hcm
  ·rw [hext j hne] at ha
   have hal':=hlt j _ _ hj ha
   dsimp only at hc
   rw [hget,if_neg (by omega)] at hc
   obtain ⟨h1,h2,h2',h3⟩:=hs.al j _ _ _ _ _ _ _ _ hj ha hc k hk
   refine ⟨by dsimp only;omega,h2,fun hf=>by dsimp only;rw [hget,if_neg (by omega)];exact h2' hf,fun m o' hm hcm=>?_⟩
   rcases hold m _ hm with ⟨rfl,rfl⟩ | ⟨hne',hm⟩
   ·rw [hnew] at hcm;cases hcm;omega
   ·rw [hext m hne'] at hcm;exact h3 m _ hm hcm
end
end Go.Proofs.YtnpoloachkcadaaGreatDoor.Ai
namespace Go.Proofs.YtnpoloachkcadaaGreatDoor.Ai
open Go
set_option linter.unusedSimpArgs false
set_option linter.unusedVariables false
structure Ks.le (K K':Ks):Prop where
 call:∀ {f a σ r},K.call f a σ=some r→K'.call f a σ=some r
 yield:∀ {l a σ r},K.yield l a σ=some r→K'.yield l a σ=some r
theorem Ks.le_refl (K:Ks):K.le K:=⟨id,id⟩
section
variable {K K':Ks}
theorem callV_mono (h:K.le K') {f:Value} {a:List Value} {σ:AW} {r:IRet × AW} (hr:callV K f a σ=some r):callV K' f a σ=some r:=by
 unfold callV at hr ⊢
 split at hr
 ·exact h.call hr
 ·exact h.yield hr
 ·simp at hr
theorem runE_mono (h:K.le K') {e:List Value} {σ:AW} {q:EOp} {r:IRet × AW} (hr:runE K e σ q=some r):runE K' e σ q=some r:=by
 cases q with
 | call f args=>exact h.call hr
 | callv f args=>exact callV_mono h hr
 | invoke ms x args=>
  simp only [runE] at hr ⊢
  split at hr
  ·split at hr
   ·exact h.call hr
   ·simp at hr
  ·simp at hr
 | _=>exact hr
theorem runOp_mono (h:K.le K') {i:Nat} {e:List Value} {σ:AW} {q:IOp} {r:IRet × AW} (hr:runOp K i e σ q=some r):runOp K' i e σ q=some r:=by
 cases q with
 | e q=>exact runE_mono h hr
 | _=>exact hr
theorem runOps_mono (h:K.le K'):∀ {l:List IOper} {e:List Value} {σ:AW} {r:IExit × List Value × AW},runOps K l e σ=some r→runOps K' l e σ=some r
 | [],e,σ,r,hr=>hr
 | o::l,e,σ,r,hr=>by
  simp only [runOps] at hr ⊢
  split at hr
  ·rename_i hw
   rw [if_pos hw]
   split at hr
   ·rename_i v σ' ho
    rw [runOp_mono h ho]
    exact runOps_mono h hr
   ·simp at hr
   ·simp at hr
  ·rename_i hw
   rw [if_neg hw]
   exact runOps_mono h hr
theorem runDraw_mono (h:K.le K') {l:List IOper} {fin:DStage}:∀ {st:List DStage} {e:List Value} {σ:AW} {r:List Value × AW},runDraw K l fin st e σ=some r→runDraw K' l fin st e σ=some r
 | [],e,σ,r,hr=>hr
 | s::st,e,σ,r,hr=>by
  simp only [runDraw] at hr ⊢
  split at hr
  ·rename_i hc
   rw [if_pos hc]
   split at hr
   ·rename_i e1 γ hx
    try rw [hx]
    try dsimp only
    split at hr
    ·rename_i o ho
     try rw [ho]
     try dsimp only
     split at hr
     ·rename_i hw
      rw [if_pos hw]
      split at hr
      ·rename_i q hq
       split at hr
       ·rename_i v β' hv
        rw [runE_mono h hv]
        exact runDraw_mono h hr
       ·simp at hr
      ·simp at hr
     ·rename_i hw
      rw [if_neg hw]
      exact runDraw_mono h hr
    ·simp at hr
   ·simp at hr
  ·simp at hr
theorem loopN_mono {f g:Fr→AW→Option (IExit × Fr × AW)} (h:∀ e σ r,f e σ=some r→g e σ=some r):∀ {n m:Nat},n≤m→∀ {e:Fr} {σ:AW} {r:IExit × Fr × AW},loopN f n e σ=some r→loopN g m e σ=some r
 | 0,_,_,e,σ,r,hr=>by simp [loopN] at hr
 | n + 1,0,hm,e,σ,r,hr=>by omega
 | n + 1,m + 1,hm,e,σ,r,hr=>by
  simp only [loopN] at hr ⊢
  split at hr
  ·rename_i e' σ' hf
   rw [h _ _ _ hf]
   exact loopN_mono h (Nat.le_of_succ_le_succ hm) hr
  ·rename_i hn
   rw [h _ _ _ hr]
   obtain ⟨x,e',σ'⟩:=r
   cases x <;> first | rfl | (exact (hn _ _ hr).elim)
theorem evC_mono (h:K.le K') {n m:Nat} (hm:n≤m) {rnd:Option Nat}:∀ {c:ICode} {e:Fr} {σ:AW} {r:IExit × Fr × AW},evC K n rnd c e σ=some r→evC K' m rnd c e σ=some r
 | .skip,e,σ,r,hr=>hr
 | .ops l,e,σ,r,hr=>by
  simp only [evC,Option.map_eq_some_iff] at hr ⊢
  obtain ⟨a,ha,rfl⟩:=hr
  exact ⟨a,runOps_mono h ha,rfl⟩
 | .draw l st fin,e,σ,r,hr=>by
  simp only [evC,Option.map_eq_some_iff] at hr ⊢
  obtain ⟨a,ha,rfl⟩:=hr
  exact ⟨a,runDraw_mono h ha,rfl⟩
 | .seq a b,e,σ,r,hr=>by
  simp only [evC] at hr ⊢
  split at hr
  ·rename_i e' σ' ha
   rw [evC_mono h hm ha]
   exact evC_mono h hm hr
  ·rename_i hn
   have:=evC_mono h hm hr
   rw [this]
   obtain ⟨x,e',σ'⟩:=r
   cases x <;> first | rfl | (exact (hn _ _ hr).elim)
 | .cond c a b,e,σ,r,hr=>by
  simp only [evC] at hr ⊢
  split at hr
  ·exact evC_mono h hm hr
  ·exact evC_mono h hm hr
  ·simp at hr
 | .block id b,e,σ,r,hr=>by
  simp only [evC] at hr ⊢
  split at hr
  ·rename_i i e' σ' ha
   rw [evC_mono h hm ha]
   exact hr
  ·rename_i hn
   rw [evC_mono h hm hr]
   obtain ⟨x,e',σ'⟩:=r
   cases x <;> first | rfl | (exact (hn _ _ _ hr).elim)
 | .loop b,e,σ,r,hr=>by
  simp only [evC] at hr ⊢
  exact loopN_mono (fun e σ r hf=>evC_mono h hm hf) hm hr
 | .rangeF f ps as bo,e,σ,r,hr=>by
  simp only [evC,Option.bind_eq_some_iff] at hr ⊢
  obtain ⟨⟨d,mk,σ1⟩,h1,⟨l,σ2⟩,h2,hr⟩:=hr
  refine ⟨⟨d,mk,σ1⟩,h1,⟨l,σ2⟩,h2,?_⟩
  dsimp only at hr ⊢
  split at hr
  ·rename_i v σ3 hc
   rw [callV_mono h hc]
   exact hr
  ·simp at hr
 | .exit id,e,σ,r,hr=>hr
 | .ret,e,σ,r,hr=>hr
 | .bad,e,σ,r,hr=>by simp [evC] at hr
end
end Go.Proofs.YtnpoloachkcadaaGreatDoor.Ai
namespace Go.Proofs.YtnpoloachkcadaaGreatDoor.Ai
open Go
set_option linter.unusedSimpArgs false
set_option linter.unusedVariables false
structure Ent where
 f:FuncId
 a:List Value
 s:AW
 v:Value
 s':AW
 y:Bool
structure Ctx where
 P:Program
 ng:Nat
 ts:List TypeId
 N0:Bs
 G:PG
def YTo (P:Program) (ng:Nat) (ts:List TypeId) (N0:Bs) (l:Nat) (args:List Value) (σ:AW) (v:Value) (σ':AW):Prop:=
 ∀ {μ w},Rep P ng ts N0 μ σ w→ltL σ.next args=true→∃ fn tm as bo,(Instr.yield (μ l).blk ⟨concL μ args⟩).run P w = .ok (.round (μ l).blk fn tm as bo) w∧
  CallOK P ng ts N0 (fun μ=>Frame.round (μ l).blk fn tm as bo .normal) σ v σ' μ w
noncomputable def KL (L:Nat→Option Ent):Ks:=by
 classical exact {call:=fun f a σ=>match L σ.next with | some E=>if E.y=false∧f=E.f∧a=E.a∧σ=E.s then some (.ret E.v,E.s') else none | none=>none,yield:=fun f a σ=>match L σ.next with | some E=>if E.y=true∧f=E.f∧a=E.a∧σ=E.s then some (.ret E.v,E.s') else none | none=>none }
def EOK (C:Ctx) (E:Ent):Prop:=(E.y=false→CTo C.P C.ng C.ts C.N0 E.f E.a E.s E.v E.s')∧(E.y=true→YTo C.P C.ng C.ts C.N0 E.f E.a E.s E.v E.s')
def LOK (C:Ctx) (L:Nat→Option Ent):Prop:=∀ n E,L n=some E→EOK C E
def LB (L:Nat→Option Ent) (a b:Nat):Prop:=∀ n E,L n=some E→a≤n∧n < b
def Lcat (m:Nat) (L M:Nat→Option Ent):Nat→Option Ent:=fun n=>if n < m then L n else M n
def Lno:Nat→Option Ent:=fun _=>none
def Lone (E:Ent):Nat→Option Ent:=fun n=>if n=E.s.next then some E else none
section
variable {C:Ctx} {L M:Nat→Option Ent}
theorem KL_sound (h:LOK C L):KSound C.P C.ng C.ts C.N0 (KL L):=by
 constructor
 ·intro f a σ v σ' hc
  simp only [KL] at hc
  split at hc
  ·rename_i E hE
   split at hc
   ·rename_i he
    obtain ⟨hy,rfl,rfl,rfl⟩:=he
    simp at hc
    obtain ⟨rfl,rfl⟩:=hc
    exact ⟨((h _ _ hE).1 hy).fn,((h _ _ hE).1 hy).ok⟩
   ·simp at hc
  ·simp at hc
 ·intro l a σ v σ' hc
  simp only [KL] at hc
  split at hc
  ·rename_i E hE
   split at hc
   ·rename_i he
    obtain ⟨hy,rfl,rfl,rfl⟩:=he
    simp at hc
    obtain ⟨rfl,rfl⟩:=hc
    exact (h _ _ hE).2 hy
   ·simp at hc
  ·simp at hc
theorem KL_le (h:∀ n E,L n=some E→M n=some E):(KL L).le (KL M):=by
 constructor
 ·intro f a σ r hc
  simp only [KL] at hc ⊢
  split at hc
  ·rename_i E hE
   rw [h _ _ hE]
   exact hc
  ·simp at hc
 ·intro l a σ r hc
  simp only [KL] at hc ⊢
  split at hc
  ·rename_i E hE
   rw [h _ _ hE]
   exact hc
  ·simp at hc
theorem LOK.no:LOK C Lno:=fun n E h=>by simp [Lno] at h
theorem LB.no (a b:Nat):LB Lno a b:=fun n E h=>by simp [Lno] at h
theorem LOK.cat (h:LOK C L) (h':LOK C M) (m:Nat):LOK C (Lcat m L M):=by
 intro n E hE
 simp only [Lcat] at hE
 split at hE
 ·exact h n E hE
 ·exact h' n E hE
theorem LB.cat {a m b:Nat} (h:LB L a m) (h':LB M m b) (h1:a≤m) (h2:m≤b):LB (Lcat m L M) a b:=by
 intro n E hE
 simp only [Lcat] at hE
 split at hE
 ·have:=h n E hE;omega
 ·have:=h' n E hE;omega
theorem KL_left {a m:Nat} (h:LB L a m):(KL L).le (KL (Lcat m L M)):=KL_le fun n E hE=>by
 have:=h n E hE
 simp only [Lcat];rw [if_pos (by omega)];exact hE
theorem KL_right {m b:Nat} (h:LB M m b):(KL M).le (KL (Lcat m L M)):=KL_le fun n E hE=>by
 have:=h n E hE
 simp only [Lcat];rw [if_neg (by omega)];exact hE
theorem KL_one (E:Ent) (hy:E.y=false):(KL (Lone E)).call E.f E.a E.s=some (.ret E.v,E.s'):=by simp [KL,Lone,hy]
theorem KL_oneY (E:Ent) (hy:E.y=true):(KL (Lone E)).yield E.f E.a E.s=some (.ret E.v,E.s'):=by simp [KL,Lone,hy]
theorem LB.one (E:Ent) {b:Nat} (h:E.s.next < b):LB (Lone E) E.s.next b:=by
 intro n F hF
 simp only [Lone] at hF
 split at hF
 ·omega
 ·simp at hF
theorem LOK.one {f:FuncId} {a:List Value} {s s':AW} {v:Value} (h:CTo C.P C.ng C.ts C.N0 f a s v s'):LOK C (Lone ⟨f,a,s,v,s',false⟩):=by
 intro n F hF
 simp only [Lone] at hF
 split at hF
 ·simp at hF;subst hF;exact ⟨fun _=>h,fun h=>absurd h (by simp)⟩
 ·simp at hF
theorem LOK.oneY {f:Nat} {a:List Value} {s s':AW} {v:Value} (h:YTo C.P C.ng C.ts C.N0 f a s v s'):LOK C (Lone ⟨f,a,s,v,s',true⟩):=by
 intro n F hF
 simp only [Lone] at hF
 split at hF
 ·simp at hF;subst hF;exact ⟨fun h=>absurd h (by simp),fun _=>h⟩
 ·simp at hF
end
def AW.bump (σ:AW):AW:={σ with next:=σ.next + 1 }
section
variable {P:Program} {ng:Nat} {ts:List TypeId} {N0:Bs} {μ μ':Nat→Loc} {σ σ':AW} {w w':World}
theorem Rep.bump (h:Rep P ng ts N0 μ σ w):Rep P ng ts N0 μ σ.bump w:=
 ⟨h.glob,Nat.le_succ_of_le h.ngn,fun i b hi=>⟨Nat.lt_succ_of_lt (h.blk i b hi).1,(h.blk i b hi).2.1,(h.blk i b hi).2.2.mono (fun _ _=>rfl) (h.blk i b hi).1 (Nat.le_succ _) rfl⟩,h.own,h.ro,h.dis,h.al,h.big⟩
theorem Goes.bump (h:Goes μ σ w μ' σ' w'):Goes μ σ w μ' σ'.bump w':=⟨Nat.le_succ_of_le h.next,h.agr,h.os,h.tape,h.output,h.size,h.keep,h.fresh⟩
theorem YTo.bump {f:Nat} {args:List Value} {v:Value} (h:YTo P ng ts N0 f args σ v σ'):YTo P ng ts N0 f args σ v σ'.bump:=by
 intro μ w hr ha
 obtain ⟨fn,tm,as,bo,h1,h2⟩:=h hr ha
 refine ⟨fn,tm,as,bo,h1,fun c cs=>?_⟩
 obtain ⟨μ1,w1,r1,g1,h3,h4⟩:=h2 c cs
 exact ⟨μ1,w1,r1.bump,g1.bump,lt_mono (Nat.le_succ _) _ h3,h4⟩
theorem CTo.bump {f:FuncId} {args:List Value} {v:Value} (h:CTo P ng ts N0 f args σ v σ'):CTo P ng ts N0 f args σ v σ'.bump:=by
 refine ⟨h.fn,fun hr ha c cs=>?_⟩
 obtain ⟨μ1,w1,r1,g1,h3,h4⟩:=h.ok hr ha c cs
 exact ⟨μ1,w1,r1.bump,g1.bump,lt_mono (Nat.le_succ _) _ h3,h4⟩
end
structure Fol (F:Nat→Prop) (b:Nat) (I:Img) (η:Eta) (σ:AW) (I':Img) (η':Eta) (σ':AW):Prop where
 next:σ.next≤σ'.next
 fr:∀ i,F i→σ'.heap.get i=σ.heap.get i∧I' i=I i
 im:I.le I'
 et:∀ j,j < b→η' j=η j
section
variable {F:Nat→Prop} {b:Nat} {I I1 I2:Img} {η η1 η2:Eta} {σ σ1 σ2:AW}
theorem Fol.refl:Fol F b I η σ I η σ:=⟨Nat.le_refl _,fun _ _=>⟨rfl,rfl⟩,Img.le_refl _,fun _ _=>rfl⟩
theorem Fol.trans (h:Fol F b I η σ I1 η1 σ1) (k:Fol F b I1 η1 σ1 I2 η2 σ2):Fol F b I η σ I2 η2 σ2:=
 ⟨Nat.le_trans h.next k.next,fun i hi=>⟨(k.fr i hi).1.trans (h.fr i hi).1,(k.fr i hi).2.trans (h.fr i hi).2⟩,Img.le_trans h.im k.im,fun j hj=>(k.et j hj).trans (h.et j hj)⟩
end
mutual
def pureP:PV→Bool
 | .loc _ _ _ _ | .ptr _ _ | .map _ | .yld _=>false
 | .fn _ a b=>pureL a && pureL b
 | .iface _ p=>pureP p
 | .agg l=>pureL l
 | .tup l=>pureL l
 | _=>true
def pureL:List PV→Bool
 | []=>true
 | p::l=>pureP p && pureL l
end
mutual
theorem Rd.toPure {I:Img} {η:Eta}:∀ {p:PV} {v:Value},pureP p=true→Rd I η p v→Rd I noE p v
 | .junk,v,_,_=>by simp [Rd]
 | .lit u,v,_,h=>by simpa [Rd] using h
 | .sl cs n,v,_,h=>by simpa [Rd] using h
 | .sz cs n,v,_,h=>by simpa [Rd] using h
 | .ref cs,v,_,h=>by simpa [Rd] using h
 | .loc _ _ _ _,v,hp,_=>by simp [pureP] at hp
 | .ptr _ _,v,hp,_=>by simp [pureP] at hp
 | .map _,v,hp,_=>by simp [pureP] at hp
 | .yld _,v,hp,_=>by simp [pureP] at hp
 | .fn f a b,v,hp,h=>by
  simp only [pureP,Bool.and_eq_true] at hp
  simp only [Rd] at h ⊢
  obtain ⟨x,y,h1,h2,h3⟩:=h
  exact ⟨x,y,h1,RdL.toPure hp.1 h2,RdL.toPure hp.2 h3⟩
 | .iface t p,v,hp,h=>by
  simp only [pureP] at hp
  simp only [Rd] at h ⊢
  obtain ⟨x,h1,h2⟩:=h
  exact ⟨x,h1,Rd.toPure hp h2⟩
 | .agg l,v,hp,h=>by
  simp only [pureP] at hp
  simp only [Rd] at h ⊢
  obtain ⟨x,h1,h2⟩:=h
  exact ⟨x,h1,RdL.toPure hp h2⟩
 | .tup l,v,hp,h=>by
  simp only [pureP] at hp
  simp only [Rd] at h ⊢
  obtain ⟨x,h1,h2⟩:=h
  exact ⟨x,h1,RdL.toPure hp h2⟩
 | .sp cs n m,v,_,h=>by simpa [Rd] using h
theorem RdL.toPure {I:Img} {η:Eta}:∀ {p:List PV} {v:List Value},pureL p=true→RdL I η p v→RdL I noE p v
 | [],[],_,_=>by simp [RdL]
 | p::ps,v::vs,hp,h=>by
  simp only [pureL,Bool.and_eq_true] at hp
  simp only [RdL] at h ⊢
  exact ⟨Rd.toPure hp.1 h.1,RdL.toPure hp.2 h.2⟩
 | [],_::_,_,h=>by simp [RdL] at h
 | _::_,[],_,h=>by simp [RdL] at h
end
def PW.none:PW:=⟨0,[]⟩
def PTo (C:Ctx) (f:FuncId) (args:List PV) (π:PW) (A:PV→PW→Prop):Prop:=
 ∀ F I η σ vargs,GRd I noE C.G→SRel F I η π σ→RdL I η args vargs→∃ v σ' I' η' r π',CTo C.P C.ng C.ts C.N0 f vargs σ v σ'∧Fol F 0 I η σ I' η' σ'∧η.le η'∧(∀ j,j < π.next→η' j=η j)∧SRel F I' η' π' σ'∧Rd I' η' r v∧A r π'
def PFun (C:Ctx) (f:FuncId) (args:List PV) (r:PV):Prop:=
 ∀ F I σ vargs,GRd I noE C.G→SRel F I noE .none σ→RdL I noE args vargs→∃ v σ' I',CTo C.P C.ng C.ts C.N0 f vargs σ v σ'∧Fol F 0 I noE σ I' noE σ'∧SRel F I' noE .none σ'∧Rd I' noE r v
section
variable {C:Ctx} {f:FuncId} {args:List PV} {r:PV} {F:Nat→Prop} {I:Img} {η:Eta} {π:PW} {σ:AW}
theorem SRel.none (h:SRel F I η π σ) (F':Nat→Prop) (hF:∀ i,F' i→i < σ.next):SRel F' I noE .none σ:=
 ⟨h.hn,hF,fun j o a hj=>by simp [PW.none,look] at hj,h.img,fun j a ha=>by simp at ha,fun j o hj=>by simp [PW.none,look] at hj,fun j k oj ok a hj=>by simp [PW.none,look] at hj,fun j o a hj=>by simp [PW.none,look] at hj,
  fun j cs ty esz ex ret al a b hj=>by simp [PW.none,look] at hj⟩
theorem SRel.bump (h:SRel F I η π σ):SRel F I η π σ.bump:=
 ⟨fun i b hi=>Nat.lt_succ_of_lt (h.hn i b hi),fun i hi=>Nat.lt_succ_of_lt (h.fn i hi),h.fo,fun i vs hi=>⟨Nat.lt_succ_of_lt (h.img i vs hi).1,(h.img i vs hi).2⟩,h.fresh,
  fun j o hj=>by obtain ⟨a,b,h1,h2,h3⟩:=h.obj j o hj;exact ⟨a,b,h1,Nat.lt_succ_of_lt h2,h3⟩,h.inj,h.sep,
  fun j cs ty esz ex ret al a b hj ha hb i hi=>by obtain ⟨h1,h2⟩:=h.al j cs ty esz ex ret al a b hj ha hb i hi;exact ⟨Nat.lt_succ_of_lt h1,h2⟩⟩
theorem PFun.use (h:PFun C f args r) (hp:pureL args=true) (hG:GRd I noE C.G) (hs:SRel F I η π σ) {vargs:List Value} (ha:RdL I η args vargs) :
  ∃ v σ' I',CTo C.P C.ng C.ts C.N0 f vargs σ v σ'∧(σ.next < σ'.next∧I.le I'∧(∀ i,i < σ.next→σ'.heap.get i=σ.heap.get i∧I' i=I i))∧SRel F I' η π σ'∧Rd I' η r v:=by
 obtain ⟨v,σ',I',h1,h2,h3,h4⟩:=h (fun i=>i < σ.next) I σ vargs hG (hs.none _ (fun _ h=>h)) (ha.toPure hp)
 refine ⟨v,σ'.bump,I',h1.bump,⟨Nat.lt_succ_of_le h2.next,h2.im,h2.fr⟩,?_,h4.pure⟩
 have hlt:∀ j o a,look π.heap j=some o→η j=some a→a < σ.next:=by
  intro j o a hj ha
  obtain ⟨a',_,ha',hl,_⟩:=hs.obj j o hj
  rw [ha] at ha';cases ha';exact hl
 constructor
 ·intro i b hi;exact Nat.lt_succ_of_lt (h3.hn i b hi)
 ·intro i hi;exact Nat.lt_succ_of_le (Nat.le_trans (Nat.le_of_lt (hs.fn i hi)) h2.next)
 ·exact hs.fo
 ·intro i vs hi
  obtain ⟨g1,g2⟩:=h3.img i vs hi
  exact ⟨Nat.lt_succ_of_lt g1,g2⟩
 ·exact hs.fresh
 ·intro j o hj
  obtain ⟨a,b,ha,hl,hb,ho⟩:=hs.obj j o hj
  exact ⟨a,b,ha,Nat.lt_succ_of_le (Nat.le_trans (Nat.le_of_lt hl) h2.next),by show σ'.heap.get a=_;rw [(h2.fr a hl).1];exact hb,ho.mono h2.im (Eta.le_refl _)⟩
 ·exact hs.inj
 ·intro j o a hj ha
  rw [(h2.fr a (hlt j o a hj ha)).2];exact hs.sep j o a hj ha
 ·intro j cs ty esz ex ret al a b hj ha hb i hi
  have hl:=hlt j _ a hj ha
  have hb':σ.heap.get a=some (.cells b):=by rw [← (h2.fr a hl).1];exact hb
  obtain ⟨g1,g2,g3,g4⟩:=hs.al j _ _ _ _ _ _ _ _ hj ha hb' i hi
  exact ⟨Nat.lt_succ_of_le (Nat.le_trans (Nat.le_of_lt g1) h2.next),by rw [(h2.fr i g1).2];exact g2,fun hf=>by show σ'.heap.get i=none;rw [(h2.fr i g1).1];exact g3 hf,g4⟩
end
end Go.Proofs.YtnpoloachkcadaaGreatDoor.Ai
namespace Go.Proofs.YtnpoloachkcadaaGreatDoor.Ai
open Go
set_option linter.unusedSimpArgs false
set_option linter.unusedVariables false
section
variable {F:Nat→Prop} {I:Img} {η:Eta} {G:PG} {e:List PV} {env:List Value} {π π':PW} {σ:AW}
theorem upd_sim (hs:SRel F I η π σ) {i a:Nat} {o0 o:PObj} {b0 b:Blk} (hl:look π.heap i=some o0) (ha:η i=some a) (hb0:σ.heap.get a=some b0) (ho:ORd I η o b)
  (hal:∀ c,b = .cells c→∃ c0 cs ty esz ex ret al cs0 ty0 esz0 ex0 ret0,b0 = .cells c0∧c.al=c0.al∧o = .cells cs ty esz ex ret al∧o0 = .cells cs0 ty0 esz0 ex0 ret0 al) :
  SRel F I η {π with heap:=setO π.heap i o } {σ with heap:=σ.heap.set a b }:=by
 have han:=hs.hn a b0 hb0
 have hget:∀ k,(σ.heap.set a b).get k=if k=a then some b else σ.heap.get k:=fun k=>Tr.get_set _ _ _ _ (Nat.lt_succ_self _)
 have hlk:∀ j o',look (setO π.heap i o) j=some o'→(j=i∧o'=o)∨(j ≠ i∧look π.heap j=some o'):=by
  intro j o' hj
  rw [look_setO] at hj
  split at hj
  ·rename_i h;subst h;rw [hl] at hj;simp at hj;exact .inl ⟨rfl,hj.symm⟩
  ·rename_i h;exact .inr ⟨h,hj⟩
 have hlk':∀ j o',look (setO π.heap i o) j=some o'→∃ o'',look π.heap j=some o'':=by
  intro j o' hj
  rcases hlk j o' hj with ⟨rfl,_⟩ | ⟨_,h⟩
  ·exact ⟨_,hl⟩
  ·exact ⟨_,h⟩
 constructor
 ·intro k c hk
  dsimp only at hk ⊢
  rw [hget] at hk
  split at hk
  ·rename_i h;subst h;exact han
  ·exact hs.hn k c hk
 ·exact hs.fn
 ·intro j o' c hj hc
  obtain ⟨o'',h⟩:=hlk' j o' hj
  exact hs.fo j o'' c h hc
 ·intro k us hk
  obtain ⟨hkn,c,hc,hr⟩:=hs.img k us hk
  refine ⟨hkn,c,?_,hr⟩
  dsimp only
  rw [hget,if_neg (fun h=>by subst h;rw [hs.sep i _ _ hl ha] at hk;simp at hk)];exact hc
 ·exact hs.fresh
 ·intro j o' hj
  dsimp only at hj ⊢
  rcases hlk j o' hj with ⟨rfl,rfl⟩ | ⟨hne,hj⟩
  ·exact ⟨a,b,ha,han,by simp [hget],ho⟩
  ·obtain ⟨c,bc,hc,hlt,hbc,hoc⟩:=hs.obj j _ hj
   refine ⟨c,bc,hc,hlt,?_,hoc⟩
   rw [hget,if_neg (fun h=>by subst h;exact hne (hs.inj j i _ _ _ hj hl hc ha))];exact hbc
 ·intro j k oj ok c hj hk hcj hck
  obtain ⟨_,h8⟩:=hlk' j _ hj
  obtain ⟨_,h9⟩:=hlk' k _ hk
  exact hs.inj j k _ _ c h8 h9 hcj hck
 ·intro j o' c hj hc
  obtain ⟨_,h8⟩:=hlk' j _ hj
  exact hs.sep j _ c h8 hc
 ·intro j cs ty esz ex ret al c bc hj hc hbc k hk
  dsimp only at hj hbc
  rcases hlk j _ hj with ⟨rfl,h1⟩ | ⟨hne,hj⟩
  ·rw [ha] at hc;cases hc
   rw [hget,if_pos rfl] at hbc
   simp only [Option.some.injEq] at hbc
   obtain ⟨c0,cs1,ty1,esz1,ex1,ret1,al1,cs0,ty0,esz0,ex0,ret0,h2,h3,h4,h5⟩:=hal bc hbc
   rw [h4] at h1
   cases h1
   subst h2 h5
   rw [h3] at hk
   obtain ⟨g1,g2,g3,g4⟩:=hs.al j _ _ _ _ _ _ _ _ hl ha hb0 k hk
   refine ⟨g1,g2,fun hf=>by dsimp only;rw [hget,if_neg (fun e=>by subst e;exact hs.fo _ _ _ hl ha hf)];exact g3 hf,fun m o' hm hcm=>?_⟩
   obtain ⟨_,h10⟩:=hlk' m _ hm
   exact g4 m _ h10 hcm
  ·rw [hget,if_neg (fun h=>by subst h;exact hne (hs.inj j i _ _ _ hj hl hc ha))] at hbc
   obtain ⟨g1,g2,g3,g4⟩:=hs.al j _ _ _ _ _ _ _ _ hj hc hbc k hk
   refine ⟨g1,g2,fun hf=>by dsimp only;rw [hget,if_neg (fun e=>by subst e;exact hs.fo _ _ _ hl ha hf)];exact g3 hf,fun m o' hm hcm=>?_⟩
   obtain ⟨_,h10⟩:=hlk' m _ hm
   exact g4 m _ h10 hcm
theorem kill_sim (hs:SRel F I η π σ) {l:List Nat} {lp:List Nat} (h:∀ k∈l,I k=none∧∀ m o,look π.heap m=some o→η m=some k→m∈lp) :
  SRel F I η {π with heap:=killO lp π.heap } {σ with heap:=killAll l σ.heap }:=by
 have hlk:∀ j o',look (killO lp π.heap) j=some o'→j∉lp∧look π.heap j=some o':=by
  intro j o' hj
  rw [look_killO] at hj
  split at hj
  ·simp at hj
  ·rename_i h;exact ⟨h,hj⟩
 have hgo:∀ k b,(killAll l σ.heap).get k=some b→σ.heap.get k=some b:=by
  intro k b hb
  rw [kills] at hb
  split at hb
  ·simp at hb
  ·exact hb
 constructor
 ·intro k c hk;exact hs.hn k c (hgo k c hk)
 ·exact hs.fn
 ·intro j o c hj hc;exact hs.fo j o c (hlk j o hj).2 hc
 ·intro k us hk
  obtain ⟨hkn,c,hc,hr⟩:=hs.img k us hk
  refine ⟨hkn,c,?_,hr⟩
  dsimp only
  rw [kills,if_neg (fun hm=>by rw [(h k hm).1] at hk;simp at hk)];exact hc
 ·exact hs.fresh
 ·intro j o hj
  obtain ⟨hn,hj⟩:=hlk j o hj
  obtain ⟨c,bc,hc,hlt,hbc,hoc⟩:=hs.obj j _ hj
  refine ⟨c,bc,hc,hlt,?_,hoc⟩
  dsimp only
  rw [kills,if_neg (fun hm=>hn ((h c hm).2 j _ hj hc))];exact hbc
 ·intro j k oj ok c hj hk;exact hs.inj j k _ _ c (hlk j _ hj).2 (hlk k _ hk).2
 ·intro j o c hj hc;exact hs.sep j _ c (hlk j _ hj).2 hc
 ·intro j cs ty esz ex ret al c bc hj hc hbc k hk
  obtain ⟨g1,g2,g3,g4⟩:=hs.al j _ _ _ _ _ _ _ _ (hlk j _ hj).2 hc (hgo _ _ hbc) k hk
  exact ⟨g1,g2,fun hf=>by
   dsimp only
   rw [kills]
   split
   ·rfl
   ·exact g3 hf,fun m o hm hcm=>g4 m o (hlk m _ hm).2 hcm⟩
end
def lenP:PV→Option Nat
 | .lit (.slice none n _)=>some n
 | .lit (.string s)=>some s.size
 | .sl _ n=>some n
 | .sz _ n=>some n
 | .loc _ _ n _=>some n
 | _=>none
def srcP (π:PW) (esz:Nat) (x:PV) (n:Nat):Option (List PV):=
 match x with
 | .lit (.slice none _ _)=>if n=0 then some [] else none
 | .lit (.string s)=>if esz=1∧n≤s.size then some (ofVs ((strCells s).take n)) else none
 | .sl cs _=>cutP (n * esz) cs
 | .sz cs m=>if n≤m then cutP (n * esz) cs else none
 | .loc i off _ _=>(π.cs? i).bind fun cs=>cutP (n * esz) (cs.drop off)
 | _=>none
def PW.push (π:PW) (o:PObj):PW:={next:=π.next + 1,heap:=(π.next,o)::π.heap }
def appendP (π:PW) (t:TypeId) (esz bytes:Nat) (s:PV) (new:List PV) (n:Nat):Option (PV × PW):=
 match s with
 | .lit (.slice none len cap)=>
  if len + n≤cap then (if n=0 then some (s,π) else none)
  else if (2 * (len + n) + 768) * bytes > 140737488355328 then none
  else if !allPlain new || len != 0 then none
  else some (.loc π.next 0 n n,π.push (.cells new t esz false false []))
 | .loc i off len cap=>
  if len + n≤cap then
   if n=0 then some (s,π) else (π.wr i (off + len * esz) new).map fun π'=>(.loc i off (len + n) cap,π')
  else if (2 * (len + n) + 768) * bytes > 140737488355328 then none
  else if !allPlain new then none
  else
   match look π.heap i with
   | some (.cells cs ty esz' ex ret al)=>
    match cutP (len * esz) (cs.drop off) with
    | none=>none
    | some old=>
     if ex then some (.loc π.next 0 (len + n) (len + n),π.push (.cells (old++new) t esz false false []))
     else if ret || off + cap * esz != cs.length || esz != esz' || t != ty then none
     else if len=cap then
      some (.loc π.next 0 (len + n) (len + n),{π with heap:=setO π.heap i (.cells cs ty esz' ex true al) }.push (.cells (old++new) t esz false false (i::al)))
     else
      some (.loc π.next 0 (len + n) (len + n),{π with heap:=killO (i::al) π.heap }.push (.cells (old++new) t esz false false []))
   | _=>none
 | _=>none
def eqK:Value→Value→Option Bool
 | .string a,.string b=>some (a == b)
 | .int j a,.int k b=>if j=k then some (a == b) else none
 | _,_=>none
def ktK:EqT→Value→Bool
 | .str,.string _=>true
 | .int,.int _ _=>true
 | _,_=>false
def findM (u:Value):List (PV × PV × Nat)→Nat→Option (Option (Nat × PV × Nat))
 | [],_=>some none
 | (.lit u',v,c)::l,i=>
  match eqK u u' with
  | some true=>some (some (i,v,c))
  | some false=>findM u l (i + 1)
  | none=>none
 | _::_,_=>none
def setM (es:List (PV × PV × Nat)) (i:Nat) (v:PV):List (PV × PV × Nat):=
 match es,i with
 | [],_=>[]
 | (k,_,c)::l,0=>(k,v,c)::l
 | x::l,i + 1=>x::setM l i v
def findC (b:Int):List (PV × PV × Nat)→Nat→Option Nat
 | [],_=>none
 | (_,_,c)::l,i=>if (c:Int) == b then some i else findC b l (i + 1)
def pevE (G:PG) (e:List PV) (π:PW):EOp→Option (PV × PW)
 | .st n a x=>
  match a.pv G e with
  | .ptr i off=>
   match x.pv G e with
   | .agg l=>if l.length=n then (π.wr i off l).map fun π'=>(.junk,π') else none
   | p=>if plainP p && n == 1 then (π.wr i off [p]).map fun π'=>(.junk,π') else none
  | _=>none
 | .append t esz bytes _ s x=>
  match lenP (x.pv G e) with
  | some n=>(srcP π esz (x.pv G e) n).bind fun new=>appendP π t esz bytes (s.pv G e) new n
  | none=>none
 | .appendZ t esz bytes zero s n=>
  match n.pv G e with
  | .lit (.int _ l)=>
   if 0≤IntKind.i64.wrap l∧IntKind.i64.wrap l≤140737488355328∧IntKind.i64.wrap l * bytes≤140737488355328∧ltL 0 zero=true then
    appendP π t esz bytes (s.pv G e) (List.replicate (IntKind.i64.wrap l).toNat (ofVs zero)).flatten (IntKind.i64.wrap l).toNat
   else none
  | _=>none
 | .copy esz d s=>
  match d.pv G e with
  | .loc i off dl _=>
   match lenP (s.pv G e) with
   | some n=>(srcP π esz (s.pv G e) (Nat.min n dl)).bind fun cs=>(π.wr i off cs).map fun π'=>(.lit (.int .i64 (Nat.min n dl:Nat)),π')
   | none=>none
  | _=>none
 | .mapUpd kt m k v=>
  match m.pv G e with
  | .map i=>
   match look π.heap i with
   | some (.map es clock)=>
    match k.pv G e with
    | .lit u=>
     if ktK kt u then
      match findM u es 0 with
      | some (some (j,_,_))=>some (.junk,{π with heap:=setO π.heap i (.map (setM es j (v.pv G e)) clock) })
      | some none=>some (.junk,{π with heap:=setO π.heap i (.map (es++[(.lit u,v.pv G e,clock)]) (clock + 1)) })
      | none=>none
     else none
    | _=>none
   | _=>none
  | _=>none
 | .mapEnt kt zero m k=>
  match m.pv G e with
  | .map i=>
   match look π.heap i with
   | some (.map es clock)=>
    match k.pv G e with
    | .lit u=>
     if ktK kt u && lt 0 zero then
      match findM u es 0 with
      | some (some (_,v,c))=>some (.tup [v,.lit (.int .i64 (c:Nat))],π)
      | some none=>some (.tup [ofV zero,.lit (.int .i64 (clock:Nat))],{π with heap:=setO π.heap i (.map (es++[(.lit u,ofV zero,clock)]) (clock + 1)) })
      | none=>none
     else none
    | _=>none
   | _=>none
  | _=>none
 | .entSt m s x=>
  match m.pv G e with
  | .map i=>
   match look π.heap i with
   | some (.map es clock)=>
    match s.pv G e with
    | .lit (.int _ b)=>
     match findC b es 0 with
     | some j=>some (.junk,{π with heap:=setO π.heap i (.map (setM es j (x.pv G e)) clock) })
     | none=>none
    | _=>none
   | _=>none
  | _=>none
 | .s2b t x=>
  match x.pv G e with
  | .lit (.string s)=>some (.loc π.next 0 s.size s.size,π.push (.cells (ofVs (strCells s)) t 1 false false []))
  | _=>none
 | .sdata x=>
  match x.pv G e with
  | .lit (.slice none _ _)=>some (.lit (.pointer none),π)
  | .loc i off _ c=>if c=0 then none else some (.ptr i off,π)
  | _=>none
 | .ustr t x n=>
  match x.pv G e with
  | .ptr i off=>
   match n.pv G e with
   | .lit (.int _ n)=>
    if n=0 then some (.lit (.string .empty),π)
    else if n < 0∨n > 140737488355328 then none
    else
     match look π.heap i with
     | some (.cells cs ty _ _ ret al)=>
      if ret || ty != t then none else (cutP n.toNat (cs.drop off)).bind fun l=>(bytesP l).map fun b=>(.lit (.string ⟨⟨b⟩⟩),{π with heap:=killO (i::al) π.heap })
     | _=>none
   | _=>none
  | .lit (.pointer none)=>
   match n.pv G e with
   | .lit (.int _ n)=>if n=0 then some (.lit (.string .empty),π) else none
   | _=>none
  | _=>none
 | _=>none
section
variable {F:Nat→Prop} {I:Img} {η:Eta} {G:PG} {e:List PV} {env:List Value} {π π':PW} {σ:AW}
theorem lenP_sim {p:PV} {v:Value} {n:Nat} (h:Rd I η p v) (hl:lenP p=some n):lenV v=some n:=by
 unfold lenP at hl
 split at hl <;> simp only [Rd,Option.some.injEq,reduceCtorEq] at h hl
 ·obtain ⟨rfl,_⟩:=h;subst hl;rfl
 ·obtain ⟨rfl,_⟩:=h;subst hl;rfl
 ·obtain ⟨_,_,_,_,_,_,rfl,_⟩:=h;subst hl;rfl
 ·rcases h with ⟨rfl,rfl | ⟨_,_,_,rfl,_⟩⟩ | ⟨_,_,_,_,_,_,rfl,_⟩ <;> (subst hl;rfl)
 ·obtain ⟨_,_,rfl⟩:=h;subst hl;rfl
theorem ltL_strCells (s:ByteArray) (n:Nat):ltL 0 ((strCells s).take n)=true:=by
 have:∀ (l:List UInt8) n,ltL 0 ((l.map fun b=>Value.int .u8 b.toNat).take n)=true:=by
  intro l
  induction l with
  | nil=>intro n;simp [ltL]
  | cons b l ih=>intro n;cases n with
   | zero=>simp [ltL]
   | succ n=>simp [ltL,lt,ih]
 exact this _ _
theorem cutP_sim {l:List PV} {vs:List Value} {n:Nat} {r:List PV} (h:RdL I η l vs) (hc:cutP n l=some r):∃ ws,cutV n vs=some ws∧RdL I η r ws:=by
 unfold cutP at hc
 split at hc
 ·rename_i hn
  simp at hc;subst hc
  have:=h.length
  exact ⟨vs.take n,cutV_of (by omega),h.take n⟩
 ·simp at hc
theorem srcV_eval {i off m c esz n:Nat} {l:List Value} (h:σ.rdN ⟨i,off,none⟩ (n * esz)=some l):srcV σ esz (.slice (some ⟨i,off,none⟩) m c) n=some l:=by
 simp only [srcV]
 split
 ·rename_i h0
  subst h0
  unfold AW.rdN at h
  split at h
  ·simp [cutV] at h;subst h;rfl
  ·simp at h
 ·simpa using h
theorem srcP_sim (hs:SRel F I η π σ) {p:PV} {v:Value} {n esz:Nat} {r:List PV} (h:Rd I η p v) (hl:srcP π esz p n=some r):∃ ws,srcV σ esz v n=some ws∧RdL I η r ws:=by
 unfold srcP at hl
 split at hl
 ·obtain ⟨rfl,_⟩:=rd_lit h
  split at hl
  ·rename_i h0
   simp at hl;subst hl
   exact ⟨[],by simp [srcV,h0],by simp [RdL]⟩
  ·simp at hl
 ·obtain ⟨rfl,_⟩:=rd_lit h
  split at hl
  ·rename_i h0
   simp at hl;subst hl
   exact ⟨_,by simp only [srcV];rw [if_pos h0],rdL_ofVs _ (ltL_strCells _ _)⟩
  ·simp at hl
 ·simp only [Rd] at h
  obtain ⟨i,off,cap,vs,ws,rest,rfl,hnc,h1,h2,h3⟩:=h
  obtain ⟨b,hb,hc⟩:=hs.image h1
  obtain ⟨us,hu,hr⟩:=cutP_sim h3.pure hl
  refine ⟨us,?_,hr⟩
  refine srcV_eval ?_
  simp only [AW.rdN,hb,dropV_eq,hc,h2]
  obtain ⟨q1,q2⟩:=(cutV_some _ _ _).1 hu
  rw [cutV_of (by simp;omega),List.take_append_of_le_length (by omega),q2]
 ·simp only [Rd] at h
  split at hl
  ·rename_i hnm
   rcases h with ⟨rfl,hv0⟩ | ⟨i,off,cap,vs,ws,rest,rfl,hnc,h1,h2,h3⟩
   ·have hn0:n=0:=by omega
    subst hn0
    simp [cutP] at hl;subst hl
    rcases hv0 with rfl | ⟨_,_,_,rfl,_⟩ <;> exact ⟨[],by simp [srcV],by simp [RdL]⟩
   ·obtain ⟨b,hb,hc⟩:=hs.image h1
    obtain ⟨us,hu,hr⟩:=cutP_sim h3.pure hl
    refine ⟨us,?_,hr⟩
    refine srcV_eval ?_
    simp only [AW.rdN,hb,dropV_eq,hc,h2]
    obtain ⟨q1,q2⟩:=(cutV_some _ _ _).1 hu
    rw [cutV_of (by simp;omega),List.take_append_of_le_length (by omega),q2]
  ·simp at hl
 ·simp only [Rd] at h
  obtain ⟨a,ha,rfl⟩:=h
  simp only [Option.bind_eq_some_iff] at hl
  obtain ⟨cs,hcs,hl⟩:=hl
  obtain ⟨b,hb,hr⟩:=hs.cells ha hcs
  obtain ⟨us,hu,hr'⟩:=cutP_sim (hr.drop _) hl
  exact ⟨us,srcV_eval (by simp only [AW.rdN,hb,dropV_eq];exact hu),hr'⟩
 ·simp at hl
structure Chg (F:Nat→Prop) (m:Nat) (I:Img) (η:Eta) (σ:AW) (η':Eta) (π':PW) (σ':AW):Prop where
 ag:∀ j,j < m→η' j=η j
 next:σ.next≤σ'.next
 fr:∀ i,F i→σ'.heap.get i=σ.heap.get i
 et:η.le η'
 rel:SRel F I η' π' σ'
theorem push_chg (hs:SRel F I η π σ) {o:PObj} {b:Blk} (ho:ORd I η o b) (hal:∀ c,b = .cells c→∃ cs ty esz ex ret al,o = .cells cs ty esz ex ret al∧∀ i∈c.al,i < σ.next∧I i=none∧(F i→σ.heap.get i=none)∧∀ k o,look π.heap k=some o→η k=some i→k∈al) :
  ∃ σ',σ.push b=some (σ.next,σ')∧Chg F π.next I η σ (η.ext π.next σ.next) (π.push o) σ':=by
 refine ⟨{next:=σ.next + 1,heap:=σ.heap.set σ.next b },by simp [AW.push,most],⟨fun j hj=>by simp only [Eta.ext];rw [if_neg (by omega)],Nat.le_succ _,fun i hi=>?_,ext_le hs _,push_sim hs ho hal⟩⟩
 have:=hs.fn i hi
 dsimp only
 rw [Tr.get_set _ _ _ _ (Nat.lt_succ_self _),if_neg (by omega)]
theorem appendP_sim (hs:SRel F I η π σ) {t:TypeId} {esz bytes n:Nat} {p:PV} {v:Value} {new:List PV} {ws:List Value} {r:PV} (hp:Rd I η p v) (hn:RdL I η new ws) (ha:appendP π t esz bytes p new n=some (r,π')) :
  ∃ u σ' η',appendV σ t esz bytes v ws n=some (u,σ')∧Chg F π.next I η σ η' π' σ'∧Rd I η' r u:=by
 unfold appendP at ha
 split at ha
 ·rename_i len cap
  obtain ⟨rfl,_⟩:=rd_lit hp
  simp only [appendV]
  split at ha
  ·rename_i h1
   split at ha
   ·rename_i h0
    simp at ha;obtain ⟨rfl,rfl⟩:=ha
    exact ⟨_,_,η,by rw [if_pos h1,if_pos h0],⟨fun _ _=>rfl,Nat.le_refl _,fun _ _=>rfl,Eta.le_refl _,hs⟩,hp⟩
   ·simp at ha
  ·rename_i h1
   split at ha
   ·simp at ha
   ·rename_i h2
    split at ha
    ·simp at ha
    ·rename_i h3
     simp only [Bool.or_eq_true,Bool.not_eq_true',bne_iff_ne,ne_eq,not_or,Bool.not_eq_false,Decidable.not_not] at h3
     simp only [Option.some.injEq,Prod.mk.injEq] at ha;obtain ⟨rfl,rfl⟩:=ha
     obtain ⟨σ',q1,q2⟩:=push_chg hs (o:=.cells new t esz false false []) (b:=.cells (newCB t esz ws false [])) ⟨hn,rfl,rfl,rfl,rfl,rfl,rfl⟩ (fun c hc=>by simp at hc;subst hc;exact ⟨_,_,_,_,_,_,rfl,fun i hi=>by simp [newCB] at hi⟩)
     refine ⟨.slice (some ⟨σ.next,0,none⟩) n n,σ',_,?_,q2,?_⟩
     ·rw [if_neg h1,if_neg h2,allPlain_sim hn h3.1,if_neg (by simp),if_pos h3.2,q1];rfl
     ·simp [Rd,Eta.ext]
 ·rename_i i off len cap
  simp only [Rd] at hp
  obtain ⟨a,ha',rfl⟩:=hp
  simp only [appendV]
  split at ha
  ·rename_i h1
   rw [if_pos h1]
   split at ha
   ·rename_i h0
    simp at ha;obtain ⟨rfl,rfl⟩:=ha
    exact ⟨_,_,η,by rw [if_pos h0],⟨fun _ _=>rfl,Nat.le_refl _,fun _ _=>rfl,Eta.le_refl _,hs⟩,by simp [Rd,ha']⟩
   ·rename_i h0
    rw [if_neg h0]
    simp only [Option.map_eq_some_iff,Prod.mk.injEq] at ha
    obtain ⟨π1,hw,rfl,rfl⟩:=ha
    obtain ⟨σ',q1,q2,q3,q4,q5,_⟩:=wr_sim hs ha' hw hn
    exact ⟨_,σ',η,by rw [q1];rfl,⟨fun _ _=>rfl,by omega,q5,Eta.le_refl _,q2⟩,by simp [Rd,ha']⟩
  ·rename_i h1
   rw [if_neg h1]
   split at ha
   ·simp at ha
   ·rename_i h2
    rw [if_neg h2]
    split at ha
    ·simp at ha
    ·rename_i h3
     simp only [Bool.not_eq_true',Bool.not_eq_false] at h3
     rw [allPlain_sim hn h3,if_neg (by simp)]
     split at ha
     ·rename_i cs ty esz' ex ret al hl
      obtain ⟨a',b,ha2,han,hb,ho⟩:=hs.obj i _ hl
      rw [ha'] at ha2;cases ha2
      cases b <;> simp only [ORd] at ho
      rename_i b
      obtain ⟨g1,g2,g3,g4,g5,g6,g7⟩:=ho
      rw [cells?_some.2 hb]
      have hal:=hs.al i _ _ _ _ _ _ _ _ hl ha' hb
      dsimp only
      split at ha
      ·simp at ha
      ·rename_i old hold
       obtain ⟨vs,hv,hr⟩:=cutP_sim (g1.drop off) hold
       rw [dropV_eq,hv]
       dsimp only
       have hon:=hr.append hn
       split at ha
       ·rename_i hex
        subst hex
        simp only [Option.some.injEq,Prod.mk.injEq] at ha;obtain ⟨rfl,rfl⟩:=ha
        obtain ⟨σ',q1,q2⟩:=push_chg hs (o:=.cells (old++new) t esz false false []) (b:=.cells (newCB t esz (vs++ws) false [])) ⟨hon,rfl,rfl,rfl,rfl,rfl,rfl⟩ (fun c hc=>by simp at hc;subst hc;exact ⟨_,_,_,_,_,_,rfl,fun i hi=>by simp [newCB] at hi⟩)
        refine ⟨.slice (some ⟨σ.next,0,none⟩) (len + n) (len + n),σ',_,?_,q2,?_⟩
        ·rw [if_pos g4,q1];rfl
        ·simp [Rd,Eta.ext]
       ·rename_i hex
        simp only [Bool.not_eq_true] at hex
        subst hex
        rw [if_neg (show ¬ (b.exact=true) by rw [g4];simp)]
        split at ha
        ·simp at ha
        ·rename_i hc
         have hc':¬ ((b.retired || b.frozen || b.ro || off + cap * esz != b.cs.length || esz != b.esz || t != b.ty)=true):=by
          rw [g5,g6,g7,g3,g2,← g1.length];simpa using hc
         rw [if_neg hc']
         simp only [Bool.or_eq_true,not_or,Bool.not_eq_true] at hc
         have hret:ret=false:=hc.1.1.1
         split at ha
         ·rename_i hlc
          rw [if_pos hlc]
          simp only [Option.some.injEq,Prod.mk.injEq] at ha;obtain ⟨rfl,rfl⟩:=ha
          have hs1:=upd_sim hs (o:=.cells cs ty esz' false true al) (b:=.cells {b with retired:=true }) hl ha' hb ⟨g1,g2,g3,g4,rfl,g6,g7⟩
           (fun c hc=>by simp only [Blk.cells.injEq] at hc;subst hc;exact ⟨b,_,_,_,_,_,_,_,_,_,_,_,rfl,rfl,rfl,rfl⟩)
          have hlk:∀ j o',look (setO π.heap i (.cells cs ty esz' false true al)) j=some o'→∃ o'',look π.heap j=some o'':=by
           intro j o' hj
           rw [look_setO] at hj
           split at hj
           ·rename_i h;subst h;exact ⟨_,hl⟩
           ·exact ⟨_,hj⟩
          obtain ⟨σ',q1,q2⟩:=push_chg hs1 (o:=.cells (old++new) t esz false false (i::al)) (b:=.cells (newCB t esz (vs++ws) false (a::b.al))) ⟨hon,rfl,rfl,rfl,rfl,rfl,rfl⟩
           (fun c hc=>by
            simp at hc;subst hc
            refine ⟨_,_,_,_,_,_,rfl,fun k hk=>?_⟩
            simp only [newCB,List.mem_cons] at hk
            rcases hk with rfl | hk
            ·exact ⟨han,hs.sep i _ _ hl ha',fun hf=>absurd hf (hs.fo i _ _ hl ha'),fun m o hm hcm=>by
              obtain ⟨o'',h⟩:=hlk m o hm
              rw [hs.inj m i _ _ _ h hl hcm ha'];simp⟩
            ·obtain ⟨w1,w2,w3,w4⟩:=hal k hk
             exact ⟨w1,w2,fun hf=>by dsimp only;rw [Tr.get_set _ _ _ _ (Nat.lt_succ_self _),if_neg (fun e=>by subst e;exact hs.fo i _ _ hl ha' hf)];exact w3 hf,fun m o hm hcm=>by
              obtain ⟨o'',h⟩:=hlk m o hm
              exact List.mem_cons_of_mem _ (w4 m _ h hcm)⟩)
          refine ⟨.slice (some ⟨σ.next,0,none⟩) (len + n) (len + n),σ',_,?_,⟨q2.ag,q2.next,fun k hk=>?_,q2.et,q2.rel⟩,?_⟩
          ·rw [show ({σ with heap:=σ.heap.set a (.cells {b with retired:=true }) }:AW).push (.cells (newCB t esz (vs++ws) false (a::b.al)))=_ from q1];rfl
          ·rw [q2.fr k hk]
           dsimp only
           rw [Tr.get_set _ _ _ _ (Nat.lt_succ_self _),if_neg (fun h=>by subst h;exact hs.fo i _ _ hl ha' hk)]
          ·simp [Rd,Eta.ext]
         ·rename_i hlc
          rw [if_neg hlc]
          simp only [Option.some.injEq,Prod.mk.injEq] at ha;obtain ⟨rfl,rfl⟩:=ha
          have hs1:=kill_sim hs (l:=a::b.al) (lp:=i::al) (fun k hk=>by
           simp only [List.mem_cons] at hk
           rcases hk with rfl | hk
           ·exact ⟨hs.sep i _ _ hl ha',fun m o hm hcm=>by rw [hs.inj m i _ _ _ hm hl hcm ha'];simp⟩
           ·exact ⟨(hal k hk).2.1,fun m o hm hcm=>List.mem_cons_of_mem _ ((hal k hk).2.2.2 m o hm hcm)⟩)
          obtain ⟨σ',q1,q2⟩:=push_chg hs1 (o:=.cells (old++new) t esz false false []) (b:=.cells (newCB t esz (vs++ws) false [])) ⟨hon,rfl,rfl,rfl,rfl,rfl,rfl⟩ (fun c hc=>by simp at hc;subst hc;exact ⟨_,_,_,_,_,_,rfl,fun i hi=>by simp [newCB] at hi⟩)
          refine ⟨.slice (some ⟨σ.next,0,none⟩) (len + n) (len + n),σ',_,?_,⟨q2.ag,q2.next,fun k hk=>?_,q2.et,q2.rel⟩,?_⟩
          ·rw [show ({σ with heap:=killAll (a::b.al) σ.heap }:AW).push (.cells (newCB t esz (vs++ws) false []))=_ from q1];rfl
          ·rw [q2.fr k hk]
           dsimp only
           rw [kills]
           split
           ·rename_i h
            simp only [List.mem_cons] at h
            rcases h with rfl | h
            ·exact absurd hk (hs.fo i _ _ hl ha')
            ·exact ((hal k h).2.2.1 hk).symm
           ·rfl
          ·simp [Rd,Eta.ext]
     ·simp at ha
 ·simp at ha
theorem ba_eq (a b:ByteArray):(a == b)=true↔a=b:=by
 obtain ⟨a⟩:=a;obtain ⟨b⟩:=b
 show (a == b)=true↔_
 simp
theorem eqK_sim {kt:EqT} {u u':Value} {r:Bool} (hk:ktK kt u=true) (h:eqK u u'=some r):eqv kt u u'=some r∧(r=true→sameK u' u=true):=by
 unfold eqK at h
 split at h
 ·rename_i a b
  cases kt <;> simp only [ktK,reduceCtorEq,Bool.false_eq_true] at hk
  simp only [Option.some.injEq] at h;subst h
  refine ⟨by simp [eqv],fun h=>?_⟩
  have:a=b:=(ba_eq _ _).1 h
  subst this;exact h
 ·rename_i j a k b
  split at h
  ·rename_i hjk
   subst hjk
   cases kt <;> simp only [ktK,reduceCtorEq,Bool.false_eq_true] at hk
   simp only [Option.some.injEq] at h;subst h
   refine ⟨by simp [eqv],fun h=>?_⟩
   have:a=b:=by simpa using h
   subst this;simp [sameK]
  ·simp at h
 ·simp at h
theorem findM_sim {kt:EqT} {u:Value} (hk:ktK kt u=true):∀ {es:List (PV × PV × Nat)} {fs:List (Value × Value × Nat)} {i:Nat} {r:Option (Nat × PV × Nat)},EntRd I η es fs→findM u es i=some r→
  (r=none∧findK kt u fs i=some none)∨∃ j p c v,r=some (i + j,p,c)∧findK kt u fs i=some (some (i + j,v))∧Rd I η p v∧sameAt fs j u=true∧bornAt fs j=c∧
   (∀ q w,Rd I η q w→EntRd I η (setM es j q) (setAt fs j u w))∧setAt fs j u v=fs
 | [],[],i,r,_,h=>by simp [findM] at h;subst h;exact .inl ⟨rfl,by simp [findK]⟩
 | (.lit u',q,c)::es,(v,w,d)::fs,i,r,he,h=>by
  simp only [EntRd] at he
  obtain ⟨h1,h2,h3,h4⟩:=he
  obtain ⟨rfl,_⟩:=rd_lit h1
  subst h3
  simp only [findM] at h
  split at h
  ·rename_i hb
   obtain ⟨g1,g2⟩:=eqK_sim hk hb
   simp only [Option.some.injEq] at h;subst h
   have gs:=g2 rfl
   have huv:v=u:=by
    unfold eqK at hb
    split at hb
    ·simp only [Option.some.injEq] at hb;rw [(ba_eq _ _).1 hb]
    ·split at hb
     ·rename_i hjk;subst hjk;simp at hb;subst hb;rfl
     ·simp at hb
    ·simp at hb
   subst huv
   refine .inr ⟨0,q,c,w,rfl,by simp [findK,g1],h2,by simp [sameAt,gs],by simp [bornAt],fun q' w' hq=>?_,by simp [setAt]⟩
   simp only [setM,setAt,EntRd]
   exact ⟨h1,hq,trivial,h4⟩
  ·rename_i hb
   obtain ⟨g1,_⟩:=eqK_sim hk hb
   rcases findM_sim hk h4 h with ⟨e1,e2⟩ | ⟨j,p,c',v',e1,e2,e3,e4,e5,e6,e7⟩
   ·exact .inl ⟨e1,by simp only [findK,g1];exact e2⟩
   ·have ee:i + 1 + j=i + (j + 1):=by omega
    rw [ee] at e1 e2
    refine .inr ⟨j + 1,p,c',v',e1,by simp only [findK,g1];exact e2,e3,by simpa [sameAt] using e4,by simpa [bornAt] using e5,fun q' w' hq=>?_,by simp [setAt,e7]⟩
    simp only [setM,setAt,EntRd]
    exact ⟨h1,h2,trivial,e6 q' w' hq⟩
  ·simp at h
 | [],_::_,_,_,he,_=>by simp [EntRd] at he
 | _::_,[],_,_,he,_=>by simp [EntRd] at he
 | (.junk,_,_)::_,_::_,_,_,_,h=>by simp [findM] at h
 | (.sl _ _,_,_)::_,_::_,_,_,_,h=>by simp [findM] at h
 | (.sz _ _,_,_)::_,_::_,_,_,_,h=>by simp [findM] at h
 | (.ref _,_,_)::_,_::_,_,_,_,h=>by simp [findM] at h
 | (.loc _ _ _ _,_,_)::_,_::_,_,_,_,h=>by simp [findM] at h
 | (.ptr _ _,_,_)::_,_::_,_,_,_,h=>by simp [findM] at h
 | (.map _,_,_)::_,_::_,_,_,_,h=>by simp [findM] at h
 | (.fn _ _ _,_,_)::_,_::_,_,_,_,h=>by simp [findM] at h
 | (.yld _,_,_)::_,_::_,_,_,_,h=>by simp [findM] at h
 | (.iface _ _,_,_)::_,_::_,_,_,_,h=>by simp [findM] at h
 | (.agg _,_,_)::_,_::_,_,_,_,h=>by simp [findM] at h
 | (.tup _,_,_)::_,_::_,_,_,_,h=>by simp [findM] at h
theorem findC_sim {b:Int}:∀ {es:List (PV × PV × Nat)} {fs:List (Value × Value × Nat)} {i j:Nat},EntRd I η es fs→findC b es i=some j→
  ∃ m k,j=i + m∧findB b fs i=some (j,k)∧∀ q w,Rd I η q w→EntRd I η (setM es m q) (setAt fs m k w)
 | [],[],i,j,_,h=>by simp [findC] at h
 | (p,q,c)::es,(v,w,d)::fs,i,j,he,h=>by
  simp only [EntRd] at he
  obtain ⟨h1,h2,h3,h4⟩:=he
  subst h3
  simp only [findC] at h
  simp only [findB]
  split at h
  ·rename_i hc
   simp only [Option.some.injEq] at h;subst h
   rw [if_pos hc]
   refine ⟨0,v,rfl,rfl,fun q' w' hq=>?_⟩
   simp only [setM,setAt,EntRd]
   exact ⟨h1,hq,trivial,h4⟩
  ·rename_i hc
   rw [if_neg hc]
   obtain ⟨m,k,e1,e2,e3⟩:=findC_sim h4 h
   refine ⟨m + 1,k,by omega,e2,fun q' w' hq=>?_⟩
   simp only [setM,setAt,EntRd]
   exact ⟨h1,h2,trivial,e3 q' w' hq⟩
 | [],_::_,_,_,he,_=>by simp [EntRd] at he
 | _::_,[],_,_,he,_=>by simp [EntRd] at he
theorem EntRd.snoc:∀ {es:List (PV × PV × Nat)} {fs:List (Value × Value × Nat)} {p q:PV} {v w:Value} {c:Nat},EntRd I η es fs→Rd I η p v→Rd I η q w→EntRd I η (es++[(p,q,c)]) (fs++[(v,w,c)])
 | [],[],p,q,v,w,c,_,hp,hq=>by simp only [List.nil_append,EntRd];exact ⟨hp,hq,trivial,trivial⟩
 | (p',q',c')::es,(v',w',d')::fs,p,q,v,w,c,he,hp,hq=>by
  simp only [EntRd,List.cons_append] at he ⊢
  exact ⟨he.1,he.2.1,he.2.2.1,he.2.2.2.snoc hp hq⟩
 | [],_::_,_,_,_,_,_,he,_,_=>by simp [EntRd] at he
 | _::_,[],_,_,_,_,_,he,_,_=>by simp [EntRd] at he
theorem map_chg (hs:SRel F I η π σ) {i a:Nat} {es:List (PV × PV × Nat)} {cl:Nat} {fs fs':List (Value × Value × Nat)} {es':List (PV × PV × Nat)} {cl':Nat} (hl:look π.heap i=some (.map es cl)) (ha:η i=some a) (hb:σ.heap.get a=some (.map fs cl)) (he:EntRd I η es' fs') :
  Chg F π.next I η σ η {π with heap:=setO π.heap i (.map es' cl') } {σ with heap:=σ.heap.set a (.map fs' cl') }:=by
 refine ⟨fun _ _=>rfl,Nat.le_refl _,fun k hk=>?_,Eta.le_refl _,upd_sim hs hl ha hb ⟨he,rfl⟩ (fun c hc=>by simp at hc)⟩
 dsimp only
 rw [Tr.get_set _ _ _ _ (Nat.lt_succ_self _),if_neg (fun h=>by subst h;exact hs.fo i _ _ hl ha hk)]
theorem ustr_chg (hs:SRel F I η π σ) {i a:Nat} {cs:List PV} {ty esz:Nat} {ex ret:Bool} {al:List Nat} {b:CB} (hl:look π.heap i=some (.cells cs ty esz ex ret al)) (ha:η i=some a) (hb:σ.heap.get a=some (.cells b)) :
  Chg F π.next I η σ η {π with heap:=killO (i::al) π.heap } {σ with heap:=(killAll b.al σ.heap).set a (.cells {b with frozen:=true,al:=[] }) }:=by
 have hal:=hs.al i _ _ _ _ _ _ _ _ hl ha hb
 have hF:=hs.fo i _ a hl ha
 have h0:=hs.sep i _ a hl ha
 have han:=hs.hn a _ hb
 have h1:=kill_sim hs (l:=a::b.al) (lp:=i::al) (fun k hk=>by
  simp only [List.mem_cons] at hk
  rcases hk with rfl | hk
  ·exact ⟨h0,fun m o hm hcm=>by rw [hs.inj m i _ _ _ hm hl hcm ha];simp⟩
  ·exact ⟨(hal k hk).2.1,fun m o hm hcm=>List.mem_cons_of_mem _ ((hal k hk).2.2.2 m o hm hcm)⟩)
 have hget:∀ k,((killAll b.al σ.heap).set a (.cells {b with frozen:=true,al:=[] })).get k=if k=a then some (.cells {b with frozen:=true,al:=[] }) else (killAll (a::b.al) σ.heap).get k:=by
  intro k
  rw [Tr.get_set _ _ _ _ (Nat.lt_succ_self _),kills,kills]
  by_cases hk:k=a
  ·simp [hk]
  ·simp [hk]
 have hka:∀ k,({σ with heap:=killAll (a::b.al) σ.heap }:AW).heap.get k ≠ none→k ≠ a:=by
  intro k hk e
  subst e
  apply hk
  dsimp only
  rw [kills,if_pos (by simp)]
 refine ⟨fun _ _=>rfl,Nat.le_refl _,fun k hk=>?_,Eta.le_refl _,?_⟩
 ·dsimp only
  rw [Tr.get_set _ _ _ _ (Nat.lt_succ_self _),if_neg (fun h=>by subst h;exact hF hk),kills]
  split
  ·rename_i h;exact ((hal k h).2.2.1 hk).symm
  ·rfl
 ·constructor
  ·intro k c hk
   dsimp only at hk ⊢
   rw [hget] at hk
   split at hk
   ·rename_i h;subst h;exact han
   ·exact h1.hn k c hk
  ·exact h1.fn
  ·exact h1.fo
  ·intro k us hk
   obtain ⟨g1,c,g2,g3⟩:=h1.img k us hk
   refine ⟨g1,c,?_,g3⟩
   dsimp only
   rw [hget,if_neg (hka k (by rw [g2];simp))];exact g2
  ·exact h1.fresh
  ·intro j o hj
   obtain ⟨c,bc,g1,g2,g3,g4⟩:=h1.obj j o hj
   refine ⟨c,bc,g1,g2,?_,g4⟩
   dsimp only
   rw [hget,if_neg (hka c (by rw [g3];simp))];exact g3
  ·exact h1.inj
  ·exact h1.sep
  ·intro j cs ty esz ex ret al c bc hj hc hbc k hk
   have hca:c ≠ a:=by
    intro e;subst e
    obtain ⟨c',bc',g1,_,g3,_⟩:=h1.obj j _ hj
    rw [hc] at g1;cases g1
    exact hka c (by rw [g3];simp) rfl
   dsimp only at hbc
   rw [hget,if_neg hca] at hbc
   obtain ⟨g1,g2,g3,g4⟩:=h1.al j _ _ _ _ _ _ _ _ hj hc hbc k hk
   refine ⟨g1,g2,fun hf=>?_,g4⟩
   dsimp only
   rw [hget,if_neg (fun e=>by subst e;exact hF hf)];exact g3 hf
theorem pevE_sim (hG:GRd I noE G) (h:RdL I η e env) (hs:SRel F I η π σ) {q:EOp} {r:PV} (hp:pevE G e π q=some (r,π')) :
  ∃ v σ' η',(∀ K,runE K env σ q=some (.ret v,σ'))∧Chg F π.next I η σ η' π' σ'∧Rd I η' r v:=by
 have hG':GRd I η G:=fun g cs hg=>(hG g cs hg).pure
 have ho:=rd_opd hG' h
 cases q with
 | st n a x=>
  have ha:=ho a;have hx:=ho x
  simp only [pevE] at hp
  simp only [runE]
  generalize a.pv G e=A at hp ha
  generalize a.ev env=V at ha ⊢
  generalize x.pv G e=X at hp hx
  generalize x.ev env=W at hx ⊢
  split at hp
  ·rename_i i off
   simp only [Rd] at ha
   obtain ⟨ai,hai,rfl⟩:=ha
   split at hp
   ·rename_i l
    simp only [Rd] at hx
    obtain ⟨ws,rfl,hw⟩:=hx
    split at hp
    ·rename_i hn
     simp only [Option.map_eq_some_iff,Prod.mk.injEq] at hp
     obtain ⟨π1,hwr,rfl,rfl⟩:=hp
     obtain ⟨σ',q1,q2,q3,q4,q5,_⟩:=wr_sim hs hai hwr hw
     refine ⟨undef,σ',η,fun K=>?_,⟨fun _ _=>rfl,by omega,q5,Eta.le_refl _,q2⟩,by simp [Rd]⟩
     have hwl:ws.length=n:=by rw [← hw.length];exact hn
     simp [cellsOf,hwl,q1]
    ·simp at hp
   ·rename_i hna
    split at hp
    ·rename_i hc
     simp only [Bool.and_eq_true,beq_iff_eq] at hc
     obtain ⟨hc,rfl⟩:=hc
     simp only [Option.map_eq_some_iff,Prod.mk.injEq] at hp
     obtain ⟨π1,hwr,rfl,rfl⟩:=hp
     obtain ⟨σ',q1,q2,q3,q4,q5,_⟩:=wr_sim hs hai hwr (ws:=[W]) (by simp only [RdL];exact ⟨hx,trivial⟩)
     refine ⟨undef,σ',η,fun K=>?_,⟨fun _ _=>rfl,by omega,q5,Eta.le_refl _,q2⟩,by simp [Rd]⟩
     simp [(plain_cells hc hx).1,q1]
    ·simp at hp
  ·simp at hp
 | append t esz bytes z s x=>
  have ha:=ho s;have hx:=ho x
  simp only [pevE] at hp
  simp only [runE]
  generalize s.pv G e=A at hp ha
  generalize s.ev env=V at ha ⊢
  generalize x.pv G e=X at hp hx
  generalize x.ev env=W at hx ⊢
  split at hp
  ·rename_i n hn
   simp only [Option.bind_eq_some_iff] at hp
   obtain ⟨new,hnew,hp⟩:=hp
   obtain ⟨ws,hw,hr⟩:=srcP_sim hs hx hnew
   obtain ⟨u,σ',η',q1,q2,q3⟩:=appendP_sim hs ha hr hp
   refine ⟨u,σ',η',fun K=>?_,q2,q3⟩
   rw [lenP_sim hx hn]
   simp only [hw,Option.bind_some,q1,Option.map_some]
  ·simp at hp
 | appendZ t esz bytes z s n=>
  have ha:=ho s;have hx:=ho n
  simp only [pevE] at hp
  simp only [runE]
  generalize s.pv G e=A at hp ha
  generalize s.ev env=V at ha ⊢
  generalize n.pv G e=X at hp hx
  generalize n.ev env=W at hx ⊢
  split at hp
  ·rename_i k l
   obtain ⟨rfl,_⟩:=rd_lit hx
   split at hp
   ·rename_i hc
    obtain ⟨u,σ',η',q1,q2,q3⟩:=appendP_sim hs ha (rdL_flatten (rdL_ofVs z hc.2.2.2) _) hp
    refine ⟨u,σ',η',fun K=>?_,q2,q3⟩
    dsimp only
    rw [if_pos ⟨hc.1,hc.2.1,hc.2.2.1⟩,q1];rfl
   ·simp at hp
  ·simp at hp
 | copy esz d s=>
  have ha:=ho d;have hx:=ho s
  simp only [pevE] at hp
  simp only [runE]
  generalize d.pv G e=A at hp ha
  generalize d.ev env=V at ha ⊢
  generalize s.pv G e=X at hp hx
  generalize s.ev env=W at hx ⊢
  split at hp
  ·rename_i i off dl c
   simp only [Rd] at ha
   obtain ⟨ai,hai,rfl⟩:=ha
   split at hp
   ·rename_i n hn
    simp only [Option.bind_eq_some_iff,Option.map_eq_some_iff,Prod.mk.injEq] at hp
    obtain ⟨cs,hcs,π1,hwr,rfl,rfl⟩:=hp
    obtain ⟨ws,hw,hr⟩:=srcP_sim hs hx hcs
    obtain ⟨σ',q1,q2,q3,q4,q5,_⟩:=wr_sim hs hai hwr hr
    refine ⟨.int .i64 (Nat.min n dl:Nat),σ',η,fun K=>?_,⟨fun _ _=>rfl,by omega,q5,Eta.le_refl _,q2⟩,rd_mk (by simp [lt])⟩
    dsimp only
    rw [lenP_sim hx hn]
    simp only [hw,Option.bind_some,Option.isSome_none,Bool.false_eq_true,if_false,q1,Option.map_some]
   ·simp at hp
  ·simp at hp
 | mapUpd kt m k v=>
  have ha:=ho m;have hx:=ho k;have hv:=ho v
  simp only [pevE] at hp
  simp only [runE]
  generalize m.pv G e=A at hp ha
  generalize m.ev env=V at ha ⊢
  generalize k.pv G e=X at hp hx
  generalize k.ev env=W at hx ⊢
  generalize v.pv G e=Y at hp hv
  generalize v.ev env=U at hv ⊢
  split at hp
  ·rename_i i
   simp only [Rd] at ha
   obtain ⟨ai,hai,rfl⟩:=ha
   split at hp
   ·rename_i es clock hl
    obtain ⟨a',b,ha',_,hb,hob⟩:=hs.obj i _ hl
    rw [hai] at ha';cases ha'
    cases b <;> simp only [ORd] at hob
    rename_i fs c
    obtain ⟨hent,rfl⟩:=hob
    split at hp
    ·rename_i u
     obtain ⟨rfl,hlu⟩:=rd_lit hx
     split at hp
     ·rename_i hkt
      have hko:keyOK kt W=true:=by
       unfold keyOK
       split
       ·simp [ktK] at hkt
       ·simp [ktK] at hkt
       ·rfl
      dsimp only
      simp only [hb]
      rw [if_pos hko]
      split at hp
      ·rename_i j p c' hf
       rcases findM_sim hkt hent hf with ⟨e1,_⟩ | ⟨j',p',c2,v',e1,e2,e3,e4,e5,e6,e7⟩
       ·simp at e1
       ·simp only [Option.some.injEq,Prod.mk.injEq] at e1
        obtain ⟨rfl,rfl,rfl⟩:=e1
        simp only [Option.some.injEq,Prod.mk.injEq] at hp
        obtain ⟨rfl,rfl⟩:=hp
        rw [e2]
        simp only [Nat.zero_add] at e2 ⊢
        rw [if_pos e4]
        exact ⟨undef,_,η,fun K=>rfl,map_chg hs hl hai hb (e6 _ _ hv),by simp [Rd]⟩
      ·rename_i hf
       rcases findM_sim hkt hent hf with ⟨_,e2⟩ | ⟨j',p',c2,v',e1,_⟩
       ·simp only [Option.some.injEq,Prod.mk.injEq] at hp
        obtain ⟨rfl,rfl⟩:=hp
        rw [e2]
        exact ⟨undef,_,η,fun K=>rfl,map_chg hs hl hai hb (hent.snoc hx hv),by simp [Rd]⟩
       ·simp at e1
      ·simp at hp
     ·simp at hp
    ·simp at hp
   ·simp at hp
  ·simp at hp
 | mapEnt kt zero m k=>
  have ha:=ho m;have hx:=ho k
  simp only [pevE] at hp
  simp only [runE]
  generalize m.pv G e=A at hp ha
  generalize m.ev env=V at ha ⊢
  generalize k.pv G e=X at hp hx
  generalize k.ev env=W at hx ⊢
  split at hp
  ·rename_i i
   simp only [Rd] at ha
   obtain ⟨ai,hai,rfl⟩:=ha
   split at hp
   ·rename_i es clock hl
    obtain ⟨a',b,ha',_,hb,hob⟩:=hs.obj i _ hl
    rw [hai] at ha';cases ha'
    cases b <;> simp only [ORd] at hob
    rename_i fs c
    obtain ⟨hent,rfl⟩:=hob
    split at hp
    ·rename_i u
     obtain ⟨rfl,hlu⟩:=rd_lit hx
     split at hp
     ·rename_i hkz
      simp only [Bool.and_eq_true] at hkz
      obtain ⟨hkt,hz⟩:=hkz
      have hko:keyOK kt W=true:=by
       unfold keyOK
       split
       ·simp [ktK] at hkt
       ·simp [ktK] at hkt
       ·rfl
      dsimp only
      simp only [hb]
      rw [if_pos hko]
      split at hp
      ·rename_i p c' hf
       rcases findM_sim hkt hent hf with ⟨e1,_⟩ | ⟨j',p',c2,v',e1,e2,e3,e4,e5,e6,e7⟩
       ·simp at e1
       ·simp only [Option.some.injEq,Prod.mk.injEq] at e1
        obtain ⟨rfl,rfl,rfl⟩:=e1
        simp only [Option.some.injEq,Prod.mk.injEq] at hp
        obtain ⟨rfl,rfl⟩:=hp
        rw [e2]
        simp only [Nat.zero_add] at e2 ⊢
        rw [if_pos e4,e5,e7]
        have hset:∀ k,(σ.heap.set ai (.map fs c)).get k=σ.heap.get k:=by
         intro k
         rw [Tr.get_set _ _ _ _ (Nat.lt_succ_self _)]
         split
         ·rename_i h;subst h;exact hb.symm
         ·rfl
        refine ⟨_,_,η,fun K=>rfl,⟨fun _ _=>rfl,Nat.le_refl _,fun k _=>hset k,Eta.le_refl _,?_⟩,by simp only [Rd];exact ⟨_,rfl,by simp only [RdL];exact ⟨e3,rd_mk (by simp [lt]),trivial⟩⟩⟩
        exact ⟨fun k b hk=>hs.hn k b (by rw [← hset];exact hk),hs.fn,hs.fo,fun k vs hk=>by
          obtain ⟨g1,b,g2,g3⟩:=hs.img k vs hk
          exact ⟨g1,b,by dsimp only;rw [hset];exact g2,g3⟩,hs.fresh,fun j o hj=>by
          obtain ⟨c,bc,g1,g2,g3,g4⟩:=hs.obj j o hj
          exact ⟨c,bc,g1,g2,by dsimp only;rw [hset];exact g3,g4⟩,hs.inj,hs.sep,fun j cs ty esz ex ret al c bc hj hc hbc k hk=>by
          obtain ⟨g1,g2,g3,g4⟩:=hs.al j _ _ _ _ _ _ _ _ hj hc (by rw [← hset];exact hbc) k hk
          exact ⟨g1,g2,fun hf=>by dsimp only;rw [hset];exact g3 hf,g4⟩⟩
      ·rename_i hf
       rcases findM_sim hkt hent hf with ⟨_,e2⟩ | ⟨j',p',c2,v',e1,_⟩
       ·simp only [Option.some.injEq,Prod.mk.injEq] at hp
        obtain ⟨rfl,rfl⟩:=hp
        rw [e2]
        exact ⟨_,_,η,fun K=>rfl,map_chg hs hl hai hb (hent.snoc hx (rd_ofV zero hz)),by simp only [Rd];exact ⟨_,rfl,by simp only [RdL];exact ⟨rd_ofV zero hz,rd_mk (by simp [lt]),trivial⟩⟩⟩
       ·simp at e1
      ·simp at hp
     ·simp at hp
    ·simp at hp
   ·simp at hp
  ·simp at hp
 | entSt m s x=>
  have ha:=ho m;have hx:=ho s;have hv:=ho x
  simp only [pevE] at hp
  simp only [runE]
  generalize m.pv G e=A at hp ha
  generalize m.ev env=V at ha ⊢
  generalize s.pv G e=X at hp hx
  generalize s.ev env=W at hx ⊢
  generalize x.pv G e=Y at hp hv
  generalize x.ev env=U at hv ⊢
  split at hp
  ·rename_i i
   simp only [Rd] at ha
   obtain ⟨ai,hai,rfl⟩:=ha
   split at hp
   ·rename_i es clock hl
    obtain ⟨a',b,ha',_,hb,hob⟩:=hs.obj i _ hl
    rw [hai] at ha';cases ha'
    cases b <;> simp only [ORd] at hob
    rename_i fs c
    obtain ⟨hent,rfl⟩:=hob
    split at hp
    ·rename_i kd n
     obtain ⟨rfl,_⟩:=rd_lit hx
     split at hp
     ·rename_i j hf
      obtain ⟨m',k',e1,e2,e3⟩:=findC_sim hent hf
      simp only [Option.some.injEq,Prod.mk.injEq] at hp
      obtain ⟨rfl,rfl⟩:=hp
      simp only [Nat.zero_add] at e1
      subst e1
      dsimp only
      simp only [hb,e2]
      exact ⟨undef,_,η,fun K=>rfl,map_chg hs hl hai hb (e3 _ _ hv),by simp [Rd]⟩
     ·simp at hp
    ·simp at hp
   ·simp at hp
  ·simp at hp
 | s2b t x=>
  have hx:=ho x
  simp only [pevE] at hp
  simp only [runE]
  generalize x.pv G e=X at hp hx
  generalize x.ev env=W at hx ⊢
  split at hp
  ·rename_i s
   obtain ⟨rfl,_⟩:=rd_lit hx
   simp only [Option.some.injEq,Prod.mk.injEq] at hp
   obtain ⟨rfl,rfl⟩:=hp
   have hlt:ltL 0 (strCells s)=true:=by
    have:=ltL_strCells s (strCells s).length
    rwa [List.take_length] at this
   obtain ⟨σ',q1,q2⟩:=push_chg hs (o:=.cells (ofVs (strCells s)) t 1 false false []) (b:=.cells (newCB t 1 (strCells s) false [])) ⟨rdL_ofVs _ hlt,rfl,rfl,rfl,rfl,rfl,rfl⟩ (fun c hc=>by simp at hc;subst hc;exact ⟨_,_,_,_,_,_,rfl,fun i hi=>by simp [newCB] at hi⟩)
   refine ⟨.slice (some ⟨σ.next,0,none⟩) s.size s.size,σ',_,fun K=>?_,q2,?_⟩
   ·dsimp only;rw [q1];rfl
   ·simp [Rd,Eta.ext]
  ·simp at hp
 | sdata x=>
  have hx:=ho x
  simp only [pevE] at hp
  simp only [runE]
  generalize x.pv G e=X at hp hx
  generalize x.ev env=W at hx ⊢
  split at hp
  ·obtain ⟨rfl,_⟩:=rd_lit hx
   simp only [Option.some.injEq,Prod.mk.injEq] at hp
   obtain ⟨rfl,rfl⟩:=hp
   exact ⟨_,σ,η,fun K=>rfl,⟨fun _ _=>rfl,Nat.le_refl _,fun _ _=>rfl,Eta.le_refl _,hs⟩,rd_mk (by simp [lt])⟩
  ·rename_i i off n c
   simp only [Rd] at hx
   obtain ⟨ai,hai,rfl⟩:=hx
   split at hp
   ·simp at hp
   ·rename_i hc
    simp only [Option.some.injEq,Prod.mk.injEq] at hp
    obtain ⟨rfl,rfl⟩:=hp
    exact ⟨.pointer (some ⟨ai,off,none⟩),σ,η,fun K=>by dsimp only;rw [if_neg hc],⟨fun _ _=>rfl,Nat.le_refl _,fun _ _=>rfl,Eta.le_refl _,hs⟩,by simp only [Rd];exact ⟨ai,hai,rfl⟩⟩
  ·simp at hp
 | ustr t x n=>
  have hx:=ho x;have hv:=ho n
  simp only [pevE] at hp
  simp only [runE]
  generalize x.pv G e=X at hp hx
  generalize x.ev env=W at hx ⊢
  generalize n.pv G e=Y at hp hv
  generalize n.ev env=U at hv ⊢
  split at hp
  ·rename_i i off
   simp only [Rd] at hx
   obtain ⟨ai,hai,rfl⟩:=hx
   split at hp
   ·rename_i kd k
    obtain ⟨rfl,_⟩:=rd_lit hv
    split at hp
    ·rename_i h0
     simp only [Option.some.injEq,Prod.mk.injEq] at hp
     obtain ⟨rfl,rfl⟩:=hp
     exact ⟨.string .empty,σ,η,fun K=>by dsimp only;rw [if_pos h0],⟨fun _ _=>rfl,Nat.le_refl _,fun _ _=>rfl,Eta.le_refl _,hs⟩,rd_mk (by simp [lt])⟩
    ·rename_i h0
     split at hp
     ·simp at hp
     ·rename_i h1
      split at hp
      ·rename_i cs ty esz ex ret al hl
       split at hp
       ·simp at hp
       ·rename_i h2
        simp only [Option.bind_eq_some_iff,Option.map_eq_some_iff,Prod.mk.injEq] at hp
        obtain ⟨l,hc,bs,hbs,rfl,rfl⟩:=hp
        obtain ⟨a',bk,ha',han,hb,hob⟩:=hs.obj i _ hl
        rw [hai] at ha';cases ha'
        cases bk <;> simp only [ORd] at hob
        rename_i bk
        obtain ⟨g1,g2,g3,g4,g5,g6,g7⟩:=hob
        obtain ⟨us,hu,hr⟩:=cutP_sim (g1.drop off) hc
        refine ⟨.string ⟨⟨bs⟩⟩,{σ with heap:=(killAll bk.al σ.heap).set ai (.cells {bk with frozen:=true,al:=[] }) },η,fun K=>?_,ustr_chg hs hl hai hb,rd_mk (by simp [lt])⟩
        dsimp only
        rw [if_neg h0,if_neg h1]
        simp only [cells?_some.2 hb,AW.rdN,dropV_eq,hu]
        rw [if_neg (by rw [g6,g5,g2];simpa using h2),bytesP_sim hr hbs]
        rfl
      ·simp at hp
   ·simp at hp
  ·obtain ⟨rfl,_⟩:=rd_lit hx
   split at hp
   ·rename_i kd k
    obtain ⟨rfl,_⟩:=rd_lit hv
    split at hp
    ·rename_i h0
     simp only [Option.some.injEq,Prod.mk.injEq] at hp
     obtain ⟨rfl,rfl⟩:=hp
     exact ⟨.string .empty,σ,η,fun K=>by dsimp only;rw [if_pos h0],⟨fun _ _=>rfl,Nat.le_refl _,fun _ _=>rfl,Eta.le_refl _,hs⟩,rd_mk (by simp [lt])⟩
    ·simp at hp
   ·simp at hp
  ·simp at hp
 | _=>simp [pevE] at hp
end
end Go.Proofs.YtnpoloachkcadaaGreatDoor.Ai
