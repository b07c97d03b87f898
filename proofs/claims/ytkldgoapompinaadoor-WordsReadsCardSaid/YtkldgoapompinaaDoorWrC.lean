/- A PART OF THE PROOF: a step of the proof that the law's code does what its contracts say, by an interpreter of the program's functions that is proved to be sound. -/
import Derived.Test.YtkldgoapompinaaDoorWrA
import Derived.Test.YtkldgoapompinaaDoorWrB
namespace Go.Proofs.YtkldgoapompinaaDoor.Ai
open Go
set_option linter.unusedVariables false
set_option linter.unusedSectionVars false
set_option maxRecDepth 10000
set_option maxHeartbeats 4000000
def isD (c:UInt8):Prop:=48≤c.toNat∧c.toNat≤57
instance (c:UInt8):Decidable (isD c):=inferInstanceAs (Decidable (_∧_))
def sk:List UInt8→Nat
 | []=>0
 | c::l=>if c.toNat=32 then sk l + 1 else 0
def refNum (z:Bool):Nat→List UInt8→Nat × Nat × Bool
 | v,[]=>(v,0,false)
 | v,c::l=>if isD c then (if z=true∨65535 < 10 * v + (c.toNat - 48) then (v,0,true) else ((refNum z (10 * v + (c.toNat - 48)) l).1,(refNum z (10 * v + (c.toNat - 48)) l).2.1 + 1,(refNum z (10 * v + (c.toNat - 48)) l).2.2)) else (v,0,false)
def refLet:Nat→Nat→List UInt8→List Nat→List Nat × Nat × Bool
 | 0,i,_,out=>(out,i,false)
 | k + 1,i,l,out=>
  match l.drop (sk l) with
  | []=>(out,i + sk l,false)
  | c::l2=>
   if isD c then
    (if (refNum (c.toNat == 48) (c.toNat - 48) l2).2.2=true then (out,i + sk l + 1 + (refNum (c.toNat == 48) (c.toNat - 48) l2).2.1,true)
    else refLet k (i + sk l + 1 + (refNum (c.toNat == 48) (c.toNat - 48) l2).2.1) (l2.drop (refNum (c.toNat == 48) (c.toNat - 48) l2).2.1) (out++[(refNum (c.toNat == 48) (c.toNat - 48) l2).1]))
   else (out,i + sk l,false)
theorem sk_le:∀ l:List UInt8,sk l≤l.length
 | []=>Nat.le_refl _
 | c::l=>by
  unfold sk
  split
  ·have:=sk_le l;simp only [List.length_cons];omega
  ·omega
theorem refNum_le (z:Bool):∀ (l:List UInt8) (v:Nat),(refNum z v l).2.1≤l.length
 | [],v=>Nat.le_refl _
 | c::l,v=>by
  unfold refNum
  split
  ·split
   ·exact Nat.zero_le _
   ·have:=refNum_le z l (10 * v + (c.toNat - 48));simp only [List.length_cons];omega
  ·exact Nat.zero_le _
theorem refLet_fuel:∀ (k k' i:Nat) (l:List UInt8) (out:List Nat),l.length < k→l.length < k'→refLet k i l out=refLet k' i l out
 | 0,_,_,_,_,h,_=>by omega
 | _,0,_,_,_,_,h=>by omega
 | k + 1,k' + 1,i,l,out,h,h'=>by
  unfold refLet
  have hs:=sk_le l
  have hd:(l.drop (sk l)).length=l.length - sk l:=List.length_drop
  cases hl:l.drop (sk l) with
  | nil=>rfl
  | cons c l2=>
   rw [hl] at hd
   simp only [List.length_cons] at hd
   have:=refNum_le (c.toNat == 48) l2 (c.toNat - 48)
   dsimp only
   rw [refLet_fuel k k' _ _ _ (by rw [List.length_drop];omega) (by rw [List.length_drop];omega)]
theorem refLet_ge:∀ (k i:Nat) (l:List UInt8) (out:List Nat),i≤(refLet k i l out).2.1
 | 0,i,l,out=>Nat.le_refl _
 | k + 1,i,l,out=>by
  unfold refLet
  cases l.drop (sk l) with
  | nil=>exact Nat.le_add_right _ _
  | cons c l2=>
   dsimp only
   split
   ·split
    ·dsimp only;omega
    ·exact Nat.le_trans (by omega) (refLet_ge k _ _ _)
   ·exact Nat.le_add_right _ _
theorem numL_ref (z:Bool):∀ (l:List UInt8) (v n:Nat),0 < n→(z=true↔v=0)→numL v n l=((refNum z v l).1,n + (refNum z v l).2.1)
 | [],v,n,_,_=>rfl
 | c::l,v,n,hn,hz=>by
  unfold numL refNum
  by_cases hc:isD c
  ·rw [if_pos hc,if_pos (show 48≤c.toNat∧c.toNat≤57 from hc)]
   by_cases hb:z=true∨65535 < 10 * v + (c.toNat - 48)
   ·rw [if_pos hb,if_pos (by rcases hb with h | h;exact .inl ⟨hn,hz.1 h⟩;exact .inr h)]
    rfl
   ·rw [if_neg hb,if_neg (by rintro (⟨_,h⟩ | h);exact hb (.inl (hz.2 h));exact hb (.inr h))]
    have hv:v ≠ 0:=fun h=>hb (.inl (hz.2 h))
    have hzf:¬ z=true:=fun h=>hb (.inl h)
    rw [numL_ref z l _ (n + 1) (by omega) ⟨fun h=>absurd h hzf,fun h=>by omega⟩]
    simp only [Prod.mk.injEq,true_and]
    omega
  ·rw [if_neg hc,if_neg (show ¬ (48≤c.toNat∧c.toNat≤57) from hc)];rfl
theorem numL_first {c:UInt8} {l:List UInt8} (h:isD c):numL 0 0 (c::l)=((refNum (c.toNat == 48) (c.toNat - 48) l).1,1 + (refNum (c.toNat == 48) (c.toNat - 48) l).2.1):=by
 have hc:=c.toNat_lt
 unfold isD at h
 rw [numL,if_pos h,if_neg (by omega)]
 rw [show 10 * 0 + (c.toNat - 48)=c.toNat - 48 by omega,Nat.zero_add]
 exact numL_ref _ l _ 1 (by omega) (by rw [beq_iff_eq];omega)
theorem refNum_stop (z:Bool):∀ (l:List UInt8) (v:Nat),∀ c l',l.drop (refNum z v l).2.1=c::l'→(isD c↔(refNum z v l).2.2=true)
 | [],v,c,l',h=>by simp [refNum] at h
 | c0::l,v,c,l',h=>by
  unfold refNum at h ⊢
  by_cases hc:isD c0
  ·rw [if_pos hc] at h ⊢
   by_cases hb:z=true∨65535 < 10 * v + (c0.toNat - 48)
   ·rw [if_pos hb] at h ⊢
    simp only [List.drop_zero,List.cons.injEq] at h
    rw [← h.1];simp [hc]
   ·rw [if_neg hb] at h ⊢
    simp only [List.drop_succ_cons] at h
    exact refNum_stop z l _ c l' h
  ·rw [if_neg hc] at h ⊢
   simp only [List.drop_zero,List.cons.injEq] at h
   rw [← h.1];simp [hc]
theorem refNum_end (z:Bool):∀ (l:List UInt8) (v:Nat),l.drop (refNum z v l).2.1=[]→(refNum z v l).2.2=false
 | [],v,h=>rfl
 | c0::l,v,h=>by
  unfold refNum at h ⊢
  by_cases hc:isD c0
  ·rw [if_pos hc] at h ⊢
   by_cases hb:z=true∨65535 < 10 * v + (c0.toNat - 48)
   ·rw [if_pos hb] at h;simp at h
   ·rw [if_neg hb] at h ⊢
    simp only [List.drop_succ_cons] at h
    exact refNum_end z l _ h
  ·rw [if_neg hc] at h;simp at h
theorem sk_stop:∀ l:List UInt8,∀ c l',l.drop (sk l)=c::l'→c.toNat ≠ 32
 | [],c,l',h=>by simp [sk] at h
 | c0::l,c,l',h=>by
  unfold sk at h
  by_cases hc:c0.toNat=32
  ·rw [if_pos hc,List.drop_succ_cons] at h;exact sk_stop l c l' h
  ·rw [if_neg hc] at h
   simp only [List.drop_zero,List.cons.injEq] at h
   rw [← h.1];exact hc
theorem rd_sk {K:Nat} {st lp:List Nat} {o sh:Bool}:∀ (l:List UInt8) (i:Nat) (p:Bool),l.length≤K→rdM (K + 1) i l st lp o sh p=rdM (K + 1) (i + sk l) (l.drop (sk l)) st lp o sh (p || decide (0 < sk l))
 | [],i,p,_=>by simp [sk]
 | c::l,i,p,h=>by
  simp only [List.length_cons] at h
  unfold sk
  by_cases hc:c.toNat=32
  ·rw [if_pos hc,rd_sp (by omega) hc,rd_sk l (i + 1) true (by omega),List.drop_succ_cons]
   simp only [Bool.true_or,Nat.zero_lt_succ,decide_true,Bool.or_true]
   rw [show i + 1 + sk l=i + (sk l + 1) by omega]
  ·rw [if_neg hc];simp
def rErr (i:Nat):(List Nat × List Nat) × Nat × Nat:=(([],[]),51,i)
theorem rd_nil {K i:Nat} {st lp:List Nat} {o p:Bool}:rdM (K + 1) i [] st lp o false p=rErr i:=by rw [rdM,if_neg (by decide)];rfl
theorem rd_A:∀ (k K i:Nat) (l:List UInt8) (st:List Nat) (p:Bool),l.length < k→l.length≤K→(p=true∨∀ c l',l=c::l'→¬ isD c)→
  rdM (K + 1) i l st [] false false p=if (refLet k i l st).2.2=true then rErr (refLet k i l st).2.1 else
   match l.drop ((refLet k i l st).2.1 - i) with
   | []=>rErr (refLet k i l st).2.1
   | c::l2=>if c.toNat=40 then rdM (K + 1) ((refLet k i l st).2.1 + 1) l2 (refLet k i l st).1 [] true false true else rErr (refLet k i l st).2.1
 | 0,K,i,l,st,p,h,_,_=>by omega
 | k + 1,K,i,l,st,p,h,hK,hp=>by
  rw [rd_sk l i p hK]
  unfold refLet
  have hs:=sk_le l
  have hdl:(l.drop (sk l)).length=l.length - sk l:=List.length_drop
  cases hd:l.drop (sk l) with
  | nil=>
   simp only [Bool.false_eq_true,if_false]
   rw [rd_nil,show i + sk l - i=sk l by omega,hd]
  | cons c l2=>
   have h32:=sk_stop l c l2 hd
   rw [hd] at hdl
   simp only [List.length_cons] at hdl
   by_cases hc:isD c
   ·have hc':48≤c.toNat∧c.toNat≤57:=hc
    simp only [if_pos hc]
    have hpp:(p || decide (0 < sk l))=true:=by
     rcases hp with rfl | hp
     ·rfl
     ·by_cases h0:0 < sk l
      ·simp [h0]
      ·have h00:sk l=0:=by omega
       rw [h00,List.drop_zero] at hd
       exact absurd hc (hp c l2 hd)
    rw [hpp,rd_num (by omega) hc',numL_first hc]
    have hrl:=refNum_le (c.toNat == 48) l2 (c.toNat - 48)
    have hst:=refNum_stop (c.toNat == 48) l2 (c.toNat - 48)
    have hen:=refNum_end (c.toNat == 48) l2 (c.toNat - 48)
    generalize refNum (c.toNat == 48) (c.toNat - 48) l2=r at hrl hst hen
    obtain ⟨v,n,bad⟩:=r
    simp only at hrl hst hen ⊢
    simp only [Bool.false_eq_true,if_false]
    rw [show 1 + n=n + 1 by omega,List.drop_succ_cons,show i + sk l + (n + 1)=i + sk l + 1 + n by omega]
    by_cases hb:bad=true
    ·subst hb
     simp only [if_true]
     cases hn:l2.drop n with
     | nil=>rw [hn] at hen;exact absurd (hen rfl) (by decide)
     | cons c3 l3=>
      have hc3:isD c3:=(hst c3 l3 hn).2 rfl
      have hc3':48≤c3.toNat∧c3.toNat≤57:=hc3
      rw [rd_err (by omega) (by rintro ⟨h,_⟩;omega) (by rintro ⟨h,_⟩;omega) (by rintro ⟨_,h,_⟩;cases h)]
      rfl
    ·have hbf:bad=false:=by simpa using hb
     subst hbf
     simp only [Bool.false_eq_true,if_false]
     have hll:(l2.drop n).length=l2.length - n:=List.length_drop
     rw [rd_A k K (i + sk l + 1 + n) (l2.drop n) (st++[v]) false (by omega) (by omega) (.inr fun c' l' h' hd'=>by have:=(hst c' l' h').1 hd';cases this)]
     have hat:∀ m,l.drop (i + sk l + 1 + n + m - i)=(l2.drop n).drop m:=fun m=>by
      rw [List.drop_drop,show i + sk l + 1 + n + m - i=sk l + (n + m + 1) by omega,← List.drop_drop,hd,List.drop_succ_cons]
     have hge:=refLet_ge k (i + sk l + 1 + n) (l2.drop n) (st++[v])
     have:=hat ((refLet k (i + sk l + 1 + n) (l2.drop n) (st++[v])).2.1 - (i + sk l + 1 + n))
     rw [show i + sk l + 1 + n + ((refLet k (i + sk l + 1 + n) (l2.drop n) (st++[v])).2.1 - (i + sk l + 1 + n)) - i=(refLet k (i + sk l + 1 + n) (l2.drop n) (st++[v])).2.1 - i by omega] at this
     rw [this]
   ·have hc':¬ (48≤c.toNat∧c.toNat≤57):=hc
    simp only [if_neg hc,Bool.false_eq_true,if_false]
    rw [show i + sk l - i=sk l by omega,hd]
    dsimp only
    by_cases h40:c.toNat=40
    ·rw [if_pos h40,rd_op (by omega) h40]
    ·rw [if_neg h40,rd_err h32 (by rintro ⟨h,_⟩;exact h40 h) (by rintro ⟨_,h,_⟩;cases h) (by rintro ⟨h,_⟩;exact hc' h)]
     rfl
theorem rd_end {K:Nat} {st lp:List Nat} {p:Bool} {l:List UInt8} {i:Nat} (h:l.length≤K):rdM (K + 1) i l st lp true true p=if l.drop (sk l)=[] then ((st,lp),0,0) else rErr (i + sk l):=by
 rw [rd_sk l i p h]
 have hs:=sk_le l
 have hdl:(l.drop (sk l)).length=l.length - sk l:=List.length_drop
 cases hd:l.drop (sk l) with
 | nil=>rw [if_pos rfl,rdM,if_pos rfl]
 | cons c l2=>
  rw [if_neg (by simp)]
  have h32:=sk_stop l c l2 hd
  ·rw [rd_err h32 (by rintro ⟨_,h⟩;cases h) (by rintro ⟨_,_,h,_⟩;cases h) (by rintro ⟨_,_,h⟩;cases h)];rfl
theorem rd_B:∀ (k K i:Nat) (l:List UInt8) (st lp:List Nat) (p:Bool),l.length < k→l.length≤K→(p=true∨∀ c l',l=c::l'→¬ isD c)→
  rdM (K + 1) i l st lp true false p=if (refLet k i l lp).2.2=true then rErr (refLet k i l lp).2.1 else
   match l.drop ((refLet k i l lp).2.1 - i) with
   | []=>rErr (refLet k i l lp).2.1
   | c::l2=>if c.toNat=41∧(refLet k i l lp).1 ≠ [] then (if l2.drop (sk l2)=[] then ((st,(refLet k i l lp).1),0,0) else rErr ((refLet k i l lp).2.1 + 1 + sk l2)) else rErr (refLet k i l lp).2.1
 | 0,K,i,l,st,lp,p,h,_,_=>by omega
 | k + 1,K,i,l,st,lp,p,h,hK,hp=>by
  rw [rd_sk l i p hK]
  unfold refLet
  have hs:=sk_le l
  have hdl:(l.drop (sk l)).length=l.length - sk l:=List.length_drop
  cases hd:l.drop (sk l) with
  | nil=>
   simp only [Bool.false_eq_true,if_false]
   rw [rd_nil,show i + sk l - i=sk l by omega,hd]
  | cons c l2=>
   have h32:=sk_stop l c l2 hd
   rw [hd] at hdl
   simp only [List.length_cons] at hdl
   by_cases hc:isD c
   ·have hc':48≤c.toNat∧c.toNat≤57:=hc
    simp only [if_pos hc]
    have hpp:(p || decide (0 < sk l))=true:=by
     rcases hp with rfl | hp
     ·rfl
     ·by_cases h0:0 < sk l
      ·simp [h0]
      ·have h00:sk l=0:=by omega
       rw [h00,List.drop_zero] at hd
       exact absurd hc (hp c l2 hd)
    rw [hpp,rd_num (by omega) hc',numL_first hc]
    have hrl:=refNum_le (c.toNat == 48) l2 (c.toNat - 48)
    have hst:=refNum_stop (c.toNat == 48) l2 (c.toNat - 48)
    have hen:=refNum_end (c.toNat == 48) l2 (c.toNat - 48)
    generalize refNum (c.toNat == 48) (c.toNat - 48) l2=r at hrl hst hen
    obtain ⟨v,n,bad⟩:=r
    simp only at hrl hst hen ⊢
    simp only [if_true]
    rw [show 1 + n=n + 1 by omega,List.drop_succ_cons,show i + sk l + (n + 1)=i + sk l + 1 + n by omega]
    by_cases hb:bad=true
    ·subst hb
     simp only [if_true]
     cases hn:l2.drop n with
     | nil=>rw [hn] at hen;exact absurd (hen rfl) (by decide)
     | cons c3 l3=>
      have hc3:isD c3:=(hst c3 l3 hn).2 rfl
      have hc3':48≤c3.toNat∧c3.toNat≤57:=hc3
      rw [rd_err (by omega) (by rintro ⟨h,_⟩;omega) (by rintro ⟨h,_⟩;omega) (by rintro ⟨_,h,_⟩;cases h)]
      rfl
    ·have hbf:bad=false:=by simpa using hb
     subst hbf
     simp only [Bool.false_eq_true,if_false]
     have hll:(l2.drop n).length=l2.length - n:=List.length_drop
     rw [rd_B k K (i + sk l + 1 + n) (l2.drop n) st (lp++[v]) false (by omega) (by omega) (.inr fun c' l' h' hd'=>by have:=(hst c' l' h').1 hd';cases this)]
     have hat:∀ m,l.drop (i + sk l + 1 + n + m - i)=(l2.drop n).drop m:=fun m=>by
      rw [List.drop_drop,show i + sk l + 1 + n + m - i=sk l + (n + m + 1) by omega,← List.drop_drop,hd,List.drop_succ_cons]
     have hge:=refLet_ge k (i + sk l + 1 + n) (l2.drop n) (lp++[v])
     have:=hat ((refLet k (i + sk l + 1 + n) (l2.drop n) (lp++[v])).2.1 - (i + sk l + 1 + n))
     rw [show i + sk l + 1 + n + ((refLet k (i + sk l + 1 + n) (l2.drop n) (lp++[v])).2.1 - (i + sk l + 1 + n)) - i=(refLet k (i + sk l + 1 + n) (l2.drop n) (lp++[v])).2.1 - i by omega] at this
     rw [this]
   ·have hc':¬ (48≤c.toNat∧c.toNat≤57):=hc
    simp only [if_neg hc,Bool.false_eq_true,if_false]
    rw [show i + sk l - i=sk l by omega,hd]
    dsimp only
    by_cases h41:c.toNat=41∧lp ≠ []
    ·rw [if_pos h41,rd_cl (by omega) h41.1 h41.2,rd_end (by omega)]
    ·rw [if_neg h41,rd_err h32 (by rintro ⟨_,h⟩;cases h) (by rintro ⟨h1,_,_,h2⟩;exact h41 ⟨h1,h2⟩) (by rintro ⟨h,_⟩;exact hc' h)]
     rfl
def refR (l:List UInt8):(List Nat × List Nat) × Nat × Nat:=
 if (refLet (l.length + 1) 0 l []).2.2=true then rErr (refLet (l.length + 1) 0 l []).2.1 else
  match l.drop (refLet (l.length + 1) 0 l []).2.1 with
  | []=>rErr (refLet (l.length + 1) 0 l []).2.1
  | c::l2=>if c.toNat=40 then
    (if (refLet (l.length + 1) ((refLet (l.length + 1) 0 l []).2.1 + 1) l2 []).2.2=true then rErr (refLet (l.length + 1) ((refLet (l.length + 1) 0 l []).2.1 + 1) l2 []).2.1 else
     match l2.drop ((refLet (l.length + 1) ((refLet (l.length + 1) 0 l []).2.1 + 1) l2 []).2.1 - ((refLet (l.length + 1) 0 l []).2.1 + 1)) with
     | []=>rErr (refLet (l.length + 1) ((refLet (l.length + 1) 0 l []).2.1 + 1) l2 []).2.1
     | c::l3=>if c.toNat=41∧(refLet (l.length + 1) ((refLet (l.length + 1) 0 l []).2.1 + 1) l2 []).1 ≠ [] then
       (if l3.drop (sk l3)=[] then (((refLet (l.length + 1) 0 l []).1,(refLet (l.length + 1) ((refLet (l.length + 1) 0 l []).2.1 + 1) l2 []).1),0,0) else rErr ((refLet (l.length + 1) ((refLet (l.length + 1) 0 l []).2.1 + 1) l2 []).2.1 + 1 + sk l3))
       else rErr (refLet (l.length + 1) ((refLet (l.length + 1) 0 l []).2.1 + 1) l2 []).2.1)
   else rErr (refLet (l.length + 1) 0 l []).2.1
theorem readM_ref {s:ByteArray} (h:¬ (65536:Int) < (s.size:Nat)):readM s=refR s.data.toList:=by
 have hls:s.data.toList.length=s.size:=Array.length_toList
 unfold readM
 rw [ltB_f h,if_neg (by decide)]
 generalize s.data.toList=l at hls
 rw [← hls,rd_A (l.length + 1) l.length 0 l [] true (by omega) (Nat.le_refl _) (.inl rfl)]
 unfold refR
 split
 ·rfl
 ·rw [Nat.sub_zero]
  have hdl:(l.drop (refLet (l.length + 1) 0 l []).2.1).length=l.length - (refLet (l.length + 1) 0 l []).2.1:=List.length_drop
  cases hd:l.drop (refLet (l.length + 1) 0 l []).2.1 with
  | nil=>rfl
  | cons c l2=>
   rw [hd] at hdl
   simp only [List.length_cons] at hdl
   dsimp only
   split
   ·rw [rd_B (l.length + 1) l.length _ l2 _ [] true (by omega) (by omega) (.inl rfl)]
   ·rfl
end Go.Proofs.YtkldgoapompinaaDoor.Ai
namespace Go.Proofs.YtkldgoapompinaaDoor.Ai
open Go
set_option linter.unusedVariables false
set_option linter.unusedSectionVars false
set_option maxRecDepth 10000
set_option maxHeartbeats 4000000
theorem drop_cons_at {s:ByteArray} {j:Nat} {c:UInt8} {l:List UInt8} (h:s.data.toList.drop j=c::l):j < s.size∧s.data.toList[j]? = some c∧s.data.toList.drop (j + 1)=l:=by
 have hls:s.data.toList.length=s.size:=Array.length_toList
 have hj:j < s.size:=by
  by_cases hj:j < s.size
  ·exact hj
  ·rw [List.drop_of_length_le (by omega)] at h;cases h
 rw [List.drop_eq_getElem_cons (by omega)] at h
 obtain ⟨h1,h2⟩:=List.cons.inj h
 exact ⟨hj,by rw [List.getElem?_eq_getElem (by omega),h1],h2⟩
section
variable {C:Ctx} (hm:C.P.follows .mixedOrders=true) (hC:TabOK C.P C.ng C.ts Tryd.tab)
include hm hC
theorem letters_ok (s:ByteArray) (hs:s.size < 2 ^ 36) (i0:Nat) (hi0:i0≤s.size):PFun C 80 [.lit (.string s),.lit (.int .i64 (i0:Nat))]
  (.tup [.sz (N16 (refLet (s.size + 1) i0 (s.data.toList.drop i0) []).1) (refLet (s.size + 1) i0 (s.data.toList.drop i0) []).1.length,.lit (.int .i64 (if (refLet (s.size + 1) i0 (s.data.toList.drop i0) []).2.2=true then -1 - ((refLet (s.size + 1) i0 (s.data.toList.drop i0) []).2.1:Int) else ((refLet (s.size + 1) i0 (s.data.toList.drop i0) []).2.1:Int)))]):=by
 have hls:s.data.toList.length=s.size:=Array.length_toList
 generalize hR:refLet (s.size + 1) i0 (s.data.toList.drop i0) []=R
 obtain ⟨ro,ra,rb⟩:=R
 simp only
 refine PFun.body hm hC (show Tryd.tab.get 80=some Tryd.c80 from rfl) rfl ?_
 simp only [Tryd.c80,startP,List.length_cons,List.length_nil,Nat.reduceAdd,Nat.reduceSub,List.replicate,List.cons_append,List.nil_append]
 repeat (refine PRun.wpn rfl ?_;simp only [wp,wo_nil,wo_p,onO_s,pv_int,pv_nilS,put_some,pevP,setP,PW.none,true_or,true_and,reduceCtorEq,resPs,resP,tupP])
 refine PRun.gh (Gh.mr (true::true::false::false::false::false::true::false::false::false::false::false::false::false::false::false::false::false::false::false::false::false::false::false::false::false::false::false::false::false::false::false::false::false::false::false::false::false::false::false::false::false::false::false::false::false::false::false::false::false::false::false::false::false::false::false::false::false::false::false::false::false::false::false::false::false::false::false::false::false::false::false::false::false::false::false::false::false::false::false::false::false::false::false::false::false::false::[]) [] 1 rfl ?_)
 simp only [↓reduceIte,Bool.false_eq_true,renL,renP,renH,maskP]
 refine PRun.loopG (fun m t π=>∃ (i:Nat) (out:List Nat),t=(.lit (.string s)::.lit (.int .i64 (i:Nat))::.junk::.junk::.junk::.junk::slotP (0,out.length)::.junk::.junk::.junk::.junk::.junk::.junk::.junk::.junk::.junk::.junk::.junk::.junk::.junk::.junk::.junk::.junk::.junk::.junk::.junk::.junk::.junk::.junk::.junk::.junk::.junk::.junk::.junk::.junk::.junk::.junk::.junk::.junk::.junk::.junk::.junk::.junk::.junk::.junk::.junk::.junk::.junk::.junk::.junk::.junk::.junk::.junk::.junk::.junk::.junk::.junk::.junk::.junk::.junk::.junk::.junk::.junk::.junk::.junk::.junk::.junk::.junk::.junk::.junk::.junk::.junk::.junk::.junk::.junk::.junk::.junk::.junk::.junk::.junk::.junk::.junk::.junk::.junk::.junk::.junk::.junk::[])∧i≤s.size∧m=s.size - i∧out.length≤i∧refLet (s.size + 1) i (s.data.toList.drop i) out=(ro,ra,rb)∧π=⟨1,objs 0 out⟩) ?_ (s.size - i0) _ _ ⟨i0,[],rfl,hi0,rfl,Nat.zero_le _,hR,rfl⟩
 clear hR hi0 i0
 rintro m t π ⟨i,out,rfl,hi,rfl,hol,hR,rfl⟩
 repeat (refine PRun.wpn rfl ?_;simp only [wp])
 refine PRun.gh (Gh.mask (true::true::false::false::false::false::true::false::false::false::false::false::false::false::false::false::false::false::false::false::false::false::false::false::false::false::false::false::false::false::false::false::false::false::false::false::false::false::false::false::false::false::false::false::false::false::false::false::false::false::false::false::false::false::false::false::false::false::false::false::false::false::false::false::false::false::false::false::false::false::false::false::false::false::false::false::false::false::false::false::false::false::false::false::false::false::false::[]) ?_)
 simp only [↓reduceIte,Bool.false_eq_true,maskP]
 refine PRun.loopG (fun m t π=>∃ j:Nat,t=(.lit (.string s)::.lit (.int .i64 (j:Nat))::.junk::.junk::.junk::.junk::slotP (0,out.length)::.junk::.junk::.junk::.junk::.junk::.junk::.junk::.junk::.junk::.junk::.junk::.junk::.junk::.junk::.junk::.junk::.junk::.junk::.junk::.junk::.junk::.junk::.junk::.junk::.junk::.junk::.junk::.junk::.junk::.junk::.junk::.junk::.junk::.junk::.junk::.junk::.junk::.junk::.junk::.junk::.junk::.junk::.junk::.junk::.junk::.junk::.junk::.junk::.junk::.junk::.junk::.junk::.junk::.junk::.junk::.junk::.junk::.junk::.junk::.junk::.junk::.junk::.junk::.junk::.junk::.junk::.junk::.junk::.junk::.junk::.junk::.junk::.junk::.junk::.junk::.junk::.junk::.junk::.junk::.junk::[])∧i≤j∧j≤s.size∧m=s.size - j∧j + sk (s.data.toList.drop j)=i + sk (s.data.toList.drop i)∧π=⟨1,objs 0 out⟩) ?_ (s.size - i) _ _ ⟨i,rfl,Nat.le_refl _,hi,rfl,rfl,rfl⟩
 rintro m t π ⟨j,rfl,hij,hj,rfl,hsk,rfl⟩
 have hw:j < s.size→IntKind.i64.wrap (((j:Nat):Int) + 1)=((j + 1:Nat):Int):=fun _=>by rw [wrap64 (by omega) (by omega)];omega
 by_cases hlt:(j:Int) < (s.size:Nat)
 ·have hjl:j < s.size:=by omega
  have hc:=idx_some hjl
  have hd:=data_drop hjl
  generalize s[j]=c at hc hd
  have hcb:=c.toNat_lt
  have hw:=hw hjl
  by_cases a1:((c.toNat:Nat):Int)=32
  ·repeat (refine PRun.wpn rfl ?_;simp only [wp,wo_nil,wo_p,wo_g,beq_self_eq_true,onO_s,onG_t,wanted_g,wantB_b,pv_t,pv_int,put_some,bi_add,bi_eql,bi_lss,pevP,getP,setP,Option.map_some,Int.natCast_nonneg,Int.toNat_natCast,↓reduceIte,ltB_t hlt,hc,eqB_t a1,hw])
   refine Gh.mask (true::true::false::false::false::false::true::false::false::false::false::false::false::false::false::false::false::false::false::false::false::false::false::false::false::false::false::false::false::false::false::false::false::false::false::false::false::false::false::false::false::false::false::false::false::false::false::false::false::false::false::false::false::false::false::false::false::false::false::false::false::false::false::false::false::false::false::false::false::false::false::false::false::false::false::false::false::false::false::false::false::false::false::false::false::false::false::[]) ?_
   refine ⟨s.size - (j + 1),by omega,j + 1,rfl,by omega,by omega,rfl,?_,rfl⟩
   rw [← hsk,hd,sk,if_pos (by omega)];omega
  ·have hs0:sk (s.data.toList.drop j)=0:=by rw [hd,sk,if_neg (by omega)]
   rw [hs0,Nat.add_zero] at hsk
   have hdr:(s.data.toList.drop i).drop (sk (s.data.toList.drop i))=c::s.data.toList.drop (j + 1):=by rw [List.drop_drop,← hsk,hd]
   have hne:¬ ((j:Nat):Int)=((s.size:Nat):Int):=by omega
   rw [refLet,hdr] at hR
   dsimp only at hR
   rw [← hsk] at hR
   by_cases hD:isD c
   ·rw [if_pos hD] at hR
    unfold isD at hD
    have w1:IntKind.u8.wrap (((c.toNat:Nat):Int) - 48)=((c.toNat - 48:Nat):Int):=by rw [show ((c.toNat:Nat):Int) - 48=((c.toNat - 48:Nat):Int) by omega];exact Int.emod_eq_of_lt (by omega) (by simp only [IntKind.bits];omega)
    have w2:IntKind.i64.wrap ((c.toNat - 48:Nat):Int)=((c.toNat - 48:Nat):Int):=wrap64 (by omega) (by omega)
    obtain ⟨z,hz⟩:∃ z,(c.toNat == 48)=z:=⟨_,rfl⟩
    have hz8:eqB ((c.toNat - 48:Nat):Int) 0=z:=by
     rw [← hz]
     by_cases h:c.toNat=48
     ·rw [eqB_t (by omega)];simp [h]
     ·rw [eqB_f (by omega)];simp [h]
    rw [hz] at hR
    repeat (refine PRun.wpn rfl ?_;simp only [wp,wo_nil,wo_p,wo_g,beq_self_eq_true,onO_s,onG_t,wanted_g,wantB_b,pv_t,pv_int,put_some,bi_add,bi_sub,bi_eql,bi_lss,bi_gtr,pevP,getP,setP,Option.map_some,Int.natCast_nonneg,Int.toNat_natCast,↓reduceIte,Bool.false_eq_true,hc,eqB_f a1,eqB_f hne,ltB_f (show ¬ ((c.toNat:Nat):Int) < 48 by omega),ltB_f (show ¬ (57:Int) < ((c.toNat:Nat):Int) by omega),ltB_t hlt,w1,w2,hz8,hw])
    refine PRun.gh (Gh.mask (true::true::false::false::false::false::true::true::true::false::false::false::false::false::false::false::false::false::false::false::false::false::false::false::false::false::false::false::false::false::false::false::false::false::false::false::false::false::false::false::false::false::false::false::false::false::false::false::false::false::false::false::false::false::false::false::false::false::false::false::false::false::false::false::false::false::false::false::false::false::false::false::false::false::false::false::false::false::false::false::false::false::false::false::false::false::false::[]) ?_)
    simp only [↓reduceIte,Bool.false_eq_true,maskP]
    generalize hv0:c.toNat - 48=v0 at hR ⊢
    generalize hl2:s.data.toList.drop (j + 1)=l2 at hR
    refine PRun.loopG (fun m t π=>∃ (v n k:Nat),t=(.lit (.string s)::.lit (.int .i64 (k:Nat))::.junk::.junk::.junk::.junk::slotP (0,out.length)::.lit (.int .i64 (v:Nat))::.lit (.bool z)::.junk::.junk::.junk::.junk::.junk::.junk::.junk::.junk::.junk::.junk::.junk::.junk::.junk::.junk::.junk::.junk::.junk::.junk::.junk::.junk::.junk::.junk::.junk::.junk::.junk::.junk::.junk::.junk::.junk::.junk::.junk::.junk::.junk::.junk::.junk::.junk::.junk::.junk::.junk::.junk::.junk::.junk::.junk::.junk::.junk::.junk::.junk::.junk::.junk::.junk::.junk::.junk::.junk::.junk::.junk::.junk::.junk::.junk::.junk::.junk::.junk::.junk::.junk::.junk::.junk::.junk::.junk::.junk::.junk::.junk::.junk::.junk::.junk::.junk::.junk::.junk::.junk::.junk::[])∧k=j + 1 + n∧k≤s.size∧m=s.size - k∧v≤65535∧refNum z v0 l2=((refNum z v (s.data.toList.drop k)).1,n + (refNum z v (s.data.toList.drop k)).2.1,(refNum z v (s.data.toList.drop k)).2.2)∧π=⟨1,objs 0 out⟩) ?_ (s.size - (j + 1)) _ _ ⟨v0,0,j + 1,rfl,rfl,by omega,rfl,by omega,by rw [hl2];simp,rfl⟩
    rintro m t π ⟨v,n,k,rfl,hk,hks,rfl,hv,hN,rfl⟩
    have fin:refNum z v (s.data.toList.drop k)=(v,0,false)→refLet (s.size + 1) k (s.data.toList.drop k) (out++[v])=(ro,ra,rb):=by
     intro he
     rw [he] at hN
     rw [hN] at hR
     simp only [Bool.false_eq_true,if_false,Nat.add_zero] at hR
     rw [show j + 1 + n=k by omega,← hl2,List.drop_drop,show j + 1 + n=k by omega] at hR
     rw [← hR]
     exact refLet_fuel _ _ _ _ _ (by rw [List.length_drop];omega) (by rw [List.length_drop];omega)
    have hu:IntKind.u16.wrap ((v:Nat):Int)=((v:Nat):Int):=Int.emod_eq_of_lt (by omega) (by simp only [IntKind.bits];omega)
    have hap:∀ (l:List Nat) (ρ:List (Nat × Nat)),renL ρ (N16 l++[PV.lit (.int .u16 (v:Nat))])=N16 (l++[v]):=fun l ρ=>by rw [show N16 l++[PV.lit (.int .u16 (v:Nat))]=N16 (l++[v]) by rw [N16_app];rfl,renL_N16]
    by_cases hkl:(k:Int) < (s.size:Nat)
    ·have hkk:k < s.size:=by omega
     have hc2:=idx_some hkk
     have hd2:=data_drop hkk
     generalize s[k]=c2 at hc2 hd2
     have hcb2:=c2.toNat_lt
     rw [hd2] at hN fin
     by_cases b1:(48:Int)≤((c2.toNat:Nat):Int)
     ·by_cases b2:((c2.toNat:Nat):Int)≤57
      ·have hD2:isD c2:=⟨by omega,by omega⟩
       have w1:IntKind.u8.wrap (((c2.toNat:Nat):Int) - 48)=((c2.toNat - 48:Nat):Int):=by rw [show ((c2.toNat:Nat):Int) - 48=((c2.toNat - 48:Nat):Int) by omega];exact Int.emod_eq_of_lt (by omega) (by simp only [IntKind.bits];omega)
       have w2:IntKind.i64.wrap ((c2.toNat - 48:Nat):Int)=((c2.toNat - 48:Nat):Int):=wrap64 (by omega) (by omega)
       have w3:IntKind.i64.wrap (10 * ((v:Nat):Int))=((10 * v:Nat):Int):=by rw [wrap64 (by omega) (by omega)];omega
       have w4:IntKind.i64.wrap (((10 * v:Nat):Int) + ((c2.toNat - 48:Nat):Int))=((10 * v + (c2.toNat - 48):Nat):Int):=by rw [wrap64 (by omega) (by omega)];omega
       have w5:IntKind.i64.wrap (((k:Nat):Int) + 1)=((k + 1:Nat):Int):=by rw [wrap64 (by omega) (by omega)];omega
       have w6:IntKind.i64.wrap (-1 - ((k:Nat):Int)) = -1 - ((k:Nat):Int):=wrap64 (by omega) (by omega)
       by_cases hb:z=true∨65535 < 10 * v + (c2.toNat - 48)
       ·rw [refNum,if_pos hD2,if_pos hb] at hN
        rw [hN] at hR
        simp only [if_true,Nat.add_zero,Prod.mk.injEq] at hR
        obtain ⟨rfl,hra,rfl⟩:=hR
        rw [show j + 1 + n=k by omega] at hra
        subst hra
        simp only [if_true]
        by_cases hz1:z=true
        ·repeat (refine PRun.wpn rfl ?_;simp only [wp,wo_nil,wo_p,wo_g,beq_self_eq_true,onO_s,onG_t,onG_f,wanted_g,wantB_b,b_tf,pv_t,pv_int,pv_bool,put_some,bi_add,bi_sub,bi_mul,bi_lss,bi_leq,bi_geq,pevP,getP,setP,Option.map_some,or_true,Int.natCast_nonneg,Int.toNat_natCast,true_and,↓reduceIte,reduceCtorEq,ltB_t hkl,hc2,leB_t b1,leB_t b2,w1,w2,w3,w4,hz1,w6])
         by_cases ho:out=[]
         ·subst ho
          exact .refl ⟨_,rfl,.tup (.cons .nil_sz (.cons (.refl _) .nil))⟩
         ·simp only [slot_ne ho,objs_ne ho]
          refine Gh.frz 0 rfl (pure_N16 _) rfl ?_
          simp only [frzP_u,List.drop_zero,↓reduceIte,frzL,frzP,frzH,Nat.le_refl]
          exact .refl ⟨_,rfl,.tup (.cons .sl_sz (.cons (.refl _) .nil))⟩
        ·have hz0:z=false:=by simpa using hz1
         repeat (refine PRun.wpn rfl ?_;simp only [wp,wo_nil,wo_p,wo_g,beq_self_eq_true,onO_s,onG_t,wanted_g,wantB_b,pv_t,pv_int,put_some,bi_add,bi_sub,bi_mul,bi_lss,bi_leq,bi_gtr,bi_geq,pevP,getP,setP,Option.map_some,or_true,Int.natCast_nonneg,Int.toNat_natCast,true_and,↓reduceIte,reduceCtorEq,ltB_t hkl,hc2,leB_t b1,leB_t b2,w1,w2,w3,w4,hz0,w6,ltB_t (show (65535:Int) < ((10 * v + (c2.toNat - 48):Nat):Int) by rcases hb with h | h;exact absurd h hz1;omega)])
         by_cases ho:out=[]
         ·subst ho
          exact .refl ⟨_,rfl,.tup (.cons .nil_sz (.cons (.refl _) .nil))⟩
         ·simp only [slot_ne ho,objs_ne ho]
          refine Gh.frz 0 rfl (pure_N16 _) rfl ?_
          simp only [List.drop_zero,↓reduceIte,frzL,frzP,frzH,Nat.le_refl]
          exact .refl ⟨_,rfl,.tup (.cons .sl_sz (.cons (.refl _) .nil))⟩
       ·have hz0:z=false:=by
         cases z with
         | false=>rfl
         | true=>exact absurd (.inl rfl) hb
        have hb2:¬ 65535 < 10 * v + (c2.toNat - 48):=fun h=>hb (.inr h)
        rw [refNum,if_pos hD2,if_neg hb] at hN
        repeat (refine PRun.wpn rfl ?_;simp only [wp,wo_nil,wo_p,wo_g,beq_self_eq_true,onO_s,onG_t,wanted_g,wantB_b,pv_t,pv_int,put_some,bi_add,bi_sub,bi_mul,bi_lss,bi_leq,bi_gtr,bi_geq,pevP,getP,setP,Option.map_some,Int.natCast_nonneg,Int.toNat_natCast,↓reduceIte,Bool.false_eq_true,ltB_t hkl,hc2,leB_t b1,leB_t b2,w1,w2,w3,w4,hz0,ltB_f (show ¬ (65535:Int) < ((10 * v + (c2.toNat - 48):Nat):Int) by omega),w5])
        refine Gh.mask (true::true::false::false::false::false::true::true::true::false::false::false::false::false::false::false::false::false::false::false::false::false::false::false::false::false::false::false::false::false::false::false::false::false::false::false::false::false::false::false::false::false::false::false::false::false::false::false::false::false::false::false::false::false::false::false::false::false::false::false::false::false::false::false::false::false::false::false::false::false::false::false::false::false::false::false::false::false::false::false::false::false::false::false::false::false::false::[]) ?_
        exact ⟨s.size - (k + 1),by omega,10 * v + (c2.toNat - 48),n + 1,k + 1,rfl,by omega,by omega,rfl,by omega,by rw [← hz0,hN];simp only [Prod.mk.injEq,true_and,and_true];omega,rfl⟩
      ·have hfin:=fin (by rw [refNum,if_neg (by unfold isD;omega)])
       clear fin
       have fin:=fun (_:Unit)=>hfin
       rw [← hd2] at fin
       by_cases ho:out=[]
       ·subst ho
        repeat (refine PRun.wpn rfl ?_;simp only [wp,wo_nil,wo_p,wo_n,wo_append,wo_g,beq_self_eq_true,onO_s,onN_s,onG_t,wanted_g,wantB_b,ble0,ble_succ,pv_t,pv_int,ov_nil,ov_cons,ov_int,put_some,bi_lss,bi_leq,bi_geq,pevP,pevN,pevE,getP,setP,lenP,srcP,appendP,fillP,spliceP,overP,plainP,isCell,look,PW.cs?,PW.push,cut0,cutS,List.length_nil,List.drop_zero,Option.map_some,Option.bind_some,Nat.mul_one,Int.natCast_nonneg,Int.toNat_natCast,Bool.and_true,↓reduceIte,ltL,lt,Nat.reduceAdd,Nat.reduceMul,Nat.reduceLeDiff,Nat.reduceLT,Bool.false_eq_true,Nat.zero_add,allPlain,Bool.false_or,Bool.not_true,List.length_nil,gt_iff_lt,ltB_t hkl,hc2,leB_t b1,leB_f b2,slot_z,objs_nil,hu])
        refine Gh.mr (true::true::false::false::false::false::true::false::false::false::false::false::false::false::false::false::false::false::false::false::false::false::false::false::false::false::false::false::false::false::false::false::false::false::false::false::false::false::false::false::false::false::false::false::false::false::false::false::false::false::false::false::false::false::false::false::false::false::false::false::false::false::false::false::false::false::false::false::false::false::false::false::false::false::false::false::false::false::false::false::false::false::false::false::false::false::false::[]) [(2,0)] 1 rfl ?_
        exact ⟨s.size - k,by omega,k,[v],rfl,by omega,rfl,by simp only [List.length_cons,List.length_nil];omega,fin (),rfl⟩
       ·have q0:out.length ≠ 0:=fun e=>ho (List.length_eq_zero_iff.1 e)
        have q1:¬ out.length + 1≤out.length:=by omega
        have q2:¬ 140737488355328 < (2 * (out.length + 1) + 768) * 2:=by omega
        have q3:=cutB (N16_len out)
        have q4:=N16_len out
        repeat (refine PRun.wpn rfl ?_;simp only [wp,wo_nil,wo_p,wo_n,wo_append,wo_g,beq_self_eq_true,onO_s,onN_s,onE_s,onG_t,wanted_g,wantB_b,ble0,ble_succ,pv_t,pv_int,ov_nil,ov_cons,ov_int,put_some,bi_lss,bi_leq,bi_geq,pevP,pevN,pevE,getP,setP,lenP,srcP,appendP,fillP,spliceP,overP,plainP,isCell,look,PW.cs?,PW.push,cut0,cutS,List.drop_zero,Option.map_some,Option.bind_some,Nat.mul_one,Int.natCast_nonneg,Int.toNat_natCast,Bool.and_true,↓reduceIte,reduceCtorEq,ltL,lt,Nat.reduceAdd,Bool.false_eq_true,Nat.zero_add,allPlain,setO,Bool.or_self,Bool.not_true,gt_iff_lt,ltB_t hkl,hc2,leB_t b1,leB_f b2,slot_ne ho,objs_ne ho,hu,q1,q2,q3,q4,bne_self_eq_false])
        refine Gh.mr (true::true::false::false::false::false::true::false::false::false::false::false::false::false::false::false::false::false::false::false::false::false::false::false::false::false::false::false::false::false::false::false::false::false::false::false::false::false::false::false::false::false::false::false::false::false::false::false::false::false::false::false::false::false::false::false::false::false::false::false::false::false::false::false::false::false::false::false::false::false::false::false::false::false::false::false::false::false::false::false::false::false::false::false::false::false::false::[]) [(2,0)] 1 rfl ?_
        have happ:out++[v] ≠ []:=by simp
        refine ⟨s.size - k,by omega,k,out++[v],?_,by omega,rfl,by simp only [List.length_append,List.length_cons,List.length_nil];omega,fin (),?_⟩
        ·rw [slot_ne happ,List.length_append];rfl
        ·simp only [↓reduceIte,reduceCtorEq,Nat.reduceEqDiff,renO,renH,renA,lkN,objs_ne happ,hap]
     ·have hfin:=fin (by rw [refNum,if_neg (by unfold isD;omega)])
      clear fin
      have fin:=fun (_:Unit)=>hfin
      rw [← hd2] at fin
      by_cases ho:out=[]
      ·subst ho
       repeat (refine PRun.wpn rfl ?_;simp only [wp,wo_nil,wo_p,wo_n,wo_append,wo_g,beq_self_eq_true,onO_s,onN_s,onG_t,onG_f,wanted_g,wantB_b,b_ft,ble0,ble_succ,pv_t,pv_int,pv_bool,ov_nil,ov_cons,ov_int,put_some,bi_lss,bi_geq,pevP,pevN,pevE,getP,setP,lenP,srcP,appendP,fillP,spliceP,overP,plainP,isCell,look,PW.cs?,PW.push,cut0,cutS,List.length_nil,List.drop_zero,Option.map_some,Option.bind_some,Nat.mul_one,Int.natCast_nonneg,Int.toNat_natCast,Bool.and_true,↓reduceIte,ltL,lt,Nat.reduceAdd,Nat.reduceMul,Nat.reduceLeDiff,Nat.reduceLT,Bool.false_eq_true,Nat.zero_add,allPlain,Bool.false_or,Bool.not_true,List.length_nil,gt_iff_lt,ltB_t hkl,hc2,leB_f b1,slot_z,objs_nil,hu])
       refine Gh.mr (true::true::false::false::false::false::true::false::false::false::false::false::false::false::false::false::false::false::false::false::false::false::false::false::false::false::false::false::false::false::false::false::false::false::false::false::false::false::false::false::false::false::false::false::false::false::false::false::false::false::false::false::false::false::false::false::false::false::false::false::false::false::false::false::false::false::false::false::false::false::false::false::false::false::false::false::false::false::false::false::false::false::false::false::false::false::false::[]) [(2,0)] 1 rfl ?_
       exact ⟨s.size - k,by omega,k,[v],rfl,by omega,rfl,by simp only [List.length_cons,List.length_nil];omega,fin (),rfl⟩
      ·have q0:out.length ≠ 0:=fun e=>ho (List.length_eq_zero_iff.1 e)
       have q1:¬ out.length + 1≤out.length:=by omega
       have q2:¬ 140737488355328 < (2 * (out.length + 1) + 768) * 2:=by omega
       have q3:=cutB (N16_len out)
       have q4:=N16_len out
       repeat (refine PRun.wpn rfl ?_;simp only [wp,wo_nil,wo_p,wo_n,wo_append,wo_g,beq_self_eq_true,onO_s,onN_s,onE_s,onG_t,onG_f,wanted_g,wantB_b,b_ft,ble0,ble_succ,pv_t,pv_int,pv_bool,ov_nil,ov_cons,ov_int,put_some,bi_lss,bi_geq,pevP,pevN,pevE,getP,setP,lenP,srcP,appendP,fillP,spliceP,overP,plainP,isCell,look,PW.cs?,PW.push,cut0,cutS,List.drop_zero,Option.map_some,Option.bind_some,Nat.mul_one,Int.natCast_nonneg,Int.toNat_natCast,Bool.and_true,↓reduceIte,reduceCtorEq,ltL,lt,Nat.reduceAdd,Bool.false_eq_true,Nat.zero_add,allPlain,setO,Bool.or_self,Bool.not_true,gt_iff_lt,ltB_t hkl,hc2,leB_f b1,slot_ne ho,objs_ne ho,hu,q1,q2,q3,q4,bne_self_eq_false])
       refine Gh.mr (true::true::false::false::false::false::true::false::false::false::false::false::false::false::false::false::false::false::false::false::false::false::false::false::false::false::false::false::false::false::false::false::false::false::false::false::false::false::false::false::false::false::false::false::false::false::false::false::false::false::false::false::false::false::false::false::false::false::false::false::false::false::false::false::false::false::false::false::false::false::false::false::false::false::false::false::false::false::false::false::false::false::false::false::false::false::false::[]) [(2,0)] 1 rfl ?_
       have happ:out++[v] ≠ []:=by simp
       refine ⟨s.size - k,by omega,k,out++[v],?_,by omega,rfl,by simp only [List.length_append,List.length_cons,List.length_nil];omega,fin (),?_⟩
       ·rw [slot_ne happ,List.length_append];rfl
       ·simp only [↓reduceIte,reduceCtorEq,Nat.reduceEqDiff,renO,renH,renA,lkN,objs_ne happ,hap]
    ·have hfin:=fin (by rw [List.drop_of_length_le (by omega)];rfl)
     clear fin
     have fin:=fun (_:Unit)=>hfin
     by_cases ho:out=[]
     ·subst ho
      repeat (refine PRun.wpn rfl ?_;simp only [wp,wo_nil,wo_p,wo_n,wo_append,wo_g,beq_self_eq_true,onO_s,onN_s,onG_f,wanted_g,wantB_b,b_ft,ble0,ble_succ,pv_t,pv_bool,ov_nil,ov_cons,ov_int,put_some,bi_lss,pevP,pevN,pevE,getP,setP,lenP,srcP,appendP,fillP,spliceP,overP,plainP,isCell,look,PW.cs?,PW.push,cut0,cutS,List.length_nil,List.drop_zero,Option.map_some,Option.bind_some,Nat.mul_one,Bool.and_true,↓reduceIte,ltL,lt,Nat.reduceAdd,Nat.reduceMul,Nat.reduceLeDiff,Nat.reduceLT,Bool.false_eq_true,Nat.zero_add,allPlain,Bool.false_or,Bool.not_true,List.length_nil,gt_iff_lt,ltB_f hkl,slot_z,objs_nil,hu])
      refine Gh.mr (true::true::false::false::false::false::true::false::false::false::false::false::false::false::false::false::false::false::false::false::false::false::false::false::false::false::false::false::false::false::false::false::false::false::false::false::false::false::false::false::false::false::false::false::false::false::false::false::false::false::false::false::false::false::false::false::false::false::false::false::false::false::false::false::false::false::false::false::false::false::false::false::false::false::false::false::false::false::false::false::false::false::false::false::false::false::false::[]) [(2,0)] 1 rfl ?_
      exact ⟨s.size - k,by omega,k,[v],rfl,by omega,rfl,by simp only [List.length_cons,List.length_nil];omega,fin (),rfl⟩
     ·have q0:out.length ≠ 0:=fun e=>ho (List.length_eq_zero_iff.1 e)
      have q1:¬ out.length + 1≤out.length:=by omega
      have q2:¬ 140737488355328 < (2 * (out.length + 1) + 768) * 2:=by omega
      have q3:=cutB (N16_len out)
      have q4:=N16_len out
      repeat (refine PRun.wpn rfl ?_;simp only [wp,wo_nil,wo_p,wo_n,wo_append,wo_g,beq_self_eq_true,onO_s,onN_s,onE_s,onG_f,wanted_g,wantB_b,b_ft,ble0,ble_succ,pv_t,pv_bool,ov_nil,ov_cons,ov_int,put_some,bi_lss,pevP,pevN,pevE,getP,setP,lenP,srcP,appendP,fillP,spliceP,overP,plainP,isCell,look,PW.cs?,PW.push,cut0,cutS,List.drop_zero,Option.map_some,Option.bind_some,Nat.mul_one,Bool.and_true,↓reduceIte,reduceCtorEq,ltL,lt,Nat.reduceAdd,Bool.false_eq_true,Nat.zero_add,allPlain,setO,Bool.or_self,Bool.not_true,gt_iff_lt,ltB_f hkl,slot_ne ho,objs_ne ho,hu,q1,q2,q3,q4,bne_self_eq_false])
      refine Gh.mr (true::true::false::false::false::false::true::false::false::false::false::false::false::false::false::false::false::false::false::false::false::false::false::false::false::false::false::false::false::false::false::false::false::false::false::false::false::false::false::false::false::false::false::false::false::false::false::false::false::false::false::false::false::false::false::false::false::false::false::false::false::false::false::false::false::false::false::false::false::false::false::false::false::false::false::false::false::false::false::false::false::false::false::false::false::false::false::[]) [(2,0)] 1 rfl ?_
      have happ:out++[v] ≠ []:=by simp
      refine ⟨s.size - k,by omega,k,out++[v],?_,by omega,rfl,by simp only [List.length_append,List.length_cons,List.length_nil];omega,fin (),?_⟩
      ·rw [slot_ne happ,List.length_append];rfl
      ·simp only [↓reduceIte,reduceCtorEq,Nat.reduceEqDiff,renO,renH,renA,lkN,objs_ne happ,hap]
   ·rw [if_neg hD] at hR
    simp only [Prod.mk.injEq] at hR
    obtain ⟨rfl,rfl,rfl⟩:=hR
    unfold isD at hD
    simp only [Bool.false_eq_true,if_false]
    by_cases a4:((c.toNat:Nat):Int) < 48
    ·repeat (refine PRun.wpn rfl ?_;simp only [wp,wo_nil,wo_p,wo_g,beq_self_eq_true,onO_s,onG_t,onG_f,wanted_g,wantB_b,b_tf,pv_t,pv_int,pv_bool,put_some,bi_eql,bi_lss,pevP,getP,setP,Option.map_some,or_true,Int.natCast_nonneg,Int.toNat_natCast,true_and,↓reduceIte,reduceCtorEq,Bool.false_eq_true,ltB_t hlt,hc,eqB_f a1,eqB_f hne,ltB_t a4])
     by_cases ho:out=[]
     ·subst ho
      exact .refl ⟨_,rfl,.tup (.cons .nil_sz (.cons (.refl _) .nil))⟩
     ·simp only [slot_ne ho,objs_ne ho]
      refine Gh.frz 0 rfl (pure_N16 _) rfl ?_
      simp only [frzP_u,List.drop_zero,↓reduceIte,frzL,frzP,frzH,Nat.le_refl]
      exact .refl ⟨_,rfl,.tup (.cons .sl_sz (.cons (.refl _) .nil))⟩
    ·repeat (refine PRun.wpn rfl ?_;simp only [wp,wo_nil,wo_p,wo_g,beq_self_eq_true,onO_s,onG_t,wanted_g,wantB_b,pv_t,pv_int,put_some,bi_eql,bi_lss,bi_gtr,pevP,getP,setP,Option.map_some,or_true,Int.natCast_nonneg,Int.toNat_natCast,true_and,↓reduceIte,reduceCtorEq,Bool.false_eq_true,ltB_t hlt,hc,eqB_f a1,eqB_f hne,ltB_f a4,ltB_t (show (57:Int) < ((c.toNat:Nat):Int) by omega)])
     by_cases ho:out=[]
     ·subst ho
      exact .refl ⟨_,rfl,.tup (.cons .nil_sz (.cons (.refl _) .nil))⟩
     ·simp only [slot_ne ho,objs_ne ho]
      refine Gh.frz 0 rfl (pure_N16 _) rfl ?_
      simp only [List.drop_zero,↓reduceIte,frzL,frzP,frzH,Nat.le_refl]
      exact .refl ⟨_,rfl,.tup (.cons .sl_sz (.cons (.refl _) .nil))⟩
 ·obtain rfl:j=s.size:=by omega
  have hnil:s.data.toList.drop s.size=[]:=List.drop_of_length_le (by omega)
  rw [hnil,sk,Nat.add_zero] at hsk
  have hdr:(s.data.toList.drop i).drop (sk (s.data.toList.drop i))=[]:=by rw [List.drop_drop,← hsk,hnil]
  rw [refLet,hdr] at hR
  dsimp only at hR
  rw [← hsk] at hR
  simp only [Prod.mk.injEq] at hR
  obtain ⟨rfl,rfl,rfl⟩:=hR
  simp only [Bool.false_eq_true,if_false]
  repeat (refine PRun.wpn rfl ?_;simp only [wp,wo_nil,wo_p,wo_g,onO_s,onG_f,wanted_g,wantB_b,b_tf,b_ft,pv_t,pv_bool,put_some,bi_eql,bi_lss,pevP,getP,setP,Option.map_some,or_true,true_and,↓reduceIte,reduceCtorEq,Bool.false_eq_true,ltB_f hlt,eqB_t (show ((s.size:Nat):Int)=((s.size:Nat):Int) from rfl)])
  by_cases ho:out=[]
  ·subst ho
   exact .refl ⟨_,rfl,.tup (.cons .nil_sz (.cons (.refl _) .nil))⟩
  ·simp only [slot_ne ho,objs_ne ho]
   refine Gh.frz 0 rfl (pure_N16 _) rfl ?_
   simp only [frzP_u,List.drop_zero,↓reduceIte,frzL,frzP,frzH,Nat.le_refl]
   exact .refl ⟨_,rfl,.tup (.cons .sl_sz (.cons (.refl _) .nil))⟩
end
end Go.Proofs.YtkldgoapompinaaDoor.Ai
namespace Go.Proofs.YtkldgoapompinaaDoor.Ai
open Go
set_option linter.unusedVariables false
set_option linter.unusedSectionVars false
set_option maxRecDepth 10000
set_option maxHeartbeats 4000000
theorem refLet_le:∀ (k i:Nat) (l:List UInt8) (out:List Nat),(refLet k i l out).2.1≤i + l.length
 | 0,i,l,out=>Nat.le_add_right _ _
 | k + 1,i,l,out=>by
  unfold refLet
  have hs:=sk_le l
  have hdl:(l.drop (sk l)).length=l.length - sk l:=List.length_drop
  cases hd:l.drop (sk l) with
  | nil=>dsimp only;omega
  | cons c l2=>
   rw [hd] at hdl
   simp only [List.length_cons] at hdl
   have hr:=refNum_le (c.toNat == 48) l2 (c.toNat - 48)
   dsimp only
   split
   ·split
    ·dsimp only;omega
    ·have:=refLet_le k (i + sk l + 1 + (refNum (c.toNat == 48) (c.toNat - 48) l2).2.1) (l2.drop (refNum (c.toNat == 48) (c.toNat - 48) l2).2.1) (out++[(refNum (c.toNat == 48) (c.toNat - 48) l2).1])
     rw [List.length_drop] at this
     omega
   ·dsimp only;omega
section
variable {C:Ctx} (hm:C.P.follows .mixedOrders=true) (hC:TabOK C.P C.ng C.ts Tryd.tab)
include hm hC
theorem readR_ok (s:ByteArray) (hs:s.size < 2 ^ 36):PFun C 49 [.lit (.string s)] (.tup [.agg [.sz (N16 (readM s).1.1) (readM s).1.1.length,.sz (N16 (readM s).1.2) (readM s).1.2.length],.lit (.int .i64 ((readM s).2.1:Nat)),.lit (.int .i64 ((readM s).2.2:Nat))]):=by
 have hls:s.data.toList.length=s.size:=Array.length_toList
 have nb:∀ x:Int,neB x x=false:=fun x=>by simp [neB]
 by_cases hbig:(65536:Int) < (s.size:Nat)
 ·unfold readM
  rw [ltB_t hbig,if_pos rfl]
  refine PFun.body hm hC (show Tryd.tab.get 49=some Tryd.c49 from rfl) rfl ?_
  simp only [Tryd.c49,startP,List.length_cons,List.length_nil,Nat.reduceAdd,Nat.reduceSub,List.replicate,List.cons_append,List.nil_append]
  repeat (refine PRun.wpn rfl ?_;simp only [wp,wo_nil,wo_p,wo_n,wo_st,onO_s,onN_s,onE_s,ble_self,ble_succ,pv_t,pv_int,ov_nil,ov_cons,ov_nilS,put_some,put_none,bi_gtr,pevP,pevR,pevN,pevE,getP,setP,fillP,spliceP,overP,plainP,isCell,look,PW.cs?,PW.push,PW.none,List.length_cons,List.length_nil,Option.map_some,or_true,true_and,Bool.and_true,↓reduceIte,reduceCtorEq,ltL,lt,Nat.reduceAdd,Bool.false_eq_true,Nat.zero_add,allPlain,PW.wr,setO,killO,Bool.or_self,Bool.not_true,resPs,resP,tupP,List.length_cons,List.length_nil,ltB_t hbig])
  exact .refl ⟨_,rfl,.tup (.cons (.agg (.cons .nil_sz (.cons .nil_sz .nil))) (.cons (.refl _) (.cons (.refl _) .nil)))⟩
 rw [readM_ref hbig]
 unfold refR
 have h1:=letters_ok hm hC s hs 0 (Nat.zero_le _)
 have h1l:=refLet_le (s.size + 1) 0 s.data.toList []
 rw [List.drop_zero] at h1
 rw [hls] at h1l ⊢
 generalize refLet (s.size + 1) 0 s.data.toList []=R at h1 h1l
 obtain ⟨st,a1,bad⟩:=R
 simp only at h1 h1l ⊢
 by_cases hb:bad=true
 ·rw [if_pos hb] at h1 ⊢
  have w1:IntKind.i64.wrap (-1 - (-1 - ((a1:Nat):Int)))=((a1:Nat):Int):=by rw [wrap64 (by omega) (by omega)];omega
  refine PFun.body hm hC (show Tryd.tab.get 49=some Tryd.c49 from rfl) rfl ?_
  simp only [Tryd.c49,startP,List.length_cons,List.length_nil,Nat.reduceAdd,Nat.reduceSub,List.replicate,List.cons_append,List.nil_append]
  repeat (refine PRun.wpn rfl ?_;simp only [wp,wo_nil,wo_p,wo_n,wo_call,onO_s,onN_s,ble_self,ble_succ,pv_t,pv_int,ov_nil,ov_cons,ov_nilS,put_some,bi_gtr,pevP,pevR,pevN,getP,setP,evsP,PW.cs?,PW.push,PW.none,Option.map_some,Nat.zero_le,true_and,Bool.and_true,↓reduceIte,ltL,lt,Nat.reduceAdd,Bool.false_eq_true,Nat.zero_add,resPs,resP,tupP,ltB_f hbig])
  refine .refl (PFun.to (h1) rfl (POps.wp ?_))
  simp only [wo_nil,wo_p,wo_st,beq_self_eq_true,onO_s,onE_s,ble0,pv_t,put_some,put_none,pevP,pevE,getP,setP,spliceP,overP,plainP,look,nthP,Option.map_some,Bool.and_true,↓reduceIte,Bool.false_eq_true,Nat.add_zero,allPlain,PW.wr,setO,killO,Bool.or_self,Bool.not_true]
  repeat (refine PRun.wpn rfl ?_;simp only [wp,wo_nil,wo_p,wo_st,onO_s,onE_s,ble0,pv_t,pv_int,ov_nil,ov_cons,ov_nilS,put_some,put_none,bi_sub,bi_lss,pevP,pevE,getP,setP,fillP,spliceP,overP,plainP,isCell,look,List.length_cons,List.length_nil,Option.map_some,or_true,true_and,Bool.and_true,↓reduceIte,reduceCtorEq,ltL,lt,Nat.reduceAdd,Bool.false_eq_true,Nat.zero_add,allPlain,PW.wr,setO,killO,Bool.or_self,Bool.not_true,List.length_cons,List.length_nil,ltB_t (show -1 - ((a1:Nat):Int) < 0 by omega),w1])
  exact .refl ⟨_,rfl,.tup (.cons (.agg (.cons .nil_sz (.cons .nil_sz .nil))) (.cons (.refl _) (.cons (.refl _) .nil)))⟩
 rw [if_neg hb] at h1 ⊢
 have hn1:=ltB_f (show ¬ ((a1:Nat):Int) < 0 by omega)
 cases hd:s.data.toList.drop a1 with
 | nil=>
  have he:((a1:Nat):Int)=((s.size:Nat):Int):=by
   have:=congrArg List.length hd
   rw [List.length_drop,List.length_nil] at this
   omega
  dsimp only
  refine PFun.body hm hC (show Tryd.tab.get 49=some Tryd.c49 from rfl) rfl ?_
  simp only [Tryd.c49,startP,List.length_cons,List.length_nil,Nat.reduceAdd,Nat.reduceSub,List.replicate,List.cons_append,List.nil_append]
  repeat (refine PRun.wpn rfl ?_;simp only [wp,wo_nil,wo_p,wo_n,wo_call,onO_s,onN_s,ble_self,ble_succ,pv_t,pv_int,ov_nil,ov_cons,ov_nilS,put_some,bi_gtr,pevP,pevR,pevN,getP,setP,evsP,PW.cs?,PW.push,PW.none,Option.map_some,Nat.zero_le,true_and,Bool.and_true,↓reduceIte,ltL,lt,Nat.reduceAdd,Bool.false_eq_true,Nat.zero_add,resPs,resP,tupP,ltB_f hbig])
  refine .refl (PFun.to (h1) rfl (POps.wp ?_))
  simp only [wo_nil,wo_p,wo_st,beq_self_eq_true,onO_s,onE_s,ble0,pv_t,put_some,put_none,pevP,pevE,getP,setP,spliceP,overP,plainP,look,nthP,Option.map_some,Bool.and_true,↓reduceIte,Bool.false_eq_true,Nat.add_zero,allPlain,PW.wr,setO,killO,Bool.or_self,Bool.not_true]
  repeat (refine PRun.wpn rfl ?_;simp only [wp,wo_nil,wo_p,wo_st,wo_g,onO_s,onE_s,onG_f,wanted_g,wantB_b,b_tf,ble0,pv_t,pv_int,pv_bool,ov_nil,ov_cons,ov_nilS,put_some,put_none,bi_eql,bi_lss,pevP,pevE,getP,setP,fillP,spliceP,overP,plainP,isCell,look,List.length_cons,List.length_nil,Option.map_some,or_true,true_and,Bool.and_true,↓reduceIte,reduceCtorEq,ltL,lt,Nat.reduceAdd,Bool.false_eq_true,Nat.zero_add,allPlain,PW.wr,setO,killO,Bool.or_self,Bool.not_true,List.length_cons,List.length_nil,hn1,eqB_t he])
  exact .refl ⟨_,rfl,.tup (.cons (.agg (.cons .nil_sz (.cons .nil_sz .nil))) (.cons (.refl _) (.cons (.refl _) .nil)))⟩
 | cons c l2=>
  obtain ⟨hj,hc,hdn⟩:=drop_cons_at hd
  have hcx:s.data.toList[a1]? = some c:=hc
  have hc':=idx_some hj
  have hcc:s[a1]=c:=by
   have:=data_drop hj
   rw [hd] at this
   exact (List.cons.inj this).1.symm
  rw [hcc] at hc'
  have hcb:=c.toNat_lt
  have he:=eqB_f (show ¬ ((a1:Nat):Int)=((s.size:Nat):Int) by omega)
  have hlt1:((a1:Nat):Int) < ((s.size:Nat):Int):=by omega
  dsimp only
  by_cases h40:c.toNat=40
  ·rw [if_pos h40]
   have h2:=letters_ok hm hC s hs (a1 + 1) (by omega)
   have h2l:=refLet_le (s.size + 1) (a1 + 1) l2 []
   have h2g:=refLet_ge (s.size + 1) (a1 + 1) l2 []
   have hll:l2.length=s.size - (a1 + 1):=by rw [← hdn,List.length_drop,hls]
   rw [hdn] at h2
   generalize refLet (s.size + 1) (a1 + 1) l2 []=R at h2 h2l h2g
   obtain ⟨lp,a2,bad2⟩:=R
   simp only at h2 h2l h2g ⊢
   have w0:IntKind.i64.wrap (((a1:Nat):Int) + 1)=((a1 + 1:Nat):Int):=by rw [wrap64 (by omega) (by omega)];omega
   have hq:=neB_f (show ((c.toNat:Nat):Int)=40 by omega)
   by_cases hb2:bad2=true
   ·rw [if_pos hb2] at h2 ⊢
    have w1:IntKind.i64.wrap (-1 - (-1 - ((a2:Nat):Int)))=((a2:Nat):Int):=by rw [wrap64 (by omega) (by omega)];omega
    refine PFun.body hm hC (show Tryd.tab.get 49=some Tryd.c49 from rfl) rfl ?_
    simp only [Tryd.c49,startP,List.length_cons,List.length_nil,Nat.reduceAdd,Nat.reduceSub,List.replicate,List.cons_append,List.nil_append]
    repeat (refine PRun.wpn rfl ?_;simp only [wp,wo_nil,wo_p,wo_n,wo_call,onO_s,onN_s,ble_self,ble_succ,pv_t,pv_int,ov_nil,ov_cons,ov_nilS,put_some,bi_gtr,pevP,pevR,pevN,getP,setP,evsP,PW.cs?,PW.push,PW.none,Option.map_some,Nat.zero_le,true_and,Bool.and_true,↓reduceIte,ltL,lt,Nat.reduceAdd,Bool.false_eq_true,Nat.zero_add,resPs,resP,tupP,ltB_f hbig])
    refine .refl (PFun.to (h1) rfl (POps.wp ?_))
    simp only [wo_nil,wo_p,wo_st,beq_self_eq_true,onO_s,onE_s,ble0,pv_t,put_some,put_none,pevP,pevE,getP,setP,spliceP,overP,plainP,look,nthP,Option.map_some,Bool.and_true,↓reduceIte,Bool.false_eq_true,Nat.add_zero,allPlain,PW.wr,setO,killO,Bool.or_self,Bool.not_true]
    repeat (refine PRun.wpn rfl ?_;simp only [wp,wo_nil,wo_p,wo_call,wo_g,beq_self_eq_true,onO_s,onG_t,wanted_g,wantB_b,pv_t,pv_int,put_some,bi_add,bi_eql,bi_neq,bi_lss,pevP,getP,setP,evsP,Option.map_some,Nat.zero_le,Int.natCast_nonneg,Int.toNat_natCast,true_and,↓reduceIte,Bool.false_eq_true,hn1,he,hc',hq,w0])
    refine .refl (PFun.to (h2) rfl (POps.wp ?_))
    simp only [wo_nil,wo_p,wo_st,beq_self_eq_true,onO_s,onE_s,ble0,pv_t,put_some,put_none,pevP,pevE,getP,setP,spliceP,overP,plainP,look,nthP,Option.map_some,Bool.and_true,↓reduceIte,Bool.false_eq_true,Nat.zero_add,allPlain,PW.wr,setO,killO,Bool.or_self,Bool.not_true]
    repeat (refine PRun.wpn rfl ?_;simp only [wp,wo_nil,wo_p,wo_st,onO_s,onE_s,ble0,pv_t,pv_int,ov_nil,ov_cons,ov_nilS,put_some,put_none,bi_sub,bi_lss,pevP,pevE,getP,setP,fillP,spliceP,overP,plainP,isCell,look,List.length_cons,List.length_nil,Option.map_some,or_true,true_and,Bool.and_true,↓reduceIte,reduceCtorEq,ltL,lt,Nat.reduceAdd,Bool.false_eq_true,Nat.zero_add,allPlain,PW.wr,setO,killO,Bool.or_self,Bool.not_true,List.length_cons,List.length_nil,ltB_t (show -1 - ((a2:Nat):Int) < 0 by omega),w1])
    exact .refl ⟨_,rfl,.tup (.cons (.agg (.cons .nil_sz (.cons .nil_sz .nil))) (.cons (.refl _) (.cons (.refl _) .nil)))⟩
   rw [if_neg hb2] at h2 ⊢
   have hn2:=ltB_f (show ¬ ((a2:Nat):Int) < 0 by omega)
   cases hd2:l2.drop (a2 - (a1 + 1)) with
   | nil=>
    have he2:((a2:Nat):Int)=((s.size:Nat):Int):=by
     have:=congrArg List.length hd2
     rw [List.length_drop,List.length_nil] at this
     omega
    dsimp only
    refine PFun.body hm hC (show Tryd.tab.get 49=some Tryd.c49 from rfl) rfl ?_
    simp only [Tryd.c49,startP,List.length_cons,List.length_nil,Nat.reduceAdd,Nat.reduceSub,List.replicate,List.cons_append,List.nil_append]
    repeat (refine PRun.wpn rfl ?_;simp only [wp,wo_nil,wo_p,wo_n,wo_call,onO_s,onN_s,ble_self,ble_succ,pv_t,pv_int,ov_nil,ov_cons,ov_nilS,put_some,bi_gtr,pevP,pevR,pevN,getP,setP,evsP,PW.cs?,PW.push,PW.none,Option.map_some,Nat.zero_le,true_and,Bool.and_true,↓reduceIte,ltL,lt,Nat.reduceAdd,Bool.false_eq_true,Nat.zero_add,resPs,resP,tupP,ltB_f hbig])
    refine .refl (PFun.to (h1) rfl (POps.wp ?_))
    simp only [wo_nil,wo_p,wo_st,beq_self_eq_true,onO_s,onE_s,ble0,pv_t,put_some,put_none,pevP,pevE,getP,setP,spliceP,overP,plainP,look,nthP,Option.map_some,Bool.and_true,↓reduceIte,Bool.false_eq_true,Nat.add_zero,allPlain,PW.wr,setO,killO,Bool.or_self,Bool.not_true]
    repeat (refine PRun.wpn rfl ?_;simp only [wp,wo_nil,wo_p,wo_call,wo_g,beq_self_eq_true,onO_s,onG_t,wanted_g,wantB_b,pv_t,pv_int,put_some,bi_add,bi_eql,bi_neq,bi_lss,pevP,getP,setP,evsP,Option.map_some,Nat.zero_le,Int.natCast_nonneg,Int.toNat_natCast,true_and,↓reduceIte,Bool.false_eq_true,hn1,he,hc',hq,w0])
    refine .refl (PFun.to (h2) rfl (POps.wp ?_))
    simp only [wo_nil,wo_p,wo_st,beq_self_eq_true,onO_s,onE_s,ble0,pv_t,put_some,put_none,pevP,pevE,getP,setP,spliceP,overP,plainP,look,nthP,Option.map_some,Bool.and_true,↓reduceIte,Bool.false_eq_true,Nat.zero_add,allPlain,PW.wr,setO,killO,Bool.or_self,Bool.not_true]
    repeat (refine PRun.wpn rfl ?_;simp only [wp,wo_nil,wo_p,wo_st,wo_g,onO_s,onE_s,onG_f,wanted_g,wantB_b,b_tf,ble0,pv_t,pv_int,pv_bool,ov_nil,ov_cons,ov_nilS,put_some,put_none,bi_eql,bi_lss,pevP,pevE,getP,setP,fillP,spliceP,overP,plainP,isCell,look,List.length_cons,List.length_nil,Option.map_some,or_true,true_and,Bool.and_true,↓reduceIte,reduceCtorEq,ltL,lt,Nat.reduceAdd,Bool.false_eq_true,Nat.zero_add,allPlain,PW.wr,setO,killO,Bool.or_self,Bool.not_true,List.length_cons,List.length_nil,hn2,eqB_t he2])
    exact .refl ⟨_,rfl,.tup (.cons (.agg (.cons .nil_sz (.cons .nil_sz .nil))) (.cons (.refl _) (.cons (.refl _) .nil)))⟩
   | cons c2 l3=>
    have hd3:s.data.toList.drop a2=c2::l3:=by rw [← hd2,← hdn,List.drop_drop,show a1 + 1 + (a2 - (a1 + 1))=a2 by omega]
    obtain ⟨hj2,_,hdn2⟩:=drop_cons_at hd3
    have hc2':=idx_some hj2
    have hcc2:s[a2]=c2:=by
     have:=data_drop hj2
     rw [hd3] at this
     exact (List.cons.inj this).1.symm
    rw [hcc2] at hc2'
    have hcb2:=c2.toNat_lt
    have he2:=eqB_f (show ¬ ((a2:Nat):Int)=((s.size:Nat):Int) by omega)
    have hlt2:((a2:Nat):Int) < ((s.size:Nat):Int):=by omega
    dsimp only
    by_cases h41:c2.toNat=41
    ·have hq2:=neB_f (show ((c2.toNat:Nat):Int)=41 by omega)
     by_cases hlp:lp=[]
     ·rw [if_neg (by rintro ⟨_,h⟩;exact h hlp)]
      subst hlp
      have z00:=eqB_t (show (0:Int)=0 from rfl)
      refine PFun.body hm hC (show Tryd.tab.get 49=some Tryd.c49 from rfl) rfl ?_
      simp only [Tryd.c49,startP,List.length_cons,List.length_nil,Nat.reduceAdd,Nat.reduceSub,List.replicate,List.cons_append,List.nil_append]
      repeat (refine PRun.wpn rfl ?_;simp only [wp,wo_nil,wo_p,wo_n,wo_call,onO_s,onN_s,ble_self,ble_succ,pv_t,pv_int,ov_nil,ov_cons,ov_nilS,put_some,bi_gtr,pevP,pevR,pevN,getP,setP,evsP,PW.cs?,PW.push,PW.none,Option.map_some,Nat.zero_le,true_and,Bool.and_true,↓reduceIte,ltL,lt,Nat.reduceAdd,Bool.false_eq_true,Nat.zero_add,resPs,resP,tupP,ltB_f hbig])
      refine .refl (PFun.to (h1) rfl (POps.wp ?_))
      simp only [wo_nil,wo_p,wo_st,beq_self_eq_true,onO_s,onE_s,ble0,pv_t,put_some,put_none,pevP,pevE,getP,setP,spliceP,overP,plainP,look,nthP,Option.map_some,Bool.and_true,↓reduceIte,Bool.false_eq_true,Nat.add_zero,allPlain,PW.wr,setO,killO,Bool.or_self,Bool.not_true]
      repeat (refine PRun.wpn rfl ?_;simp only [wp,wo_nil,wo_p,wo_call,wo_g,beq_self_eq_true,onO_s,onG_t,wanted_g,wantB_b,pv_t,pv_int,put_some,bi_add,bi_eql,bi_neq,bi_lss,pevP,getP,setP,evsP,Option.map_some,Nat.zero_le,Int.natCast_nonneg,Int.toNat_natCast,true_and,↓reduceIte,Bool.false_eq_true,hn1,he,hc',hq,w0])
      refine .refl (PFun.to (h2) rfl (POps.wp ?_))
      simp only [wo_nil,wo_p,wo_st,beq_self_eq_true,onO_s,onE_s,ble0,pv_t,put_some,put_none,pevP,pevE,getP,setP,spliceP,overP,plainP,look,nthP,List.length_nil,Option.map_some,Bool.and_true,↓reduceIte,Bool.false_eq_true,Nat.zero_add,allPlain,PW.wr,setO,killO,Bool.or_self,Bool.not_true,List.length_nil]
      repeat (refine PRun.wpn rfl ?_;simp only [wp,wo_nil,wo_p,wo_r,wo_st,wo_g,beq_self_eq_true,onO_s,onE_s,onG_t,wanted_g,wantB_b,ble0,pv_t,pv_int,ov_nil,ov_cons,ov_nilS,put_some,put_none,bi_eql,bi_neq,bi_lss,pevP,pevR,pevE,getP,setP,fillP,spliceP,overP,plainP,isCell,look,PW.cs?,nthP,List.length_cons,List.length_nil,Option.map_some,Option.bind_some,or_true,Int.natCast_nonneg,Int.toNat_natCast,nc0,true_and,Bool.and_true,↓reduceIte,reduceCtorEq,ltL,lt,Nat.reduceAdd,Bool.false_eq_true,Nat.zero_add,allPlain,PW.wr,setO,killO,Bool.or_self,Bool.not_true,List.length_cons,List.length_nil,hn2,he2,hc2',hq2,z00])
      exact .refl ⟨_,rfl,.tup (.cons (.agg (.cons .nil_sz (.cons .nil_sz .nil))) (.cons (.refl _) (.cons (.refl _) .nil)))⟩
     ·rw [if_pos ⟨h41,hlp⟩]
      have hlp0:=eqB_f (show ¬ ((lp.length:Nat):Int)=0 by have:lp.length ≠ 0:=fun e=>hlp (List.length_eq_zero_iff.1 e);omega)
      have w2:IntKind.i64.wrap (((a2:Nat):Int) + 1)=((a2 + 1:Nat):Int):=by rw [wrap64 (by omega) (by omega)];omega
      generalize hG:(if l3.drop (sk l3)=[] then ((st,lp),0,0) else rErr (a2 + 1 + sk l3))=G
      refine PFun.body hm hC (show Tryd.tab.get 49=some Tryd.c49 from rfl) rfl ?_
      simp only [Tryd.c49,startP,List.length_cons,List.length_nil,Nat.reduceAdd,Nat.reduceSub,List.replicate,List.cons_append,List.nil_append]
      repeat (refine PRun.wpn rfl ?_;simp only [wp,wo_nil,wo_p,wo_n,wo_call,onO_s,onN_s,ble_self,ble_succ,pv_t,pv_int,ov_nil,ov_cons,ov_nilS,put_some,bi_gtr,pevP,pevR,pevN,getP,setP,evsP,PW.cs?,PW.push,PW.none,Option.map_some,Nat.zero_le,true_and,Bool.and_true,↓reduceIte,ltL,lt,Nat.reduceAdd,Bool.false_eq_true,Nat.zero_add,resPs,resP,tupP,ltB_f hbig])
      refine .refl (PFun.to (h1) rfl (POps.wp ?_))
      simp only [wo_nil,wo_p,wo_st,beq_self_eq_true,onO_s,onE_s,ble0,pv_t,put_some,put_none,pevP,pevE,getP,setP,spliceP,overP,plainP,look,nthP,Option.map_some,Bool.and_true,↓reduceIte,Bool.false_eq_true,Nat.add_zero,allPlain,PW.wr,setO,killO,Bool.or_self,Bool.not_true]
      repeat (refine PRun.wpn rfl ?_;simp only [wp,wo_nil,wo_p,wo_call,wo_g,beq_self_eq_true,onO_s,onG_t,wanted_g,wantB_b,pv_t,pv_int,put_some,bi_add,bi_eql,bi_neq,bi_lss,pevP,getP,setP,evsP,Option.map_some,Nat.zero_le,Int.natCast_nonneg,Int.toNat_natCast,true_and,↓reduceIte,Bool.false_eq_true,hn1,he,hc',hq,w0])
      refine .refl (PFun.to (h2) rfl (POps.wp ?_))
      simp only [wo_nil,wo_p,wo_st,beq_self_eq_true,onO_s,onE_s,ble0,pv_t,put_some,put_none,pevP,pevE,getP,setP,spliceP,overP,plainP,look,nthP,Option.map_some,Bool.and_true,↓reduceIte,Bool.false_eq_true,Nat.zero_add,allPlain,PW.wr,setO,killO,Bool.or_self,Bool.not_true]
      repeat (refine PRun.wpn rfl ?_;simp only [wp,wo_nil,wo_p,wo_r,wo_g,beq_self_eq_true,onO_s,onG_t,wanted_g,wantB_b,pv_t,pv_int,put_some,bi_add,bi_eql,bi_neq,bi_lss,pevP,pevR,getP,setP,look,PW.cs?,nthP,Option.map_some,Option.bind_some,Int.natCast_nonneg,Int.toNat_natCast,↓reduceIte,reduceCtorEq,Bool.false_eq_true,Nat.zero_add,hn2,he2,hc2',hq2,hlp0,w2])
      refine PRun.gh (Gh.mask (true::false::true::false::false::true::true::false::false::false::false::false::false::false::false::false::false::false::false::false::false::false::false::false::false::false::false::false::false::false::false::false::false::false::false::false::false::false::false::false::false::false::false::false::false::false::false::false::false::false::false::false::false::false::false::false::false::false::false::false::false::false::false::false::false::false::false::false::false::false::false::false::false::false::false::false::false::false::false::false::false::false::false::false::false::false::[]) ?_)
      simp only [↓reduceIte,Bool.false_eq_true,maskP]
      refine PRun.loopG (fun m t π=>∃ j:Nat,t=(.lit (.string s)::.junk::.ptr 0 0::.junk::.junk::.ptr 1 0::.lit (.int .i64 (j:Nat))::.junk::.junk::.junk::.junk::.junk::.junk::.junk::.junk::.junk::.junk::.junk::.junk::.junk::.junk::.junk::.junk::.junk::.junk::.junk::.junk::.junk::.junk::.junk::.junk::.junk::.junk::.junk::.junk::.junk::.junk::.junk::.junk::.junk::.junk::.junk::.junk::.junk::.junk::.junk::.junk::.junk::.junk::.junk::.junk::.junk::.junk::.junk::.junk::.junk::.junk::.junk::.junk::.junk::.junk::.junk::.junk::.junk::.junk::.junk::.junk::.junk::.junk::.junk::.junk::.junk::.junk::.junk::.junk::.junk::.junk::.junk::.junk::.junk::.junk::.junk::.junk::.junk::.junk::.junk::[])∧a2 + 1≤j∧j≤s.size∧m=s.size - j∧j + sk (s.data.toList.drop j)=a2 + 1 + sk l3∧π=⟨2,[(1,.cells [.sz (N16 st) st.length,.sz (N16 lp) lp.length] 25 2 true false []),(0,.cells [.lit (.slice none 0 0),.lit (.slice none 0 0)] 25 2 true false [])]⟩) ?_ (s.size - (a2 + 1)) _ _ ⟨a2 + 1,rfl,Nat.le_refl _,by omega,rfl,by rw [hdn2],rfl⟩
      rintro m t π ⟨j,rfl,hij,hj,rfl,hsk,rfl⟩
      have hend:(l3.drop (sk l3)=[]↔a2 + 1 + sk l3=s.size):=by
       have h3:l3.length=s.size - (a2 + 1):=by rw [← hdn2,List.length_drop,hls]
       have h4:=sk_le l3
       constructor
       ·intro h
        have:=congrArg List.length h
        rw [List.length_drop,List.length_nil] at this
        omega
       ·intro h;exact List.drop_of_length_le (by omega)
      by_cases hlt:(j:Int) < (s.size:Nat)
      ·have hjl:j < s.size:=by omega
       have hc3:=idx_some hjl
       have hd4:=data_drop hjl
       generalize s[j]=c3 at hc3 hd4
       have hcb3:=c3.toNat_lt
       have hw:IntKind.i64.wrap (((j:Nat):Int) + 1)=((j + 1:Nat):Int):=by rw [wrap64 (by omega) (by omega)];omega
       by_cases a3:((c3.toNat:Nat):Int)=32
       ·repeat (refine PRun.wpn rfl ?_;simp only [wp,wo_nil,wo_p,wo_g,beq_self_eq_true,onO_s,onG_t,wanted_g,wantB_b,pv_t,pv_int,put_some,bi_add,bi_eql,bi_lss,pevP,getP,setP,Option.map_some,Int.natCast_nonneg,Int.toNat_natCast,↓reduceIte,ltB_t hlt,hc3,eqB_t a3,hw])
        refine Gh.mask (true::false::true::false::false::true::true::false::false::false::false::false::false::false::false::false::false::false::false::false::false::false::false::false::false::false::false::false::false::false::false::false::false::false::false::false::false::false::false::false::false::false::false::false::false::false::false::false::false::false::false::false::false::false::false::false::false::false::false::false::false::false::false::false::false::false::false::false::false::false::false::false::false::false::false::false::false::false::false::false::false::false::false::false::false::false::[]) ?_
        refine ⟨s.size - (j + 1),by omega,j + 1,rfl,by omega,by omega,rfl,?_,rfl⟩
        rw [← hsk,hd4,sk,if_pos (by omega)];omega
       ·have hs0:sk (s.data.toList.drop j)=0:=by rw [hd4,sk,if_neg (by omega)]
        rw [if_neg (fun h=>by have:=hend.1 h;omega)] at hG
        rw [← hsk,hs0,Nat.add_zero] at hG
        subst hG
        repeat (refine PRun.wpn rfl ?_;simp only [wp,wo_nil,wo_p,wo_st,wo_g,beq_self_eq_true,onO_s,onE_s,onG_t,wanted_g,wantB_b,ble0,pv_t,pv_int,ov_nil,ov_cons,ov_nilS,put_some,put_none,bi_eql,bi_lss,pevP,pevE,getP,setP,fillP,spliceP,overP,plainP,isCell,look,List.length_cons,List.length_nil,Option.map_some,or_true,Int.natCast_nonneg,Int.toNat_natCast,true_and,Bool.and_true,↓reduceIte,reduceCtorEq,ltL,lt,Nat.reduceAdd,Bool.false_eq_true,Nat.zero_add,allPlain,PW.wr,setO,killO,Bool.or_self,Bool.not_true,List.length_cons,List.length_nil,ltB_t hlt,hc3,eqB_f a3])
        exact .refl ⟨_,rfl,.tup (.cons (.agg (.cons .nil_sz (.cons .nil_sz .nil))) (.cons (.refl _) (.cons (.refl _) .nil)))⟩
      ·obtain rfl:j=s.size:=by omega
       have hnil:s.data.toList.drop s.size=[]:=List.drop_of_length_le (by omega)
       rw [hnil,sk,Nat.add_zero] at hsk
       rw [if_pos (hend.2 hsk.symm)] at hG
       subst hG
       repeat (refine PRun.wpn rfl ?_;simp only [wp,wo_nil,wo_p,wo_r,wo_st,wo_g,onO_s,onE_s,onG_f,wanted_g,wantB_b,b_ft,ble0,pv_t,pv_int,pv_bool,put_some,put_none,bi_lss,pevP,pevR,pevE,getP,setP,spliceP,overP,plainP,look,PW.cs?,cut0,cutS,List.length_cons,List.length_nil,List.drop_zero,Option.map_some,Option.bind_some,or_true,nc0,true_and,Bool.and_true,↓reduceIte,reduceCtorEq,Nat.reduceAdd,Bool.false_eq_true,Nat.zero_add,allPlain,PW.wr,setO,killO,Bool.or_self,Bool.not_true,List.length_cons,List.length_nil,ltB_f hlt])
       exact .refl ⟨_,rfl,.refl _⟩
    ·rw [if_neg (by rintro ⟨h,_⟩;exact h41 h)]
     refine PFun.body hm hC (show Tryd.tab.get 49=some Tryd.c49 from rfl) rfl ?_
     simp only [Tryd.c49,startP,List.length_cons,List.length_nil,Nat.reduceAdd,Nat.reduceSub,List.replicate,List.cons_append,List.nil_append]
     repeat (refine PRun.wpn rfl ?_;simp only [wp,wo_nil,wo_p,wo_n,wo_call,onO_s,onN_s,ble_self,ble_succ,pv_t,pv_int,ov_nil,ov_cons,ov_nilS,put_some,bi_gtr,pevP,pevR,pevN,getP,setP,evsP,PW.cs?,PW.push,PW.none,Option.map_some,Nat.zero_le,true_and,Bool.and_true,↓reduceIte,ltL,lt,Nat.reduceAdd,Bool.false_eq_true,Nat.zero_add,resPs,resP,tupP,ltB_f hbig])
     refine .refl (PFun.to (h1) rfl (POps.wp ?_))
     simp only [wo_nil,wo_p,wo_st,beq_self_eq_true,onO_s,onE_s,ble0,pv_t,put_some,put_none,pevP,pevE,getP,setP,spliceP,overP,plainP,look,nthP,Option.map_some,Bool.and_true,↓reduceIte,Bool.false_eq_true,Nat.add_zero,allPlain,PW.wr,setO,killO,Bool.or_self,Bool.not_true]
     repeat (refine PRun.wpn rfl ?_;simp only [wp,wo_nil,wo_p,wo_call,wo_g,beq_self_eq_true,onO_s,onG_t,wanted_g,wantB_b,pv_t,pv_int,put_some,bi_add,bi_eql,bi_neq,bi_lss,pevP,getP,setP,evsP,Option.map_some,Nat.zero_le,Int.natCast_nonneg,Int.toNat_natCast,true_and,↓reduceIte,Bool.false_eq_true,hn1,he,hc',hq,w0])
     refine .refl (PFun.to (h2) rfl (POps.wp ?_))
     simp only [wo_nil,wo_p,wo_st,beq_self_eq_true,onO_s,onE_s,ble0,pv_t,put_some,put_none,pevP,pevE,getP,setP,spliceP,overP,plainP,look,nthP,Option.map_some,Bool.and_true,↓reduceIte,Bool.false_eq_true,Nat.zero_add,allPlain,PW.wr,setO,killO,Bool.or_self,Bool.not_true]
     repeat (refine PRun.wpn rfl ?_;simp only [wp,wo_nil,wo_p,wo_st,wo_g,beq_self_eq_true,onO_s,onE_s,onG_t,onG_f,wanted_g,wantB_b,b_tf,ble0,pv_t,pv_int,pv_bool,ov_nil,ov_cons,ov_nilS,put_some,put_none,bi_eql,bi_neq,bi_lss,pevP,pevE,getP,setP,fillP,spliceP,overP,plainP,isCell,look,List.length_cons,List.length_nil,Option.map_some,or_true,Int.natCast_nonneg,Int.toNat_natCast,true_and,Bool.and_true,↓reduceIte,reduceCtorEq,ltL,lt,Nat.reduceAdd,Bool.false_eq_true,Nat.zero_add,allPlain,PW.wr,setO,killO,Bool.or_self,Bool.not_true,List.length_cons,List.length_nil,hn2,he2,hc2',neB_t (show ¬ ((c2.toNat:Nat):Int)=41 by omega)])
     exact .refl ⟨_,rfl,.tup (.cons (.agg (.cons .nil_sz (.cons .nil_sz .nil))) (.cons (.refl _) (.cons (.refl _) .nil)))⟩
  ·rw [if_neg h40]
   refine PFun.body hm hC (show Tryd.tab.get 49=some Tryd.c49 from rfl) rfl ?_
   simp only [Tryd.c49,startP,List.length_cons,List.length_nil,Nat.reduceAdd,Nat.reduceSub,List.replicate,List.cons_append,List.nil_append]
   repeat (refine PRun.wpn rfl ?_;simp only [wp,wo_nil,wo_p,wo_n,wo_call,onO_s,onN_s,ble_self,ble_succ,pv_t,pv_int,ov_nil,ov_cons,ov_nilS,put_some,bi_gtr,pevP,pevR,pevN,getP,setP,evsP,PW.cs?,PW.push,PW.none,Option.map_some,Nat.zero_le,true_and,Bool.and_true,↓reduceIte,ltL,lt,Nat.reduceAdd,Bool.false_eq_true,Nat.zero_add,resPs,resP,tupP,ltB_f hbig])
   refine .refl (PFun.to (h1) rfl (POps.wp ?_))
   simp only [wo_nil,wo_p,wo_st,beq_self_eq_true,onO_s,onE_s,ble0,pv_t,put_some,put_none,pevP,pevE,getP,setP,spliceP,overP,plainP,look,nthP,Option.map_some,Bool.and_true,↓reduceIte,Bool.false_eq_true,Nat.add_zero,allPlain,PW.wr,setO,killO,Bool.or_self,Bool.not_true]
   repeat (refine PRun.wpn rfl ?_;simp only [wp,wo_nil,wo_p,wo_st,wo_g,beq_self_eq_true,onO_s,onE_s,onG_t,wanted_g,wantB_b,ble0,pv_t,pv_int,ov_nil,ov_cons,ov_nilS,put_some,put_none,bi_eql,bi_neq,bi_lss,pevP,pevE,getP,setP,fillP,spliceP,overP,plainP,isCell,look,List.length_cons,List.length_nil,Option.map_some,or_true,Int.natCast_nonneg,Int.toNat_natCast,true_and,Bool.and_true,↓reduceIte,reduceCtorEq,ltL,lt,Nat.reduceAdd,Bool.false_eq_true,Nat.zero_add,allPlain,PW.wr,setO,killO,Bool.or_self,Bool.not_true,List.length_cons,List.length_nil,hn1,he,hc',neB_t (show ¬ ((c.toNat:Nat):Int)=40 by omega)])
   exact .refl ⟨_,rfl,.tup (.cons (.agg (.cons .nil_sz (.cons .nil_sz .nil))) (.cons (.refl _) (.cons (.refl _) .nil)))⟩
end
end Go.Proofs.YtkldgoapompinaaDoor.Ai
namespace Go.Proofs.YtkldgoapompinaaDoor.Ai
open Go
set_option linter.unusedSimpArgs false
set_option linter.unusedVariables false
set_option linter.unusedSectionVars false
set_option maxRecDepth 10000
noncomputable def sumD:List Nat→Nat
 | []=>0
 | n::l=>Lib.nDigits n + 1 + sumD l
theorem sumD_snoc (n:Nat):∀ l:List Nat,sumD (l++[n])=sumD l + (Lib.nDigits n + 1)
 | []=>by simp [sumD]
 | m::l=>by simp only [List.cons_append,sumD,sumD_snoc n l];omega
theorem sumD_len:∀ l:List Nat,l.length≤sumD l
 | []=>Nat.le_refl _
 | m::l=>by have:=sumD_len l;simp only [List.length_cons,sumD];omega
theorem outS_sum {itS:Nat→ByteArray} (hD:∀ n,digs itS n=Lib.decDigits n):∀ l:List Nat,(outS itS l).length=sumD l
 | []=>rfl
 | n::l=>by simp only [outS,sumD,List.length_append,List.length_cons,List.length_nil,hD,Lib.decDigits_length,outS_sum hD l]
theorem oL_sum {itS:Nat→ByteArray} (hD:∀ n,digs itS n=Lib.decDigits n):∀ l:List Nat,(oL itS false l).length=sumD l
 | []=>rfl
 | n::l=>by simp only [oL,sumD,List.length_append,List.length_cons,List.length_nil,hD,Lib.decDigits_length,oL_sum hD l,Bool.false_eq_true,if_false];omega
theorem oL_sumT {itS:Nat→ByteArray} (hD:∀ n,digs itS n=Lib.decDigits n) (l:List Nat):(oL itS true l).length≤sumD l:=by
 cases l with
 | nil=>exact Nat.le_refl _
 | cons n l=>simp only [oL,sumD,List.length_append,List.length_cons,List.length_nil,hD,Lib.decDigits_length,oL_sum hD l,if_true];omega
theorem numL_dig:∀ (l:List UInt8) (v n:Nat),0 < n→Lib.nDigits v≤n→Lib.nDigits (numL v n l).1≤(numL v n l).2
 | [],v,n,_,h=>h
 | c::l,v,n,hn,h=>by
  unfold numL
  split
  ·rename_i hc
   split
   ·exact h
   ·rename_i hb
    refine numL_dig l _ _ (by omega) ?_
    by_cases h1:10 * v + (c.toNat - 48) < 10
    ·rw [Lib.nDigits_small h1];omega
    ·rw [Lib.nDigits_big h1,show (10 * v + (c.toNat - 48)) / 10=v by omega];omega
  ·exact h
theorem numL_first_dig {c:UInt8} {l:List UInt8} (h:48≤c.toNat∧c.toNat≤57):Lib.nDigits (numL 0 0 (c::l)).1≤(numL 0 0 (c::l)).2:=by
 rw [numL,if_pos h,if_neg (by omega)]
 refine numL_dig l _ _ (by omega) ?_
 rw [Lib.nDigits_small (by omega)];omega
structure Good (B:Nat) (r:(List Nat × List Nat) × Nat × Nat):Prop where
 err:r.1.2=[]→r.1.1=[]∧r.2.1=51
 ok:r.1.2 ≠ []→r.2.1=0∧r.2.2=0
 b1:∀ n∈r.1.1,n < 65536
 b2:∀ n∈r.1.2,n < 65536
 sum:sumD r.1.1 + sumD r.1.2≤B + 1
theorem Good.bad (B i:Nat):Good B (([],[]),51,i):=⟨fun _=>⟨rfl,rfl⟩,fun h=>absurd rfl h,by simp,by simp,Nat.zero_le _⟩
theorem rdM_good (B:Nat):∀ (k i:Nat) (l:List UInt8) (st lp:List Nat) (o sh p:Bool),(sh=true→lp ≠ [])→(∀ n∈st,n < 65536)→(∀ n∈lp,n < 65536)→
  sumD st + sumD lp + l.length≤B + (if p=true then 0 else 1)→Good B (rdM k i l st lp o sh p)
 | 0,i,l,st,lp,o,sh,p,_,_,_,_=>Good.bad B i
 | k + 1,i,[],st,lp,o,sh,p,h1,h2,h3,h4=>by
  unfold rdM
  split
  ·rename_i hs
   refine ⟨fun h=>absurd h (h1 hs),fun _=>⟨rfl,rfl⟩,h2,h3,?_⟩
   simp only [List.length_nil] at h4
   have:(if p=true then 0 else 1)≤1:=by split <;> omega
   show sumD st + sumD lp≤B + 1
   omega
  ·exact Good.bad B i
 | k + 1,i,c::l,st,lp,o,sh,p,h1,h2,h3,h4=>by
  have hp:(if p=true then 0 else 1)≤1:=by split <;> omega
  have h4':sumD st + sumD lp + (l.length + 1)≤B + (if p=true then 0 else 1):=h4
  unfold rdM
  split
  ·exact rdM_good B k _ _ _ _ _ _ _ h1 h2 h3 (by simp only [if_true];omega)
  split
  ·exact rdM_good B k _ _ _ _ _ _ _ h1 h2 h3 (by simp only [if_true];omega)
  split
  ·rename_i hc
   exact rdM_good B k _ _ _ _ _ _ _ (fun _=>hc.2.2.2) h2 h3 (by omega)
  split
  ·rename_i hc
   obtain ⟨hd,rfl,rfl⟩:=hc
   have g1:=numL_first_dig (l:=l) hd
   have g2:=numL_le (c::l) 0 0 (by omega)
   have hlen:((c::l).drop (numL 0 0 (c::l)).2).length=l.length + 1 - (numL 0 0 (c::l)).2:=by rw [List.length_drop];rfl
   simp only [List.length_cons] at g2
   simp only [if_true] at h4'
   generalize numL 0 0 (c::l)=N at g1 g2 hlen ⊢
   cases o
   ·simp only [Bool.false_eq_true,if_false]
    refine rdM_good B k _ _ _ _ _ _ _ (by simp) (fun n hn=>?_) h3 ?_
    ·rcases List.mem_append.1 hn with hn | hn
     ·exact h2 n hn
     ·obtain rfl:=List.mem_singleton.1 hn;omega
    ·simp only [Bool.false_eq_true,if_false];rw [sumD_snoc,hlen];omega
   ·simp only [if_true]
    refine rdM_good B k _ _ _ _ _ _ _ (by simp) h2 (fun n hn=>?_) ?_
    ·rcases List.mem_append.1 hn with hn | hn
     ·exact h3 n hn
     ·obtain rfl:=List.mem_singleton.1 hn;omega
    ·simp only [Bool.false_eq_true,if_false];rw [sumD_snoc,hlen];omega
  ·exact Good.bad B i
theorem readM_good (s:ByteArray):Good s.size (readM s):=by
 unfold readM
 split
 ·exact Good.bad _ _
 ·refine rdM_good s.size _ _ _ _ _ _ _ _ (by simp) (by simp) (by simp) ?_
  simp only [sumD,if_true,Nat.add_zero,Nat.zero_add]
  exact Nat.le_of_eq (Array.length_toList)
end Go.Proofs.YtkldgoapompinaaDoor.Ai
