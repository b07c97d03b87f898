/- A PART OF THE PROOF: a step of the proof that the law's code does what its contracts say, by an interpreter of the program's functions that is proved to be sound. -/
import Derived.Test.YtkldgoapompinaaDoorPv2
import Derived.Test.YtkldgoapompinaaDoorIrW9
namespace Go.Proofs.YtkldgoapompinaaDoor.Ai
open Go
set_option linter.unusedVariables false
set_option maxRecDepth 10000

def L16 (l : List Int) : List PV := l.map fun n => .lit (.int .u16 n)
def szU (l : List Int) : PV := .sz (L16 l) l.length
theorem L16_drop {l : List Int} {i : Nat} (h : i < l.length) : (L16 l).drop i = .lit (.int .u16 l[i]) :: L16 (l.drop (i + 1)) := by
  unfold L16
  rw [← List.map_drop, List.drop_eq_getElem_cons h]; rfl
theorem take_next {l m : List Int} {i : Nat} (h : l.take i = m.take i) (h1 : i < l.length) (h2 : i < m.length) : l.take (i + 1) = m.take (i + 1) ↔ l[i] = m[i] := by
  have e1 : l.take (i + 1) = m.take i ++ [l[i]] := by rw [List.take_succ_eq_append_getElem h1, h]
  have e2 : m.take (i + 1) = m.take i ++ [m[i]] := by rw [List.take_succ_eq_append_getElem h2]
  rw [e1, e2]
  exact ⟨fun h => by simpa using List.append_cancel_left h, fun h => by rw [h]⟩
section
variable {C : Ctx} (hm : C.P.follows .mixedOrders = true) (hC : TabOK C.P C.ng C.ts Tryd.tab)
include hm hC
theorem equal_ok (l m : List Int) (hl : l.length < 2 ^ 62) : PFun C 75 [szU l, szU m] (.lit (.bool (decide (l = m)))) := by
  refine PFun.of_body hm hC (show Tryd.tab.get 75 = some Tryd.c75 from rfl) rfl ?_
  simp only [Tryd.c75, startP, szU, List.length_cons, List.length_nil, Nat.reduceAdd, Nat.reduceSub, List.replicate, List.cons_append, List.nil_append]
  repeat (refine PRun.wpn rfl ?_; simp only [wp, wo_nil, wo_p, onO_s, pv_t, pv_bool, put_some, bi_neq, pevP, getP, setP, PW.none, Option.map_some, resPs, resP, tupP, neB_iff])
  split
  · rename_i h
    repeat (refine PRun.wpn rfl ?_; simp only [wp, getP, or_true, true_and, reduceCtorEq])
    have h' : l ≠ m := by intro e; subst e; simp at h
    simp [h']
  rename_i h
  have hlm : l.length = m.length := by omega
  repeat (refine PRun.wpn rfl ?_; simp only [wp, wo_nil, wo_p, onO_s, pv_t, pv_int, put_some, pevP, getP, setP, reduceCtorEq])
  refine PRun.loopG (fun n t π => π = ⟨0, []⟩ ∧ ∃ (i : Nat) (x2 x3 x5 x6 x7 x8 x9 x10 x11 x14 x15 x16 x17 x18 x19 x20 x21 x22 x23 x24 x25 : PV), t = (.sz (L16 l) l.length :: .sz (L16 m) m.length :: x2 :: x3 :: .lit (.bool false) :: x5 :: x6 :: x7 :: x8 :: x9 :: x10 :: x11 :: .lit (.int .i64 l.length) :: .lit (.int .i64 (i : Nat)) :: x14 :: x15 :: x16 :: x17 :: x18 :: x19 :: x20 :: x21 :: x22 :: x23 :: x24 :: x25 :: []) ∧ i ≤ l.length ∧ n = l.length - i ∧ l.take i = m.take i) ?_ l.length _ _ ⟨rfl, 0, _, _, _, _, _, _, _, _, _, _, _, _, _, _, _, _, _, _, _, _, _, rfl, by omega, rfl, rfl⟩
  rintro n t π ⟨rfl, i, x2, x3, x5, x6, x7, x8, x9, x10, x11, x14, x15, x16, x17, x18, x19, x20, x21, x22, x23, x24, x25, rfl, hi, rfl, hp⟩
  repeat (refine PRun.wpn rfl ?_; simp only [wp, wo_nil, wo_p, onO_s, pv_t, put_some, bi_lss, pevP, getP, setP, Option.map_some, ↓reduceIte, ltB_iff])
  split
  · rename_i hlt
    have h1 : i < l.length := by omega
    have h2 : i < m.length := by omega
    repeat (refine PRun.wpn rfl ?_; simp only [wp, wo_nil, wo_p, onO_s, pv_t, put_some, pevP, getP, setP])
    refine PDraw.last (Nat.zero_le _) rfl ?_
    simp only [onX_s, onXI_s, rdX_e, ltN, ltD_s, wx_nil, wx_cons, wx_p, wx_r, pv_t, put_some, bi_neq, pevP, pevR, getP, setP, nthO, baseP, ROp.base, List.length_cons, List.length_nil, Option.map_some, Nat.mul_one, Int.natCast_nonneg, Int.toNat_natCast, and_self, Bool.and_true, ↓reduceIte, Nat.reduceAdd, Nat.zero_add, List.length_cons, List.length_nil, Int.natCast_nonneg, hlt, Int.toNat_natCast, Nat.mul_one, L16_drop h1, ← hlm, L16_drop h2]
    repeat (refine PRun.wpn rfl ?_; simp only [wp, wo_nil, wo_p, onO_s, pv_t, pv_bool, put_some, pevP, getP, setP, neB_iff])
    split
    · rename_i hne
      repeat (refine PRun.wpn rfl ?_; simp only [wp, getP, or_true, true_and, reduceCtorEq])
      have h' : l ≠ m := by intro e; subst e; simp at hne
      simp [h']
    · rename_i heq
      repeat (refine PRun.wpn rfl ?_; simp only [wp, wo_nil, wo_p, onO_s, pv_t, pv_int, put_some, bi_add, pevP, getP, setP, Option.map_some])
      rw [wrap64 (by omega) (by omega)]
      exact .refl ⟨l.length - (i + 1), by omega, rfl, i + 1, _, _, _, _, _, _, _, _, _, _, _, _, _, _, _, _, _, _, _, _, _, rfl, by omega, rfl, (take_next hp h1 h2).2 (by simpa using heq)⟩
  · rename_i hge
    have hil : i = l.length := by omega
    subst hil
    repeat (refine PRun.wpn rfl ?_; simp only [wp, wo_nil, wo_p, onO_s, pv_bool, put_some, pevP, getP, setP, or_true, true_and, reduceCtorEq])
    have h' : l = m := by rw [List.take_length, hlm, List.take_length] at hp; exact hp
    simp [h']
end
end Go.Proofs.YtkldgoapompinaaDoor.Ai

namespace Go.Proofs.YtkldgoapompinaaDoor.Ai
open Go
set_option linter.unusedVariables false
set_option maxRecDepth 10000

theorem tmod_nat (a b : Nat) : Int.tmod (a : Int) (b : Int) = ((a % b : Nat) : Int) := rfl
theorem L16_len (l : List Int) : (L16 l).length = l.length := by simp [L16]
theorem wk_cut (l : List Int) (a k : Nat) (h : a + k ≤ l.length) : Wk (.sz ((L16 l).drop a) k) (szU ((l.drop a).take k)) := by
  unfold szU
  have e : ((l.drop a).take k).length = k := by simp; omega
  rw [e]
  refine Wk.sz (ext := (L16 l).drop (a + k)) ?_
  have : (L16 l).drop a = L16 ((l.drop a).take k) ++ (L16 l).drop (a + k) := by
    simp only [L16, ← List.map_drop, ← List.map_append]
    congr 1
    rw [← List.drop_drop, List.take_append_drop]
  rw [this]
  exact WkL.refl _
/-- the shortest row, again and again: from n on -/
def perFrom (l : List Int) (n : Nat) : Nat → Nat
  | 0 => l.length
  | k + 1 => if l.length % n = 0 ∧ l.drop n = l.take (l.length - n) then n else perFrom l (n + 1) k
def per (l : List Int) : Nat := perFrom l 1 (l.length - 1)
section
variable {C : Ctx} (hm : C.P.follows .mixedOrders = true) (hC : TabOK C.P C.ng C.ts Tryd.tab)
include hm hC
theorem period_ok (l : List Int) (hl : l.length < 2 ^ 40) : PFun C 51 [szU l] (.lit (.int .i64 (per l : Nat))) := by
  refine PFun.of_body hm hC (show Tryd.tab.get 51 = some Tryd.c51 from rfl) rfl ?_
  simp only [Tryd.c51, startP, szU, List.length_cons, List.length_nil, Nat.reduceAdd, Nat.reduceSub, List.replicate, List.cons_append, List.nil_append]
  repeat (refine PRun.wpn rfl ?_; simp only [wp, wo_nil, wo_p, onO_s, pv_int, put_some, pevP, setP, PW.none, reduceCtorEq, resPs, resP, tupP])
  refine PRun.loopG (fun k t π => π = ⟨0, []⟩ ∧ ∃ (n : Nat) (x1 x2 x4 x5 x6 x7 x8 x9 x10 x11 x12 x13 x14 x15 x16 x17 x18 x19 x20 x21 x22 x23 x24 x25 x26 x27 x28 x29 : PV), t = (.sz (L16 l) l.length :: x1 :: x2 :: .lit (.int .i64 (n : Nat)) :: x4 :: x5 :: x6 :: x7 :: x8 :: x9 :: x10 :: x11 :: x12 :: x13 :: x14 :: x15 :: x16 :: x17 :: x18 :: x19 :: x20 :: x21 :: x22 :: x23 :: x24 :: x25 :: x26 :: x27 :: x28 :: x29 :: []) ∧ 1 ≤ n ∧ (n ≤ l.length ∨ n = 1) ∧ k = l.length - n ∧ per l = perFrom l n k) ?_ (l.length - 1) _ _ ⟨rfl, 1, _, _, _, _, _, _, _, _, _, _, _, _, _, _, _, _, _, _, _, _, _, _, _, _, _, _, _, _, rfl, by omega, by omega, rfl, rfl⟩
  rintro k t π ⟨rfl, n, x1, x2, x4, x5, x6, x7, x8, x9, x10, x11, x12, x13, x14, x15, x16, x17, x18, x19, x20, x21, x22, x23, x24, x25, x26, x27, x28, x29, rfl, hn, hn', rfl, hp⟩
  repeat (refine PRun.wpn rfl ?_; simp only [wp, wo_nil, wo_p, onO_s, pv_t, put_some, bi_lss, pevP, getP, setP, Option.map_some, ↓reduceIte, ltB_iff])
  split
  · rename_i hlt
    have h1 : n < l.length := by omega
    have hn0 : (n : Int) ≠ 0 := by omega
    have hnl : (n : Int) ≤ (l.length : Nat) := by omega
    obtain ⟨k, hk⟩ : ∃ k, l.length - n = k + 1 := ⟨l.length - n - 1, by omega⟩
    rw [hk, perFrom] at hp
    repeat (refine PRun.wpn rfl ?_; simp only [wp])
    refine PDraw.stage (Nat.zero_le _) rfl ?_
    by_cases hd : l.length % n = 0
    · have hd' : ((l.length % n : Nat) : Int) = 0 := by omega
      have e1 : ((l.length : Nat) : Int) - (n : Nat) = ((l.length - n : Nat) : Int) := by omega
      have e2 : ((l.length - n : Nat) : Int) ≤ (l.length : Nat) := by omega
      simp only [wanted_g, b_tt, onX_s, onXG_t, onXI_s, rdX_e, ltN, ltD_s, onD_s, onDG_t, wx_nil, wx_cons, wx_p, wx_r, wx_g, wd_cons, wd_e, wd_g, pv_t, pv_int, put_some, bi_sub, bi_eql, pevP, pevR, getP, setP, nthO, boundP, baseP, ROp.base, List.length_cons, List.length_nil, List.drop_zero, Option.map_some, Option.bind_some, Option.isNone_none, true_or, or_true, Nat.mul_one, Nat.sub_zero, Int.natCast_nonneg, Int.toNat_natCast, and_self, true_and, Bool.and_true, ↓reduceIte, Nat.reduceAdd, Nat.zero_add, List.length_cons, List.length_nil, bi_rem hn0, tmod_nat, eqB_t hd', hnl, h1, e1, e2, wrap64 (show (-9223372036854775808 : Int) ≤ ((l.length - n : Nat) : Int) by omega) (by omega)]
      refine PDE.pure ((equal_ok hm hC (l.drop n) (l.take (l.length - n)) (by simp; omega)).args (WkL.cons ?_ (WkL.cons ?_ .nil))) rfl ?_
      · have := wk_cut l n (l.length - n) (by omega)
        rwa [List.take_of_length_le (by simp)] at this
      · exact wk_cut l 0 (l.length - n) (by omega)
      refine PDraw.last (Nat.zero_le _) rfl ?_
      simp only [onX_s, onXI_s, wx_nil, wx_cons, wx_p, pv_t, put_some, pevP, getP, setP, nthO]
      by_cases he : l.drop n = l.take (l.length - n)
      · simp only [decide_eq_true he]
        repeat (refine PRun.wpn rfl ?_; simp only [wp, wo_nil, wo_p, onO_s, pv_t, put_some, pevP, getP, setP, or_true, true_and, ↓reduceIte, reduceCtorEq])
        rw [if_pos ⟨hd, he⟩] at hp
        simp [hp]
      · simp only [decide_eq_false he]
        repeat (refine PRun.wpn rfl ?_; simp only [wp, wo_nil, wo_p, onO_s, pv_t, pv_int, put_some, bi_add, pevP, getP, setP, Option.map_some, ↓reduceIte, Bool.false_eq_true])
        rw [if_neg (fun h => he h.2)] at hp
        rw [wrap64 (by omega) (by omega)]
        exact .refl ⟨k, by omega, rfl, n + 1, _, _, _, _, _, _, _, _, _, _, _, _, _, _, _, _, _, _, _, _, _, _, _, _, _, _, _, _, rfl, by omega, by omega, by omega, hp⟩
    · have hd' : ¬ ((l.length % n : Nat) : Int) = 0 := by omega
      simp only [wanted_g, b_ft, onX_s, onXG_f, onXI_s, onD_s, onDG_f, wx_nil, wx_cons, wx_p, wx_g, wd_cons, wd_g, pv_t, pv_int, put_some, bi_eql, pevP, getP, setP, nthO, Option.map_some, bi_rem hn0, tmod_nat, eqB_f hd']
      refine PDraw.last (Nat.zero_le _) rfl ?_
      simp only [onX_s, onXI_s, wx_nil, wx_cons, wx_p, pv_t, pv_bool, put_some, pevP, getP, setP, nthO]
      repeat (refine PRun.wpn rfl ?_; simp only [wp, wo_nil, wo_p, onO_s, pv_t, pv_int, put_some, bi_add, pevP, getP, setP, Option.map_some, ↓reduceIte, Bool.false_eq_true])
      rw [if_neg (fun h => hd h.1)] at hp
      rw [wrap64 (by omega) (by omega)]
      exact .refl ⟨k, by omega, rfl, n + 1, _, _, _, _, _, _, _, _, _, _, _, _, _, _, _, _, _, _, _, _, _, _, _, _, _, _, _, _, rfl, by omega, by omega, by omega, hp⟩
  · rename_i hge
    have h0 : l.length - n = 0 := by omega
    rw [h0, perFrom] at hp
    repeat (refine PRun.wpn rfl ?_; simp only [wp, wo_nil, wo_p, onO_s, pv_t, put_some, pevP, getP, setP, or_true, true_and, reduceCtorEq])
    simp [hp]
end
end Go.Proofs.YtkldgoapompinaaDoor.Ai

namespace Go.Proofs.YtkldgoapompinaaDoor.Ai
open Go
set_option linter.unusedVariables false
set_option maxRecDepth 10000

theorem allPlain_L16 (l : List Int) : allPlain (L16 l) = true := by
  induction l with
  | nil => rfl
  | cons x l ih => simp only [L16, List.map_cons, allPlain] at ih ⊢; simp [plainP, isCell, ih]
theorem pureL_L16 (l : List Int) : pureL (L16 l) = true := by
  induction l with
  | nil => rfl
  | cons x l ih => simp only [L16, List.map_cons, pureL] at ih ⊢; simp [pureP, ih]
theorem L16_take (l : List Int) : (L16 l).take l.length = L16 l := by rw [← L16_len l, List.take_length]
theorem Wk.sl_szU (l : List Int) : Wk (.sl (L16 l) l.length) (szU l) := .sl_sz
section
variable {C : Ctx} (hm : C.P.follows .mixedOrders = true) (hC : TabOK C.P C.ng C.ts Tryd.tab)
include hm hC
theorem clone_ok (l : List Int) (hl : l.length < 2 ^ 40) : PFun C 52 [szU l] (szU l) := by
  refine PFun.sz_cases (fun h0 => ?_) ?_
  · have : l = [] := by simpa using h0
    subst this
    refine PFun.body hm hC (show Tryd.tab.get 52 = some Tryd.c52 from rfl) rfl ?_
    simp only [Tryd.c52, startP, szU, List.length_cons, List.length_nil, Nat.reduceAdd, Nat.reduceSub, List.replicate, List.cons_append, List.nil_append]
    repeat (refine PRun.wpn rfl ?_; simp only [wp, wo_nil, wo_p, onO_s, pv_t, pv_nilS, put_some, pevP, getP, setP, eqP, PW.none, or_true, true_and, ↓reduceIte, reduceCtorEq, Bool.bne_false, resPs, resP, tupP])
    exact .refl ⟨_, rfl, .nil_sz⟩
  · refine PFun.body hm hC (show Tryd.tab.get 52 = some Tryd.c52 from rfl) rfl ?_
    simp only [Tryd.c52, startP, szU, List.length_cons, List.length_nil, Nat.reduceAdd, Nat.reduceSub, List.replicate, List.cons_append, List.nil_append]
    by_cases h0 : l.length = 0
    · have : l = [] := by simpa using h0
      subst this
      repeat (refine PRun.wpn rfl ?_; simp only [wp, wo_nil, wo_p, wo_n, wo_append, onO_s, onN_s, onE_s, ble_self, ble_succ, pv_t, pv_nilS, ov_nil, put_some, pevP, pevN, pevE, getP, setP, eqP, lenP, srcP, appendP, fillP, PW.push, PW.none, cutP, List.length_nil, List.take_zero, Option.map_some, Option.bind_some, or_true, Nat.mul_one, true_and, ↓reduceIte, reduceCtorEq, ltL, Bool.false_eq_true, Nat.add_zero, Nat.zero_add, Bool.bne_false, resPs, resP, tupP, List.length_nil, Nat.le_refl, L16_len])
      refine Gh.freeze 0 rfl rfl rfl ?_
      exact ⟨_, rfl, .sl_sz⟩
    · have h1 : ¬ l.length ≤ 0 := by omega
      have h2 : ¬ 140737488355328 < (2 * l.length + 768) * 2 := by omega
      repeat (refine PRun.wpn rfl ?_; simp only [wp, wo_nil, wo_p, wo_n, wo_append, onO_s, onN_s, onE_s, ble_self, ble_succ, pv_t, pv_nilS, ov_nil, put_some, pevP, pevN, pevE, getP, setP, eqP, lenP, srcP, appendP, fillP, look, PW.push, PW.none, cutP, List.length_nil, List.drop_zero, List.take_zero, Option.map_some, Option.bind_some, or_true, Nat.mul_one, true_and, ↓reduceIte, reduceCtorEq, ltL, Nat.reduceAdd, Bool.false_eq_true, Nat.zero_add, Bool.not_true, Bool.bne_false, resPs, resP, tupP, List.nil_append, List.length_nil, gt_iff_lt, Nat.le_refl, L16_len, L16_take, allPlain_L16, h1, h2])
      refine Gh.freeze 1 rfl (pureL_L16 l) rfl ?_
      simp only [getP, List.drop_zero, ↓reduceIte, reduceCtorEq, frzL, frzP, Nat.le_refl]
      exact ⟨_, rfl, .sl_sz⟩
end
end Go.Proofs.YtkldgoapompinaaDoor.Ai

namespace Go.Proofs.YtkldgoapompinaaDoor.Ai
open Go
set_option linter.unusedVariables false
set_option maxRecDepth 10000
section
variable {C : Ctx} (hm : C.P.follows .mixedOrders = true) (hC : TabOK C.P C.ng C.ts Tryd.tab)
include hm hC
theorem sameLetters_ok (l m : List Int) (hl : l.length < 2 ^ 62) : PFun C 24 [szU l, szU m] (.lit (.bool (decide (l = m)))) := by
  refine PFun.of_body hm hC (show Tryd.tab.get 24 = some Tryd.c24 from rfl) rfl ?_
  simp only [Tryd.c24, startP, szU, List.length_cons, List.length_nil, Nat.reduceAdd, Nat.reduceSub, List.replicate, List.cons_append, List.nil_append]
  repeat (refine PRun.wpn rfl ?_; simp only [wp, wo_nil, wo_p, onO_s, pv_t, pv_bool, put_some, bi_neq, pevP, getP, setP, PW.none, Option.map_some, resPs, resP, tupP, neB_iff])
  split
  · rename_i h
    repeat (refine PRun.wpn rfl ?_; simp only [wp, getP, or_true, true_and, reduceCtorEq])
    have h' : l ≠ m := by intro e; subst e; simp at h
    simp [h']
  rename_i h
  have hlm : l.length = m.length := by omega
  repeat (refine PRun.wpn rfl ?_; simp only [wp, wo_nil, wo_p, onO_s, pv_int, put_some, pevP, setP, reduceCtorEq])
  refine PRun.loopG (fun n t π => π = ⟨0, []⟩ ∧ ∃ (i : Nat) (x2 x3 x6 x7 x8 x9 x10 x11 x12 x13 x14 x15 x16 x17 x18 x19 x20 x21 x22 x23 x24 x25 : PV), t = (.sz (L16 l) l.length :: .sz (L16 m) m.length :: x2 :: x3 :: .lit (.bool false) :: .lit (.int .i64 (i : Nat)) :: x6 :: x7 :: x8 :: x9 :: x10 :: x11 :: x12 :: x13 :: x14 :: x15 :: x16 :: x17 :: x18 :: x19 :: x20 :: x21 :: x22 :: x23 :: x24 :: x25 :: []) ∧ i ≤ l.length ∧ n = l.length - i ∧ l.take i = m.take i) ?_ l.length _ _ ⟨rfl, 0, _, _, _, _, _, _, _, _, _, _, _, _, _, _, _, _, _, _, _, _, _, _, rfl, by omega, rfl, rfl⟩
  rintro n t π ⟨rfl, i, x2, x3, x6, x7, x8, x9, x10, x11, x12, x13, x14, x15, x16, x17, x18, x19, x20, x21, x22, x23, x24, x25, rfl, hi, rfl, hp⟩
  repeat (refine PRun.wpn rfl ?_; simp only [wp, wo_nil, wo_p, onO_s, pv_t, put_some, bi_lss, pevP, getP, setP, Option.map_some, ↓reduceIte, ltB_iff])
  split
  · rename_i hlt
    have h1 : i < l.length := by omega
    have h2 : i < m.length := by omega
    repeat (refine PRun.wpn rfl ?_; simp only [wp])
    refine PDraw.last (Nat.zero_le _) rfl ?_
    simp only [onX_s, onXI_s, rdX_e, ltN, ltD_s, wx_nil, wx_cons, wx_p, wx_r, pv_t, put_some, bi_neq, pevP, pevR, getP, setP, nthO, baseP, ROp.base, List.length_cons, List.length_nil, Option.map_some, Nat.mul_one, Int.natCast_nonneg, Int.toNat_natCast, and_self, Bool.and_true, ↓reduceIte, Nat.reduceAdd, Nat.zero_add, List.length_cons, List.length_nil, Int.natCast_nonneg, hlt, Int.toNat_natCast, Nat.mul_one, L16_drop h1, ← hlm, L16_drop h2]
    repeat (refine PRun.wpn rfl ?_; simp only [wp, wo_nil, wo_p, onO_s, pv_t, pv_bool, put_some, pevP, getP, setP, neB_iff])
    split
    · rename_i hne
      repeat (refine PRun.wpn rfl ?_; simp only [wp, getP, or_true, true_and, reduceCtorEq])
      have h' : l ≠ m := by intro e; subst e; simp at hne
      simp [h']
    · rename_i heq
      repeat (refine PRun.wpn rfl ?_; simp only [wp, wo_nil, wo_p, onO_s, pv_t, pv_int, put_some, bi_add, pevP, getP, setP, Option.map_some])
      rw [wrap64 (by omega) (by omega)]
      exact .refl ⟨l.length - (i + 1), by omega, rfl, i + 1, _, _, _, _, _, _, _, _, _, _, _, _, _, _, _, _, _, _, _, _, _, _, rfl, by omega, rfl, (take_next hp h1 h2).2 (by simpa using heq)⟩
  · rename_i hge
    have hil : i = l.length := by omega
    subst hil
    repeat (refine PRun.wpn rfl ?_; simp only [wp, wo_nil, wo_p, onO_s, pv_bool, put_some, pevP, getP, setP, or_true, true_and, reduceCtorEq])
    have h' : l = m := by rw [List.take_length, hlm, List.take_length] at hp; exact hp
    simp [h']
theorem grow_ok (n : Nat) (hn : n < 2 ^ 41) (π : PW) : PTo C 82 [.lit (.slice none 0 0), .lit (.int .i64 (n : Nat))] π fun r π' => (n = 0 ∧ r = .lit (.slice none 0 0) ∧ π' = π) ∨ (0 < n ∧ r = .loc π.next 0 0 n ∧ π' = π.push (.cells (List.replicate n (.lit (.int .u16 0))) 54 1 false false [])) := by
  refine PTo.of_body hm hC (show Tryd.tab.get 82 = some Tryd.c82 from rfl) ?_
  simp only [Tryd.c82, startP, List.length_cons, List.length_nil, Nat.reduceAdd, Nat.reduceSub, List.replicate, List.cons_append, List.nil_append]
  have h1 : ¬ (n : Int) < 0 := by omega
  have e0 : IntKind.i64.wrap 0 = 0 := rfl
  have e1 : IntKind.i64.wrap (n : Int) = n := wrap64 (by omega) (by omega)
  have e2 : (n : Int) ≤ 140737488355328 := by omega
  have e3 : (n : Int) * 2 ≤ 140737488355328 := by omega
  repeat (refine PRun.wpn rfl ?_; simp only [wp, wo_nil, wo_p, wo_r, wo_appendZ, onO_s, ble_self, pv_t, pv_int, pv_nilS, ov_nil, ov_cons, ov_int, put_some, bi_sub, bi_lss, bi_gtr, pevP, pevR, pevE, getP, setP, appendP, PW.push, boundP, Option.map_some, Option.bind_some, Nat.sub_zero, Int.natCast_nonneg, Int.toNat_natCast, nc0, nc2, tn0, Int.le_refl, Int.sub_self, Int.sub_zero, and_self, flat_one, true_and, and_true, Bool.and_true, ↓reduceIte, ltL, lt, Nat.zero_add, resPs, resP, tupP, ltB_iff, gt_iff_lt, Nat.le_refl, h1, e0, e1])
  split
  · rename_i h0
    have h2 : ¬ n = 0 := by omega
    have h3 : ¬ n ≤ 0 := by omega
    have h4 : ¬ 140737488355328 < (2 * n + 768) * 2 := by omega
    have h5 : 0 < n := by omega
    simp only [wo_p, wo_r, onO_s, onE_s, pv_t, put_some, pevP, pevR, getP, setP, look, PW.exactAt, boundP, Option.bind_some, Option.isNone_none, Nat.mul_one, Nat.sub_zero, Int.natCast_nonneg, nc0, tn0, Int.le_refl, and_self, Bool.true_and, ↓reduceIte, Bool.false_eq_true, Nat.zero_add, Bool.or_self, Bool.or_false, Bool.not_true, Nat.le_refl, e2, e3, h2, h3, h4, allPlain_rep (p := .lit (.int .u16 0)) rfl, bne_self_eq_false]
    repeat (refine PRun.wpn rfl ?_; simp only [wp, wo_nil, wo_p, onO_s, pv_t, put_some, pevP, getP, setP, or_true, true_and, and_true, reduceCtorEq])
    simp [h5]
  · rename_i h0
    have : n = 0 := by omega
    subst this
    repeat (refine PRun.wpn rfl ?_; simp only [wp, wo_nil, wo_p, onO_s, pv_t, put_some, pevP, getP, setP, or_true, nc0, Nat.lt_irrefl, true_and, and_true, reduceCtorEq])
    simp
end
end Go.Proofs.YtkldgoapompinaaDoor.Ai

namespace Go.Proofs.YtkldgoapompinaaDoor.Ai
open Go
set_option linter.unusedVariables false
set_option maxRecDepth 10000
theorem mapS_drop {ls : List (List Int)} {i : Nat} (h : i < ls.length) : (ls.map szU).drop i = .sz (L16 ls[i]) ls[i].length :: (ls.drop (i + 1)).map szU := by
  rw [← List.map_drop, List.drop_eq_getElem_cons h]; rfl
theorem flat_next {ls : List (List Int)} {i : Nat} (h : i < ls.length) : (ls.take (i + 1)).flatten = (ls.take i).flatten ++ ls[i] := by
  rw [List.take_succ_eq_append_getElem h]; simp only [List.flatten_append, List.flatten_cons, List.flatten_nil, List.append_nil]
theorem flat_le (ls : List (List Int)) (i : Nat) : (ls.take i).flatten.length ≤ ls.flatten.length := by
  have : ls.flatten = (ls.take i).flatten ++ (ls.drop i).flatten := by rw [← List.flatten_append, List.take_append_drop]
  rw [this, List.length_append]; omega
theorem L16_append (a b : List Int) : L16 (a ++ b) = L16 a ++ L16 b := by simp [L16]
theorem fillL_step (a l : List Int) (k : Nat) (h : l.length ≤ k) (z : PV) : spliceP (L16 a ++ List.replicate k z) a.length (L16 l) = some (L16 (a ++ l) ++ List.replicate (k - l.length) z) := by
  rw [spliceP_eq _ _ _ (by simp [L16_len]; omega), L16_append]
  congr 1
  have e1 : a.length = (L16 a).length := (L16_len a).symm
  rw [e1, List.take_left, L16_len l, ← List.drop_drop, List.drop_left, List.drop_replicate, List.append_assoc]
section
variable {C : Ctx} (hm : C.P.follows .mixedOrders = true) (hC : TabOK C.P C.ng C.ts Tryd.tab)
include hm hC
theorem concat_ok (ls : List (List Int)) (hl : ls.length < 2 ^ 40) (hs : ls.flatten.length < 2 ^ 40) : PFun C 53 [.sl (ls.map szU) ls.length] (szU ls.flatten) := by
  refine PFun.body hm hC (show Tryd.tab.get 53 = some Tryd.c53 from rfl) rfl ?_
  simp only [Tryd.c53, startP, List.length_cons, List.length_nil, Nat.reduceAdd, Nat.reduceSub, List.replicate, List.cons_append, List.nil_append]
  repeat (refine PRun.wpn rfl ?_; simp only [wp, wo_nil, wo_p, onO_s, pv_t, pv_int, pv_nilS, put_some, pevP, getP, setP, PW.none, reduceCtorEq, resPs, resP, tupP])
  refine PRun.loopG (fun n t π => π = ⟨0, []⟩ ∧ ∃ (i : Nat) (x1 x2 x4 x5 x6 x7 x8 x12 x13 x14 x15 x16 x17 x18 x19 x20 x21 x22 x23 x24 x25 x26 x27 x28 x29 x30 x31 x32 x33 x34 x35 : PV), t = (.sl (ls.map szU) ls.length :: x1 :: x2 :: .lit (.int .i64 ((ls.take i).flatten.length : Nat)) :: x4 :: x5 :: x6 :: x7 :: x8 :: .sl (ls.map szU) ls.length :: .lit (.int .i64 (ls.length : Nat)) :: .lit (.int .i64 (i : Nat)) :: x12 :: x13 :: x14 :: x15 :: x16 :: x17 :: x18 :: x19 :: x20 :: x21 :: x22 :: x23 :: x24 :: x25 :: x26 :: x27 :: x28 :: x29 :: x30 :: x31 :: x32 :: x33 :: x34 :: x35 :: []) ∧ i ≤ ls.length ∧ n = ls.length - i) ?_ ls.length _ _ ⟨rfl, 0, _, _, _, _, _, _, _, _, _, _, _, _, _, _, _, _, _, _, _, _, _, _, _, _, _, _, _, _, _, _, _, rfl, by omega, rfl⟩
  rintro n t π ⟨rfl, i, x1, x2, x4, x5, x6, x7, x8, x12, x13, x14, x15, x16, x17, x18, x19, x20, x21, x22, x23, x24, x25, x26, x27, x28, x29, x30, x31, x32, x33, x34, x35, rfl, hi, rfl⟩
  repeat (refine PRun.wpn rfl ?_; simp only [wp, wo_nil, wo_p, onO_s, pv_t, put_some, bi_lss, pevP, getP, setP, Option.map_some, ↓reduceIte, ltB_iff])
  split
  · rename_i hlt
    have h1 : i < ls.length := by omega
    have h2 := flat_le ls (i + 1)
    rw [flat_next h1, List.length_append] at h2
    have e1 : IntKind.i64.wrap (((ls.take i).flatten.length : Nat) + (ls[i].length : Nat)) = (((ls.take (i + 1)).flatten.length : Nat) : Int) := by
      rw [wrap64 (by omega) (by omega), flat_next h1, List.length_append]; omega
    have e2 : ¬ (((ls.take (i + 1)).flatten.length : Nat) : Int) < 0 := by omega
    repeat (refine PRun.wpn rfl ?_; simp only [wp, wo_nil, wo_p, wo_r, onO_s, pv_t, pv_int, put_some, bi_add, bi_lss, pevP, pevR, getP, setP, Option.map_some, Nat.mul_one, Int.natCast_nonneg, Int.toNat_natCast, and_self, ↓reduceIte, ltB_iff, hlt, mapS_drop h1, e1, e2])
    rw [wrap64 (by omega) (by omega)]
    exact .refl ⟨ls.length - (i + 1), by omega, rfl, i + 1, _, _, _, _, _, _, _, _, _, _, _, _, _, _, _, _, _, _, _, _, _, _, _, _, _, _, _, _, _, _, _, rfl, by omega, rfl⟩
  · rename_i hge
    have hil : i = ls.length := by omega
    subst hil
    repeat (refine PRun.wpn rfl ?_; simp only [wp, wo_p, wo_call, onO_s, pv_t, pv_nilS, put_some, pevP, getP, setP, evsP, Nat.zero_le, true_and])
    rw [List.take_length]
    refine .refl (PTo.mono (grow_ok hm hC ls.flatten.length (by omega) _) ?_)
    rintro r π' (⟨h0, rfl, rfl⟩ | ⟨h0, rfl, rfl⟩)
    · refine POps.wp ?_
      simp only [wo_nil, wo_p, onO_s, pv_t, put_some, pevP, getP, setP]
      repeat (refine PRun.wpn rfl ?_; simp only [wp, wo_nil, wo_p, onO_s, pv_t, pv_int, put_some, pevP, getP, setP, reduceCtorEq])
      refine PRun.loopG (fun n t π => π = ⟨0, []⟩ ∧ ∃ (i : Nat) (x0 x1 x2 x3 x4 x5 x7 x8 x9 x10 x11 x12 x13 x14 x15 x16 x17 x18 x19 x20 x21 x22 x23 x24 x28 x29 x30 x31 x32 x33 x34 x35 : PV), t = (x0 :: x1 :: x2 :: x3 :: x4 :: x5 :: .lit (.slice none 0 0) :: x7 :: x8 :: x9 :: x10 :: x11 :: x12 :: x13 :: x14 :: x15 :: x16 :: x17 :: x18 :: x19 :: x20 :: x21 :: x22 :: x23 :: x24 :: .sl (ls.map szU) ls.length :: .lit (.int .i64 (ls.length : Nat)) :: .lit (.int .i64 (i : Nat)) :: x28 :: x29 :: x30 :: x31 :: x32 :: x33 :: x34 :: x35 :: []) ∧ i ≤ ls.length ∧ n = ls.length - i) ?_ ls.length _ _ ⟨rfl, 0, _, _, _, _, _, _, _, _, _, _, _, _, _, _, _, _, _, _, _, _, _, _, _, _, _, _, _, _, _, _, _, _, rfl, by omega, rfl⟩
      rintro n t π ⟨rfl, i, x0, x1, x2, x3, x4, x5, x7, x8, x9, x10, x11, x12, x13, x14, x15, x16, x17, x18, x19, x20, x21, x22, x23, x24, x28, x29, x30, x31, x32, x33, x34, x35, rfl, hi, rfl⟩
      repeat (refine PRun.wpn rfl ?_; simp only [wp, wo_nil, wo_p, onO_s, pv_t, put_some, bi_lss, pevP, getP, setP, Option.map_some, ↓reduceIte, ltB_iff])
      split
      · rename_i hlt
        have h1 : i < ls.length := by omega
        have h2 := flat_le ls (i + 1)
        rw [flat_next h1, List.length_append] at h2
        have h3 : ls[i].length = 0 := by omega
        repeat (refine PRun.wpn rfl ?_; simp only [wp, wo_nil, wo_p, wo_r, wo_append, onO_s, onE_s, ble_self, pv_t, pv_int, put_some, bi_add, pevP, pevR, pevE, getP, setP, lenP, srcP, appendP, cutP, List.take_zero, Option.map_some, Option.bind_some, Nat.zero_le, Nat.mul_one, Int.natCast_nonneg, Int.toNat_natCast, and_self, ↓reduceIte, Nat.add_zero, Nat.le_refl, hlt, mapS_drop h1, h3])
        rw [wrap64 (by omega) (by omega)]
        exact .refl ⟨ls.length - (i + 1), by omega, rfl, i + 1, _, _, _, _, _, _, _, _, _, _, _, _, _, _, _, _, _, _, _, _, _, _, _, _, _, _, _, _, _, _, _, _, rfl, by omega, rfl⟩
      · repeat (refine PRun.wpn rfl ?_; simp only [wp, wo_nil, wo_p, onO_s, pv_t, put_some, pevP, getP, setP, or_true, true_and, reduceCtorEq])
        have : ls.flatten = [] := List.length_eq_zero_iff.1 h0
        rw [this]
        exact .refl ⟨_, rfl, .nil_sz⟩
    · refine POps.wp ?_
      simp only [wo_nil, wo_p, onO_s, pv_t, put_some, pevP, getP, setP, PW.push, Nat.zero_add]
      repeat (refine PRun.wpn rfl ?_; simp only [wp, wo_nil, wo_p, onO_s, pv_t, pv_int, put_some, pevP, getP, setP, reduceCtorEq])
      refine PRun.loopG (fun n t π => ∃ (i : Nat) (x0 x1 x2 x3 x4 x5 x7 x8 x9 x10 x11 x12 x13 x14 x15 x16 x17 x18 x19 x20 x21 x22 x23 x24 x28 x29 x30 x31 x32 x33 x34 x35 : PV), t = (x0 :: x1 :: x2 :: x3 :: x4 :: x5 :: .loc 0 0 (ls.take i).flatten.length ls.flatten.length :: x7 :: x8 :: x9 :: x10 :: x11 :: x12 :: x13 :: x14 :: x15 :: x16 :: x17 :: x18 :: x19 :: x20 :: x21 :: x22 :: x23 :: x24 :: .sl (ls.map szU) ls.length :: .lit (.int .i64 (ls.length : Nat)) :: .lit (.int .i64 (i : Nat)) :: x28 :: x29 :: x30 :: x31 :: x32 :: x33 :: x34 :: x35 :: []) ∧ i ≤ ls.length ∧ n = ls.length - i ∧ π = ⟨1, [(0, .cells (L16 (ls.take i).flatten ++ List.replicate (ls.flatten.length - (ls.take i).flatten.length) (.lit (.int .u16 0))) 54 1 false false [])]⟩) ?_ ls.length _ _ ⟨0, _, _, _, _, _, _, _, _, _, _, _, _, _, _, _, _, _, _, _, _, _, _, _, _, _, _, _, _, _, _, _, _, rfl, by omega, rfl, rfl⟩
      rintro n t π ⟨i, x0, x1, x2, x3, x4, x5, x7, x8, x9, x10, x11, x12, x13, x14, x15, x16, x17, x18, x19, x20, x21, x22, x23, x24, x28, x29, x30, x31, x32, x33, x34, x35, rfl, hi, rfl, rfl⟩
      repeat (refine PRun.wpn rfl ?_; simp only [wp, wo_nil, wo_p, onO_s, pv_t, put_some, bi_lss, pevP, getP, setP, Option.map_some, ↓reduceIte, ltB_iff])
      split
      · rename_i hlt
        have h1 : i < ls.length := by omega
        have h2 := flat_le ls (i + 1)
        rw [flat_next h1, List.length_append] at h2
        by_cases h3 : ls[i].length = 0
        · have h4 : ls[i] = [] := List.length_eq_zero_iff.1 h3
          have h5 : (ls.take i).flatten = (ls.take (i + 1)).flatten := by rw [flat_next h1, h4, List.append_nil]
          have h6 := flat_le ls i
          repeat (refine PRun.wpn rfl ?_; simp only [wp, wo_nil, wo_p, wo_r, wo_append, onO_s, onE_s, ble_succ, pv_t, pv_int, put_some, bi_add, pevP, pevR, pevE, getP, setP, lenP, srcP, appendP, cutP, List.take_zero, Option.map_some, Option.bind_some, Nat.zero_le, Nat.mul_one, Int.natCast_nonneg, Int.toNat_natCast, and_self, ↓reduceIte, Nat.add_zero, Nat.le_refl, hlt, mapS_drop h1, h3, h6])
          rw [wrap64 (by omega) (by omega)]
          exact .refl ⟨ls.length - (i + 1), by omega, i + 1, _, _, _, _, _, _, _, _, _, _, _, _, _, _, _, _, _, _, _, _, _, _, _, _, _, _, _, _, _, _, _, _, by rw [h5]; rfl, by omega, rfl, by rw [h5]⟩
        · repeat (refine PRun.wpn rfl ?_; simp only [wp, wo_nil, wo_p, wo_r, wo_append, onO_s, onE_s, ble_succ, pv_t, pv_int, put_some, bi_add, pevP, pevR, pevE, getP, setP, lenP, srcP, appendP, look, cutP, Option.map_some, Option.bind_some, Nat.mul_one, Int.natCast_nonneg, Int.toNat_natCast, and_self, ↓reduceIte, Bool.false_eq_true, Nat.zero_add, PW.wr, setO, killO, Bool.false_or, Bool.not_true, Nat.le_refl, hlt, mapS_drop h1, h2, h3, L16_len, L16_take, allPlain_L16, fillL_step (ls.take i).flatten ls[i] _ (show ls[i].length ≤ ls.flatten.length - (ls.take i).flatten.length by omega) _])
          rw [wrap64 (by omega) (by omega)]
          exact .refl ⟨ls.length - (i + 1), by omega, i + 1, _, _, _, _, _, _, _, _, _, _, _, _, _, _, _, _, _, _, _, _, _, _, _, _, _, _, _, _, _, _, _, _, by rw [flat_next h1, List.length_append]; rfl, by omega, rfl, by rw [flat_next h1, List.length_append, Nat.sub_sub]⟩
      · have hil : i = ls.length := by omega
        subst hil
        repeat (refine PRun.wpn rfl ?_; simp only [wp, wo_nil, wo_p, onO_s, pv_t, put_some, pevP, getP, setP, or_true, true_and, reduceCtorEq])
        rw [List.take_length, Nat.sub_self]
        refine Gh.freeze 0 rfl (by simp only [List.replicate, List.append_nil]; exact pureL_L16 _) rfl ?_
        simp only [getP, List.drop_zero, ↓reduceIte, frzL, frzP, List.append_nil, Nat.le_refl, List.replicate]
        exact ⟨_, rfl, .sl_sz⟩
end
end Go.Proofs.YtkldgoapompinaaDoor.Ai

namespace Go.Proofs.YtkldgoapompinaaDoor.Ai
open Go
set_option linter.unusedVariables false
set_option maxRecDepth 10000
structure Wd where
  stem : List Int
  loop : List Int
def wrdP (w : Wd) : PV := .agg [szU w.stem, szU w.loop]
theorem perFrom_le (l : List Int) : ∀ k n, n + k ≤ l.length → perFrom l n k ≤ l.length
  | 0, n, h => Nat.le_refl _
  | k + 1, n, h => by
    simp only [perFrom]
    split
    · omega
    · exact perFrom_le l k (n + 1) (by omega)
theorem per_le (l : List Int) : per l ≤ l.length := by
  unfold per
  by_cases h : l.length = 0
  · rw [h]; simp [perFrom, h]
  · exact perFrom_le l _ _ (by omega)
theorem perFrom_pos (l : List Int) (hl : 0 < l.length) : ∀ k n, 0 < n → 0 < perFrom l n k
  | 0, n, h => hl
  | k + 1, n, h => by
    simp only [perFrom]
    split
    · exact h
    · exact perFrom_pos l hl k (n + 1) (by omega)
theorem per_pos (l : List Int) (hl : 0 < l.length) : 0 < per l := perFrom_pos l hl _ _ (by omega)
/-- the loop turned back into the stem -/
def rollF (stem loop : List Int) (p : Nat) : Nat → Nat → Nat × Nat
  | 0, t => (0, t)
  | s + 1, t => if stem[s]? = loop[(t + p - 1) % p]? then rollF stem loop p s ((t + p - 1) % p) else (s + 1, t)
def normal (w : Wd) : Wd :=
  if w.loop.length = 0 then ⟨[], []⟩ else
  let p := per w.loop
  let r := rollF w.stem w.loop p w.stem.length 0
  ⟨w.stem.take r.1, (w.loop.take p).drop r.2 ++ w.loop.take r.2⟩
section
variable {C : Ctx} (hm : C.P.follows .mixedOrders = true) (hC : TabOK C.P C.ng C.ts Tryd.tab)
include hm hC
theorem normal_ok (w : Wd) (h1 : w.stem.length < 2 ^ 38) (h2 : w.loop.length < 2 ^ 38) : PFun C 16 [wrdP w] (wrdP (normal w)) := by
  obtain ⟨stem, loop⟩ := w
  simp only at h1 h2
  refine PFun.body hm hC (show Tryd.tab.get 16 = some Tryd.c16 from rfl) rfl ?_
  simp only [Tryd.c16, startP, wrdP, szU, List.length_cons, List.length_nil, Nat.reduceAdd, Nat.reduceSub, List.replicate, List.cons_append, List.nil_append]
  repeat (refine PRun.wpn rfl ?_; simp only [wp, wo_nil, wo_p, wo_r, wo_n, wo_st, onO_s, onN_s, onE_s, ble0, ble_self, ble_succ, pv_t, pv_int, ov_nil, ov_cons, ov_nilS, put_some, put_none, bi_eql, pevP, pevR, pevN, pevE, getP, setP, fillP, boxP, spliceP, overP, plainP, isCell, look, PW.cs?, PW.push, PW.none, nthP, cutP, List.length_cons, List.length_nil, Option.map_some, Option.bind_some, Bool.and_true, ↓reduceIte, reduceCtorEq, ltL, lt, Nat.reduceAdd, Bool.false_eq_true, Nat.zero_add, allPlain, PW.wr, setO, killO, Bool.or_self, Bool.not_true, resPs, resP, tupP, eqB_iff, List.length_cons, List.length_nil])
  split
  · rename_i h0
    repeat (refine PRun.wpn rfl ?_; simp only [wp, or_true, true_and, reduceCtorEq])
    have e : normal ⟨stem, loop⟩ = ⟨[], []⟩ := by simp only [normal]; rw [if_pos (by omega)]
    rw [e]
    exact .refl ⟨_, rfl, .agg (.cons .nil_sz (.cons .nil_sz .nil))⟩
  rename_i h0
  repeat (refine PRun.wpn rfl ?_; simp only [wp])
  have p0 := per_pos loop (by omega)
  have p1 := per_le loop
  refine PDraw.stage (Nat.zero_le _) rfl ?_
  simp only [onX_s, onXI_s, rdX_e, ltN, ltD_s, onD_s, wx_nil, wx_cons, wx_p, wx_r, wd_cons, wd_e, pv_t, put_some, pevP, pevR, getP, setP, nthO, look, PW.cs?, nthP, baseP, ROp.base, List.length_cons, List.length_nil, Option.bind_some, Bool.and_true, ↓reduceIte, reduceCtorEq, Nat.reduceAdd, Option.isSome_some, Nat.add_zero, Nat.zero_add, List.length_cons, List.length_nil]
  refine PDE.pure (period_ok hm hC loop (by omega)) rfl ?_
  refine PDraw.last (Nat.zero_le _) rfl ?_
  simp only [onXI_s, rdX_e, ltN, ltD_s, wx_cons, wx_r, pv_t, put_some, pevR, getP, setP, nthO, boundP, baseP, ROp.base, List.length_cons, List.length_nil, List.drop_zero, Option.bind_some, Option.isNone_none, true_or, Nat.mul_one, Nat.sub_zero, Int.natCast_nonneg, Int.toNat_natCast, true_and, Bool.and_true, ↓reduceIte, Nat.reduceAdd, Nat.zero_add, List.length_cons, List.length_nil]
  have p2 : ((per loop : Nat) : Int) ≤ (loop.length : Nat) := by omega
  have p3 : ((per loop : Nat) : Int) ≠ 0 := by omega
  try dsimp only
  simp only [onX_s, onXI_s, wx_nil, wx_cons, wx_p, pv_t, put_some, pevP, getP, setP, nthO, Option.bind_some, ↓reduceIte, p2]
  repeat (refine PRun.wpn rfl ?_; simp only [wp, wo_nil, wo_p, onO_s, pv_t, pv_int, put_some, pevP, getP, setP, reduceCtorEq])
  refine PRun.cut (fun x t π => x = .exit 0 ∧ ∃ (s u : Nat), t = (.junk :: .ptr 0 0 :: .ptr 1 0 :: .sz (L16 stem) stem.length :: .sz (L16 loop) (per loop) :: .lit (.int .i64 (s : Nat)) :: .lit (.int .i64 (u : Nat)) :: .junk :: .junk :: .junk :: .junk :: .junk :: .junk :: .junk :: .junk :: .junk :: .junk :: .junk :: .junk :: .junk :: .junk :: .junk :: .junk :: .junk :: .junk :: .junk :: .junk :: .junk :: .junk :: .junk :: .junk :: .junk :: .junk :: .junk :: .junk :: .junk :: .junk :: .junk :: .junk :: .junk :: .junk :: .junk :: .junk :: .junk :: .junk :: .junk :: .junk :: .junk :: .junk :: .junk :: .junk :: .junk :: .junk :: .junk :: .junk :: .junk :: .junk :: .junk :: .junk :: .junk :: .junk :: .junk :: .junk :: .junk :: .junk :: .junk :: []) ∧ s ≤ stem.length ∧ u < per loop ∧ rollF stem loop (per loop) stem.length 0 = (s, u) ∧ π = ⟨2, [(1, .cells [.lit (.slice none 0 0), .lit (.slice none 0 0)] 25 2 true false []), (0, .cells [.sz (L16 stem) stem.length, .sz (L16 loop) loop.length] 25 2 true false [])]⟩) ?_ ?_
  · refine PRun.gh (Gh.mask (false :: true :: true :: true :: true :: true :: true :: false :: false :: false :: false :: false :: false :: false :: false :: false :: false :: false :: false :: false :: false :: false :: false :: false :: false :: false :: false :: false :: false :: false :: false :: false :: false :: false :: false :: false :: false :: false :: false :: false :: false :: false :: false :: false :: false :: false :: false :: false :: false :: false :: false :: false :: false :: false :: false :: false :: false :: false :: false :: false :: false :: false :: false :: false :: false :: false :: []) ?_)
    refine PRun.loopG (fun n t π => ∃ (s u : Nat), t = (.junk :: .ptr 0 0 :: .ptr 1 0 :: .sz (L16 stem) stem.length :: .sz (L16 loop) (per loop) :: .lit (.int .i64 (s : Nat)) :: .lit (.int .i64 (u : Nat)) :: .junk :: .junk :: .junk :: .junk :: .junk :: .junk :: .junk :: .junk :: .junk :: .junk :: .junk :: .junk :: .junk :: .junk :: .junk :: .junk :: .junk :: .junk :: .junk :: .junk :: .junk :: .junk :: .junk :: .junk :: .junk :: .junk :: .junk :: .junk :: .junk :: .junk :: .junk :: .junk :: .junk :: .junk :: .junk :: .junk :: .junk :: .junk :: .junk :: .junk :: .junk :: .junk :: .junk :: .junk :: .junk :: .junk :: .junk :: .junk :: .junk :: .junk :: .junk :: .junk :: .junk :: .junk :: .junk :: .junk :: .junk :: .junk :: .junk :: []) ∧ s ≤ stem.length ∧ u < per loop ∧ n = s ∧ rollF stem loop (per loop) s u = rollF stem loop (per loop) stem.length 0 ∧ π = ⟨2, [(1, .cells [.lit (.slice none 0 0), .lit (.slice none 0 0)] 25 2 true false []), (0, .cells [.sz (L16 stem) stem.length, .sz (L16 loop) loop.length] 25 2 true false [])]⟩) ?_ stem.length _ _ ⟨stem.length, 0, rfl, by omega, by omega, rfl, rfl, rfl⟩
    rintro n t π ⟨s, u, rfl, hs, hu, hn, hr, rfl⟩
    repeat (refine PRun.wpn rfl ?_; simp only [wp])
    refine PDraw.last (Nat.zero_le _) rfl ?_
    cases s with
    | zero =>
      have e0 : ¬ (0 : Int) < 0 := by omega
      try dsimp only
      simp only [wanted_g, b_ft, onX_s, onXG_f, onXI_s, wx_nil, wx_cons, wx_p, wx_g, pv_t, pv_int, pv_bool, put_some, bi_gtr, pevP, getP, setP, nthO, Option.map_some, nc0, ltB_f e0]
      repeat (refine PRun.wpn rfl ?_; simp only [wp, pv_t, getP, true_and, ↓reduceIte, Bool.false_eq_true])
      refine Gh.mask (false :: true :: true :: true :: true :: true :: true :: false :: false :: false :: false :: false :: false :: false :: false :: false :: false :: false :: false :: false :: false :: false :: false :: false :: false :: false :: false :: false :: false :: false :: false :: false :: false :: false :: false :: false :: false :: false :: false :: false :: false :: false :: false :: false :: false :: false :: false :: false :: false :: false :: false :: false :: false :: false :: false :: false :: false :: false :: false :: false :: false :: false :: false :: false :: false :: false :: []) ?_
      exact ⟨0, u, rfl, by omega, hu, hr.symm, rfl⟩
    | succ s =>
      have e0 : (0 : Int) < ((s + 1 : Nat) : Int) := by omega
      have e1 : IntKind.i64.wrap (((s + 1 : Nat) : Int) - 1) = (s : Nat) := by rw [wrap64 (by omega) (by omega)]; omega
      have e2 : (s : Int) < (stem.length : Nat) := by omega
      have e3 : IntKind.i64.wrap ((u : Nat) + (per loop : Nat)) = ((u + per loop : Nat) : Int) := by rw [wrap64 (by omega) (by omega)]; omega
      have e4 : IntKind.i64.wrap (((u + per loop : Nat) : Int) - 1) = ((u + per loop - 1 : Nat) : Int) := by rw [wrap64 (by omega) (by omega)]; omega
      have e5 : (u + per loop - 1) % per loop < per loop := Nat.mod_lt _ p0
      have e6 : (((u + per loop - 1) % per loop : Nat) : Int) < (per loop : Nat) := by omega
      have e7 : s < stem.length := by omega
      have e8 : (u + per loop - 1) % per loop < loop.length := by omega
      have e9 : stem[s]? = loop[(u + per loop - 1) % per loop]? ↔ stem[s] = loop[(u + per loop - 1) % per loop] := by rw [List.getElem?_eq_getElem e7, List.getElem?_eq_getElem e8]; simp
      simp only [rollF] at hr
      try dsimp only
      simp only [beq_self_eq_true, wanted_g, onX_s, onXG_t, onXI_s, rdX_e, ltN, ltD_s, wx_nil, wx_cons, wx_p, wx_r, wx_g, pv_t, pv_int, put_some, bi_add, bi_sub, bi_eql, bi_gtr, pevP, pevR, getP, setP, nthO, baseP, ROp.base, List.length_cons, List.length_nil, Option.map_some, Nat.mul_one, Int.natCast_nonneg, Int.toNat_natCast, and_self, Bool.and_true, ↓reduceIte, Nat.reduceAdd, Nat.zero_add, List.length_cons, List.length_nil, ltB_t e0, e1, e2, L16_drop e7, e3, e4, bi_rem p3, tmod_nat, e6, L16_drop e8]
      by_cases he : stem[s] = loop[(u + per loop - 1) % per loop]
      · repeat (refine PRun.wpn rfl ?_; simp only [wp, wo_nil, wo_p, onO_s, pv_t, pv_int, put_some, bi_add, bi_sub, pevP, getP, setP, Option.map_some, ↓reduceIte, eqB_t he, e1, e3, e4, bi_rem p3, tmod_nat])
        rw [if_pos (e9.2 he)] at hr
        refine Gh.mask (false :: true :: true :: true :: true :: true :: true :: false :: false :: false :: false :: false :: false :: false :: false :: false :: false :: false :: false :: false :: false :: false :: false :: false :: false :: false :: false :: false :: false :: false :: false :: false :: false :: false :: false :: false :: false :: false :: false :: false :: false :: false :: false :: false :: false :: false :: false :: false :: false :: false :: false :: false :: false :: false :: false :: false :: false :: false :: false :: false :: false :: false :: false :: false :: false :: false :: []) ?_
        exact ⟨s, by omega, s, (u + per loop - 1) % per loop, rfl, by omega, e5, rfl, hr, rfl⟩
      · repeat (refine PRun.wpn rfl ?_; simp only [wp, pv_t, getP, true_and, ↓reduceIte, Bool.false_eq_true, eqB_f he])
        rw [if_neg (fun h => he (e9.1 h))] at hr
        refine Gh.mask (false :: true :: true :: true :: true :: true :: true :: false :: false :: false :: false :: false :: false :: false :: false :: false :: false :: false :: false :: false :: false :: false :: false :: false :: false :: false :: false :: false :: false :: false :: false :: false :: false :: false :: false :: false :: false :: false :: false :: false :: false :: false :: false :: false :: false :: false :: false :: false :: false :: false :: false :: false :: false :: false :: false :: false :: false :: false :: false :: false :: false :: false :: false :: false :: false :: false :: []) ?_
        exact ⟨s + 1, u, rfl, hs, hu, hr.symm, rfl⟩
  · rintro x t π ⟨rfl, s, u, rfl, hs, hu, hr, rfl⟩
    have fin : normal ⟨stem, loop⟩ = ⟨stem.take s, (loop.take (per loop)).drop u ++ loop.take u⟩ := by
      simp only [normal]
      rw [if_neg (by omega), hr]
    have f1 : ((s : Nat) : Int) ≤ (stem.length : Nat) := by omega
    have f2 : ((u : Nat) : Int) ≤ (per loop : Nat) := by omega
    repeat (refine PRun.wpn rfl ?_; simp only [wp])
    refine PDraw.stage (Nat.zero_le _) rfl ?_
    try dsimp only
    simp only [onX_s, onXI_s, rdX_e, ltN, ltD_s, onD_s, wx_nil, wx_cons, wx_p, wx_r, wd_cons, wd_e, pv_t, put_some, pevP, pevR, getP, setP, nthO, boundP, baseP, ROp.base, List.length_cons, List.length_nil, List.drop_zero, Option.bind_some, Option.isNone_none, true_or, or_true, Nat.mul_one, Nat.sub_zero, Int.natCast_nonneg, Int.toNat_natCast, and_self, true_and, Bool.and_true, ↓reduceIte, Nat.reduceAdd, Nat.zero_add, List.length_cons, List.length_nil, f1, f2, hu]
    refine PDE.pure (r := szU (stem.take s)) ((clone_ok hm hC (stem.take s) (by simp; omega)).args (.cons (wk_cut stem 0 s (by omega)) .nil)) rfl ?_
    refine PDraw.stage (Nat.zero_le _) rfl ?_
    try dsimp only
    simp only [beq_self_eq_true, onXN_s, onXI_s, onD_s, wx_nil, wx_cons, wx_n, wd_cons, wd_e, pv_t, ov_nil, ov_cons, ov_nilS, put_some, pevN, getP, setP, nthO, fillP, spliceP, overP, plainP, PW.push, Option.map_some, Option.bind_some, Bool.and_true, ↓reduceIte, ltL, lt, Nat.reduceAdd]
    refine PDE.gh (Gh.freeze 2 rfl rfl rfl ?_)
    simp only [List.drop_zero, ↓reduceIte, reduceCtorEq, Nat.reduceEqDiff, frzL, frzP, frzO, frzH, Nat.le_refl]
    have g1 : (loop.drop u).take (per loop - u) = (loop.take (per loop)).drop u := by rw [List.drop_take]
    refine PDE.pure (r := szU ((loop.take (per loop)).drop u ++ loop.take u)) (((concat_ok hm hC [(loop.take (per loop)).drop u, loop.take u] (by simp) (by simp; omega)).wk ?_).args (.cons ?_ .nil)) rfl ?_
    · simp only [List.flatten_cons, List.flatten_nil, List.append_nil]; exact .refl _
    · refine Wk.sl (ext := []) (.cons ?_ (.cons (wk_cut loop 0 u (by omega)) .nil))
      rw [← g1]; exact wk_cut loop u (per loop - u) (by omega)
    refine PDraw.stage (Nat.zero_le _) rfl ?_
    try dsimp only
    simp only [beq_self_eq_true, onXI_s, onD_s, wx_cons, wx_p, wd_cons, wd_e, pv_t, ov_nil, ov_cons, ov_nilS, put_some, pevP, getP, setP, nthO, fillP, spliceP, overP, plainP, isCell, Option.map_some, Option.bind_some, Bool.and_true, ↓reduceIte, ltL, lt]
    refine PDE.any (Nat.zero_le _) (PE.det rfl ?_)
    refine PDraw.last (Nat.zero_le _) rfl ?_
    try dsimp only
    simp only [wx_nil, put_some, put_none, setP, ↓reduceIte, setO, killO]
    repeat (refine PRun.wpn rfl ?_; simp only [wp, or_true, true_and, reduceCtorEq])
    rw [fin]
    exact .refl ⟨_, rfl, .refl _⟩
end
end Go.Proofs.YtkldgoapompinaaDoor.Ai

namespace Go.Proofs.YtkldgoapompinaaDoor.Ai
open Go
set_option linter.unusedVariables false
set_option maxRecDepth 10000
def places (w : Wd) : Nat := if w.loop.length = 0 then 0 else w.stem.length + w.loop.length
def atW (w : Wd) (i : Int) : Int := if i < 0 ∨ w.loop.length = 0 then 0 else if i.toNat < w.stem.length then w.stem.getD i.toNat 0 else w.loop.getD ((i.toNat - w.stem.length) % w.loop.length) 0
def pickF (c : Int) (n : Nat) : Nat := (if c < 0 then (-(c + 1)).toNat else c.toNat) % n
section
variable {C : Ctx} (hm : C.P.follows .mixedOrders = true) (hC : TabOK C.P C.ng C.ts Tryd.tab)
include hm hC
theorem places_ok (w : Wd) (h1 : w.stem.length < 2 ^ 40) (h2 : w.loop.length < 2 ^ 40) : PFun C 28 [wrdP w] (.lit (.int .i64 (places w : Nat))) := by
  obtain ⟨stem, loop⟩ := w
  simp only at h1 h2
  refine PFun.body hm hC (show Tryd.tab.get 28 = some Tryd.c28 from rfl) rfl ?_
  simp only [Tryd.c28, startP, List.length_cons, List.length_nil, Nat.reduceAdd, Nat.reduceSub, List.replicate, List.cons_append, List.nil_append, wrdP, szU]
  repeat (refine PRun.wpn rfl ?_; simp only [wp, wo_nil, wo_p, wo_r, wo_n, onO_s, onN_s, ble_self, pv_t, pv_int, put_some, bi_eql, pevP, pevR, pevN, getP, setP, boxP, look, PW.cs?, PW.push, PW.none, nthP, Option.map_some, Option.bind_some, ↓reduceIte, Nat.zero_add, resPs, resP, tupP, eqB_iff])
  split
  · rename_i h0
    repeat (refine PRun.wpn rfl ?_; simp only [wp, or_true, true_and, reduceCtorEq])
    have : places ⟨stem, loop⟩ = 0 := by simp only [places]; rw [if_pos (by omega)]
    rw [this]
    exact .refl ⟨_, rfl, .refl _⟩
  · rename_i h0
    repeat (refine PRun.wpn rfl ?_; simp only [wp, wo_nil, wo_p, wo_r, onO_s, pv_t, put_some, bi_add, pevP, pevR, getP, setP, look, PW.cs?, nthP, Option.map_some, Option.bind_some, or_true, true_and, ↓reduceIte, reduceCtorEq, Nat.add_zero, Nat.zero_add])
    have : places ⟨stem, loop⟩ = stem.length + loop.length := by simp only [places]; rw [if_neg (by omega)]
    rw [this, wrap64 (by omega) (by omega)]
    exact .refl ⟨_, rfl, .refl _⟩
theorem sameWord_ok (a b : Wd) (h1 : a.stem.length < 2 ^ 40) (h2 : a.loop.length < 2 ^ 40) : PFun C 20 [wrdP a, wrdP b] (.lit (.bool (decide (a.stem = b.stem ∧ a.loop = b.loop)))) := by
  obtain ⟨s, l⟩ := a
  obtain ⟨s', l'⟩ := b
  simp only at h1 h2
  refine PFun.body hm hC (show Tryd.tab.get 20 = some Tryd.c20 from rfl) rfl ?_
  simp only [Tryd.c20, startP, List.length_cons, List.length_nil, Nat.reduceAdd, Nat.reduceSub, List.replicate, List.cons_append, List.nil_append, wrdP, szU]
  repeat (refine PRun.wpn rfl ?_; simp only [wp, wo_nil, wo_p, wo_r, wo_n, wo_call, onO_s, onN_s, ble_self, ble_succ, pv_t, pv_bool, put_some, pevP, pevR, pevN, getP, setP, evsP, boxP, look, PW.cs?, PW.push, PW.none, nthP, Option.map_some, Option.bind_some, Nat.zero_le, true_and, ↓reduceIte, reduceCtorEq, Nat.reduceAdd, Nat.add_zero, Nat.zero_add, resPs, resP, tupP])
  refine .refl (PFun.to (sameLetters_ok hm hC s s' (by omega)) rfl (POps.wp ?_))
  simp only [wo_p, wo_g, onO_s, wanted_g, pv_t, put_some, pevP, getP, setP]
  by_cases h : s = s'
  · simp only [decide_eq_true h, wo_p, wo_r, wo_call, wo_g, beq_self_eq_true, onO_s, onG_t, wanted_g, pv_t, put_some, pevP, pevR, getP, setP, evsP, look, PW.cs?, nthP, Option.bind_some, Nat.zero_le, true_and, ↓reduceIte, reduceCtorEq, Nat.zero_add]
    refine .refl (PFun.to (sameLetters_ok hm hC l l' (by omega)) rfl (POps.wp ?_))
    simp only [wo_nil, wo_p, onO_s, pv_t, put_some, pevP, getP, setP]
    repeat (refine PRun.wpn rfl ?_; simp only [wp, or_true, true_and, reduceCtorEq])
    refine .refl ⟨_, rfl, ?_⟩
    simp only [h, true_and]
    exact .refl _
  · simp only [decide_eq_false h, wo_nil, wo_p, wo_g, onO_s, onG_f, wanted_g, b_ft, pv_t, pv_bool, put_some, pevP, getP, setP]
    repeat (refine PRun.wpn rfl ?_; simp only [wp, or_true, true_and, reduceCtorEq])
    refine .refl ⟨_, rfl, ?_⟩
    rw [decide_eq_false (fun hh : s = s' ∧ l = l' => h hh.1)]
    exact .refl _
theorem at_ok (w : Wd) (i : Int) (h0 : -9223372036854775808 ≤ i) (h0' : i < 9223372036854775808) (h1 : w.stem.length < 2 ^ 40) (h2 : w.loop.length < 2 ^ 40) : PFun C 32 [wrdP w, .lit (.int .i64 i)] (.lit (.int .u16 (atW w i))) := by
  obtain ⟨stem, loop⟩ := w
  simp only at h1 h2
  refine PFun.body hm hC (show Tryd.tab.get 32 = some Tryd.c32 from rfl) rfl ?_
  simp only [Tryd.c32, startP, List.length_cons, List.length_nil, Nat.reduceAdd, Nat.reduceSub, List.replicate, List.cons_append, List.nil_append, wrdP, szU]
  by_cases hi : i < 0
  · repeat (refine PRun.wpn rfl ?_; simp only [wp, wo_nil, wo_p, wo_n, wo_g, onO_s, onN_s, onG_f, wanted_g, b_tf, ble_self, pv_t, pv_int, pv_bool, put_some, bi_lss, pevP, pevN, getP, setP, boxP, PW.push, PW.none, Option.map_some, or_true, true_and, ↓reduceIte, reduceCtorEq, Nat.zero_add, resPs, resP, tupP, ltB_t hi])
    have : atW ⟨stem, loop⟩ i = 0 := by simp only [atW]; rw [if_pos (.inl hi)]
    rw [this]
    exact .refl ⟨_, rfl, .refl _⟩
  · obtain ⟨n, rfl⟩ : ∃ n : Nat, i = n := ⟨i.toNat, by omega⟩
    by_cases hl : ((loop.length : Nat) : Int) = 0
    · repeat (refine PRun.wpn rfl ?_; simp only [wp, wo_nil, wo_p, wo_r, wo_n, wo_g, beq_self_eq_true, onO_s, onN_s, onG_t, wanted_g, ble_self, pv_t, pv_int, put_some, bi_eql, bi_lss, pevP, pevR, pevN, getP, setP, boxP, look, PW.cs?, PW.push, PW.none, nthP, Option.map_some, Option.bind_some, or_true, true_and, ↓reduceIte, reduceCtorEq, Nat.zero_add, resPs, resP, tupP, ltB_f hi, eqB_t hl])
      have : atW ⟨stem, loop⟩ n = 0 := by simp only [atW]; rw [if_pos (.inr (by omega))]
      rw [this]
      exact .refl ⟨_, rfl, .refl _⟩
    · have e0 : atW ⟨stem, loop⟩ n = if n < stem.length then stem.getD n 0 else loop.getD ((n - stem.length) % loop.length) 0 := by
        simp only [atW]; rw [if_neg (by omega), Int.toNat_natCast]
      rw [e0]
      repeat (refine PRun.wpn rfl ?_; simp only [wp, wo_nil, wo_p, wo_r, wo_n, wo_g, beq_self_eq_true, onO_s, onN_s, onG_t, wanted_g, ble_self, pv_t, pv_int, put_some, bi_eql, bi_lss, pevP, pevR, pevN, getP, setP, boxP, look, PW.cs?, PW.push, PW.none, nthP, Option.map_some, Option.bind_some, Nat.mul_one, Int.natCast_nonneg, Int.toNat_natCast, true_and, ↓reduceIte, reduceCtorEq, Bool.false_eq_true, Nat.add_zero, Nat.zero_add, resPs, resP, tupP, ltB_iff, ltB_f hi, eqB_f hl])
      split
      · rename_i hn
        have hn' : n < stem.length := by omega
        repeat (refine PRun.wpn rfl ?_; simp only [wp, wo_nil, wo_p, wo_r, wo_n, wo_call, wo_st, wo_append, wo_appendZ, wo_g, beq_self_eq_true, onO_s, onN_s, onE_s, onG_t, onG_f, wanted_g, b_tt, b_ff, b_tf, b_ft, onX_s, onXN_s, onXG_t, onXG_f, onXI_s, rdX_e, ltN, ble0, ble_self, ble_succ, and_tt, ltD_s, onD_s, onDG_t, onDG_f, wx_nil, wx_cons, wx_p, wx_r, wx_n, wx_g, wd_cons, wd_e, wd_g, pv_t, pv_int, pv_bool, pv_str, pv_nilS, pv_nilP, pv_nilI, pv_nilF, pv_nilM, ov_nil, ov_cons, ov_int, ov_bool, ov_str, ov_nilS, ov_nilP, ov_nilI, ov_nilF, ov_nilM, ov_agg, put_some, put_none, bi_add, bi_sub, bi_mul, bi_eql, bi_neq, bi_lss, bi_leq, bi_gtr, bi_geq, pevP, pevR, pevN, pevE, getP, setP, nthO, evsP, eqP, lenP, srcP, appendP, fillP, boxP, pcells, spliceP, overP, plainP, isCell, look, PW.cs?, PW.exactAt, PW.push, PW.none, nthP, cutP, partP, boundP, baseP, ROp.base, List.length_cons, List.length_nil, List.drop_zero, List.drop_succ_cons, List.take_zero, List.take_succ_cons, Option.map_some, Option.map_none, Option.bind_some, Option.bind_none, Nat.zero_le, Option.isNone_none, Option.isNone_some, true_or, or_true, Nat.mul_one, Nat.sub_zero, Int.natCast_nonneg, Int.toNat_natCast, nc0, nc1, nc2, tn0, tn1, tn2, Int.le_refl, Int.lt_irrefl, Nat.lt_irrefl, Int.sub_self, Int.sub_zero, and_self, flat_one, true_and, and_true, Bool.and_true, Bool.true_and, Bool.false_and, Bool.and_false, if_true, if_false, ↓reduceIte, reduceCtorEq, ltL, lt, ltFn, Nat.reduceAdd, Nat.reduceMul, Nat.reduceLeDiff, Nat.reduceLT, Nat.reduceEqDiff, Nat.reduceSub, Option.isSome_some, Option.isSome_none, Bool.false_eq_true, Nat.add_zero, Nat.zero_add, allPlain, PW.wr, setO, killO, Bool.or_self, Bool.or_false, Bool.false_or, Bool.not_true, Bool.not_false, Bool.true_bne, Bool.false_bne, Bool.bne_false, Bool.bne_true, resPs, resP, tupP, ltB_iff, leB_iff, eqB_iff, neB_iff, decide_eq_true_eq, frzL, frzP, frzO, frzE, frzH, noAlP, pureL, pureP, renL, renP, renO, renE, renH, renA, lkN, maskP, List.nil_append, List.append_nil, List.cons_append, List.length_cons, List.length_nil, Nat.not_lt, ge_iff_le, gt_iff_lt, Nat.le_refl, hn])
        simp only [wo_nil, wo_p, wo_r, onO_s, pv_t, put_some, pevP, pevR, getP, setP, L16_drop hn']
        repeat (refine PRun.wpn rfl ?_; simp only [wp, or_true, true_and, reduceCtorEq])
        rw [if_pos hn', show stem.getD n 0 = stem[n] by simp [List.getD, List.getElem?_eq_getElem hn']]
        exact .refl ⟨_, rfl, .refl _⟩
      · rename_i hn
        have hn' : ¬ n < stem.length := by omega
        repeat (refine PRun.wpn rfl ?_; simp only [wp])
        refine PDraw.last (Nat.zero_le _) rfl ?_
        have e1 : IntKind.i64.wrap ((n : Int) - (stem.length : Nat)) = ((n - stem.length : Nat) : Int) := by rw [wrap64 (by omega) (by omega)]; omega
        have e2 : (n - stem.length) % loop.length < loop.length := Nat.mod_lt _ (by omega)
        have e3 : (((n - stem.length) % loop.length : Nat) : Int) < (loop.length : Nat) := by omega
        try dsimp only
        simp only [onX_s, onXI_s, rdX_e, ltN, ltD_s, wx_nil, wx_cons, wx_p, wx_r, pv_t, put_some, bi_sub, pevP, pevR, getP, setP, nthO, look, PW.cs?, nthP, baseP, ROp.base, List.length_cons, List.length_nil, Option.map_some, Option.bind_some, Nat.mul_one, Int.natCast_nonneg, Int.toNat_natCast, and_self, Bool.and_true, ↓reduceIte, Nat.reduceAdd, Option.isSome_some, Nat.add_zero, Nat.zero_add, List.length_cons, List.length_nil, e1, bi_rem hl, tmod_nat, e3, L16_drop e2]
        repeat (refine PRun.wpn rfl ?_; simp only [wp, or_true, true_and, reduceCtorEq])
        rw [if_neg hn', show loop.getD ((n - stem.length) % loop.length) 0 = loop[(n - stem.length) % loop.length] by simp [List.getD, List.getElem?_eq_getElem e2]]
        exact .refl ⟨_, rfl, .refl _⟩
theorem pick_ok (c : Int) (n : Nat) (h0 : -9223372036854775808 ≤ c) (h0' : c < 9223372036854775808) (h1 : 0 < n) : PFun C 45 [.lit (.int .i64 c), .lit (.int .i64 (n : Nat))] (.lit (.int .i64 (pickF c n : Nat))) := by
  have hn : (n : Int) ≠ 0 := by omega
  refine PFun.body hm hC (show Tryd.tab.get 45 = some Tryd.c45 from rfl) rfl ?_
  simp only [Tryd.c45, startP, List.length_cons, List.length_nil, Nat.reduceAdd, Nat.reduceSub, List.replicate, List.cons_append, List.nil_append]
  repeat (refine PRun.wpn rfl ?_; simp only [wp, wo_nil, wo_p, onO_s, pv_t, pv_int, put_some, bi_add, bi_lss, pevP, getP, setP, PW.none, Option.map_some, resPs, resP, tupP, ltB_iff])
  split
  · rename_i hc
    obtain ⟨k, hk⟩ : ∃ k : Nat, -(c + 1) = k := ⟨(-(c + 1)).toNat, by omega⟩
    have e1 : IntKind.i64.wrap (c + 1) = c + 1 := wrap64 (by omega) (by omega)
    have e2 : IntKind.i64.wrap (0 - (c + 1)) = (k : Nat) := by rw [wrap64 (by omega) (by omega)]; omega
    repeat (refine PRun.wpn rfl ?_; simp only [wp, wo_nil, wo_p, onO_s, pv_t, put_some, pevP, getP, setP, Option.map_some, or_true, true_and, reduceCtorEq, e1, e2, bi_rem hn, tmod_nat])
    have : pickF c n = k % n := by simp only [pickF]; rw [if_pos hc, hk, Int.toNat_natCast]
    rw [this]
    exact .refl ⟨_, rfl, .refl _⟩
  · rename_i hc
    obtain ⟨k, rfl⟩ : ∃ k : Nat, c = k := ⟨c.toNat, by omega⟩
    repeat (refine PRun.wpn rfl ?_; simp only [wp, wo_nil, wo_p, onO_s, pv_t, put_some, pevP, getP, setP, Option.map_some, or_true, true_and, reduceCtorEq, bi_rem hn, tmod_nat])
    have : pickF k n = k % n := by simp only [pickF]; rw [if_neg hc, Int.toNat_natCast]
    rw [this]
    exact .refl ⟨_, rfl, .refl _⟩
end
end Go.Proofs.YtkldgoapompinaaDoor.Ai

namespace Go.Proofs.YtkldgoapompinaaDoor.Ai
open Go
set_option linter.unusedVariables false
set_option maxRecDepth 10000
theorem normal_stem (w : Wd) : (normal w).stem.length ≤ w.stem.length := by
  simp only [normal]
  split
  · simp
  · simp; omega
theorem rollF_lt (stem loop : List Int) (p : Nat) (hp : 0 < p) : ∀ s t, t < p → (rollF stem loop p s t).2 < p
  | 0, t, h => h
  | s + 1, t, h => by
    simp only [rollF]
    split
    · exact rollF_lt stem loop p hp s _ (Nat.mod_lt _ hp)
    · exact h
theorem rollF_le (stem loop : List Int) (p : Nat) : ∀ s t, (rollF stem loop p s t).1 ≤ s
  | 0, t => Nat.le_refl _
  | s + 1, t => by
    simp only [rollF]
    split
    · exact Nat.le_succ_of_le (rollF_le stem loop p s _)
    · exact Nat.le_refl _
theorem normal_loop (w : Wd) : (normal w).loop.length ≤ w.loop.length := by
  simp only [normal]
  split
  · simp
  · rename_i h
    have h1 := per_le w.loop
    have h2 := rollF_lt w.stem w.loop (per w.loop) (per_pos _ (by omega)) w.stem.length 0 (per_pos _ (by omega))
    simp only [List.length_append, List.length_drop, List.length_take]
    omega
def same (a b : Wd) : Bool := decide (a.loop.length ≠ 0 ∧ b.loop.length ≠ 0 ∧ (normal a).stem = (normal b).stem ∧ (normal a).loop = (normal b).loop)
def suffix (w : Wd) (n : Int) : Wd :=
  if w.loop.length = 0 then ⟨[], []⟩ else
  if n.toNat < w.stem.length then normal ⟨w.stem.drop n.toNat, w.loop⟩ else
  let k := (n.toNat - w.stem.length) % w.loop.length
  normal ⟨[], w.loop.drop k ++ w.loop.take k⟩
def join (u : List Int) (w : Wd) : Wd := if w.loop.length = 0 then ⟨[], []⟩ else normal ⟨u ++ w.stem, w.loop⟩
def prefixW (w : Wd) (n : Int) : List Int := if w.loop.length = 0 then [] else (List.range (min n.toNat 65536)).map fun i => atW w (i : Nat)
section
variable {C : Ctx} (hm : C.P.follows .mixedOrders = true) (hC : TabOK C.P C.ng C.ts Tryd.tab)
include hm hC
theorem same_ok (a b : Wd) (h1 : a.stem.length < 2 ^ 38) (h2 : a.loop.length < 2 ^ 38) (h3 : b.stem.length < 2 ^ 38) (h4 : b.loop.length < 2 ^ 38) : PFun C 43 [wrdP a, wrdP b] (.lit (.bool (same a b))) := by
  have n1 := normal_ok hm hC a h1 h2
  have n2 := normal_ok hm hC b h3 h4
  have q1 := normal_stem a
  have q2 := normal_loop a
  unfold same
  generalize normal a = na at *
  generalize normal b = nb at *
  obtain ⟨s, l⟩ := a
  obtain ⟨s', l'⟩ := b
  obtain ⟨ns, nl⟩ := na
  obtain ⟨ns', nl'⟩ := nb
  simp only at h1 h2 h3 h4 q1 q2
  simp only [wrdP, szU] at n1 n2
  refine PFun.body hm hC (show Tryd.tab.get 43 = some Tryd.c43 from rfl) rfl ?_
  simp only [Tryd.c43, startP, List.length_cons, List.length_nil, Nat.reduceAdd, Nat.reduceSub, List.replicate, List.cons_append, List.nil_append, wrdP, szU]
  by_cases hl : ((l.length : Nat) : Int) = 0
  · repeat (refine PRun.wpn rfl ?_; simp only [wp, wo_nil, wo_p, wo_r, wo_n, wo_g, onO_s, onN_s, onG_f, wanted_g, b_tf, ble_self, ble_succ, pv_t, pv_int, pv_bool, put_some, bi_eql, pevP, pevR, pevN, getP, setP, boxP, look, PW.cs?, PW.push, PW.none, nthP, Option.map_some, Option.bind_some, or_true, true_and, ↓reduceIte, reduceCtorEq, Nat.reduceAdd, Nat.zero_add, resPs, resP, tupP, eqB_t hl])
    rw [decide_eq_false (fun h => h.1 (by omega))]
    exact .refl ⟨_, rfl, .refl _⟩
  · by_cases hl' : ((l'.length : Nat) : Int) = 0
    · repeat (refine PRun.wpn rfl ?_; simp only [wp, wo_nil, wo_p, wo_r, wo_n, wo_g, beq_self_eq_true, onO_s, onN_s, onG_t, wanted_g, ble_self, ble_succ, pv_t, pv_int, pv_bool, put_some, bi_eql, pevP, pevR, pevN, getP, setP, boxP, look, PW.cs?, PW.push, PW.none, nthP, Option.map_some, Option.bind_some, or_true, true_and, ↓reduceIte, reduceCtorEq, Nat.reduceAdd, Nat.zero_add, resPs, resP, tupP, eqB_f hl, eqB_t hl'])
      rw [decide_eq_false (fun h => h.2.1 (by omega))]
      exact .refl ⟨_, rfl, .refl _⟩
    · repeat (refine PRun.wpn rfl ?_; simp only [wp, wo_nil, wo_p, wo_r, wo_n, wo_g, beq_self_eq_true, onO_s, onN_s, onG_t, wanted_g, ble_self, ble_succ, pv_t, pv_int, pv_bool, put_some, bi_eql, pevP, pevR, pevN, getP, setP, boxP, look, PW.cs?, PW.push, PW.none, nthP, Option.map_some, Option.bind_some, ↓reduceIte, reduceCtorEq, Nat.reduceAdd, Bool.false_eq_true, Nat.zero_add, resPs, resP, tupP, eqB_f hl, eqB_f hl'])
      refine PDraw.stage (Nat.zero_le _) rfl ?_
      try dsimp only
      simp only [onX_s, onXI_s, rdX_e, ltN, ltD_s, onD_s, wx_nil, wx_cons, wx_r, wd_cons, wd_e, pv_t, put_some, pevR, getP, setP, nthO, look, PW.cs?, cutP, baseP, ROp.base, List.length_cons, List.length_nil, List.drop_zero, List.take_zero, List.take_succ_cons, Option.map_some, Option.bind_some, Bool.and_true, ↓reduceIte, reduceCtorEq, Nat.reduceAdd, Option.isSome_some, Nat.zero_add, List.length_cons, List.length_nil, Nat.le_refl]
      refine PDE.pure n1 rfl ?_
      refine PDraw.stage (Nat.zero_le _) rfl ?_
      try dsimp only
      simp only [onD_s, wx_nil, wd_cons, wd_e, put_some, setP, nthO]
      refine PDE.pure n2 rfl ?_
      refine PDraw.stage (Nat.zero_le _) rfl ?_
      try dsimp only
      simp only [onXN_s, onXI_s, onD_s, wx_nil, wx_cons, wx_n, wd_cons, wd_e, ov_nil, ov_cons, ov_nilS, put_some, pevN, setP, nthO, PW.push, Bool.and_true, ↓reduceIte, ltL, lt, Nat.reduceAdd]
      refine PDE.any (Nat.zero_le _) (PE.det rfl ?_)
      refine PDraw.stage (Nat.zero_le _) rfl ?_
      try dsimp only
      simp only [onD_s, wx_nil, wd_cons, wd_e, put_none, nthO, ↓reduceIte, Nat.reduceEqDiff, setO, killO]
      refine PDE.any (Nat.zero_le _) (PE.det rfl ?_)
      refine PDraw.last (Nat.zero_le _) rfl ?_
      try dsimp only
      simp only [wx_nil, put_none, ↓reduceIte, setO, killO]
      repeat (refine PRun.wpn rfl ?_; simp only [wp, wo_p, wo_r, wo_call, onO_s, pv_t, put_some, pevP, pevR, getP, setP, evsP, look, PW.cs?, nthP, Option.bind_some, Nat.zero_le, true_and, ↓reduceIte, Nat.reduceEqDiff, Nat.add_zero])
      refine .refl (PFun.to (equal_ok hm hC ns ns' (by omega)) rfl (POps.wp ?_))
      simp only [wo_p, wo_g, onO_s, wanted_g, pv_t, put_some, pevP, getP, setP]
      by_cases h : ns = ns'
      · simp only [decide_eq_true h, wo_p, wo_r, wo_call, wo_g, beq_self_eq_true, onO_s, onG_t, wanted_g, pv_t, put_some, pevP, pevR, getP, setP, evsP, look, PW.cs?, nthP, Option.bind_some, Nat.zero_le, true_and, ↓reduceIte, Nat.reduceEqDiff, Nat.zero_add]
        refine .refl (PFun.to (equal_ok hm hC nl nl' (by omega)) rfl (POps.wp ?_))
        simp only [wo_nil, wo_p, onO_s, pv_t, put_some, pevP, getP, setP]
        repeat (refine PRun.wpn rfl ?_; simp only [wp, or_true, true_and, reduceCtorEq])
        refine .refl ⟨_, rfl, ?_⟩
        have : decide (nl = nl') = decide (l.length ≠ 0 ∧ l'.length ≠ 0 ∧ ns = ns' ∧ nl = nl') := by
          have g1 : l.length ≠ 0 := by omega
          have g2 : l'.length ≠ 0 := by omega
          simp [g1, g2, h]
        rw [← this]
        exact .refl _
      · simp only [decide_eq_false h, wo_nil, wo_p, wo_g, onO_s, onG_f, wanted_g, b_ft, pv_t, pv_bool, put_some, pevP, getP, setP]
        repeat (refine PRun.wpn rfl ?_; simp only [wp, or_true, true_and, reduceCtorEq])
        refine .refl ⟨_, rfl, ?_⟩
        rw [decide_eq_false (fun hh : l.length ≠ 0 ∧ l'.length ≠ 0 ∧ ns = ns' ∧ nl = nl' => h hh.2.2.1)]
        exact .refl _
end
end Go.Proofs.YtkldgoapompinaaDoor.Ai

namespace Go.Proofs.YtkldgoapompinaaDoor.Ai
open Go
set_option linter.unusedVariables false
set_option maxRecDepth 10000
section
variable {C : Ctx} (hm : C.P.follows .mixedOrders = true) (hC : TabOK C.P C.ng C.ts Tryd.tab)
include hm hC
theorem join_ok (u : List Int) (w : Wd) (h0 : u.length < 2 ^ 37) (h1 : w.stem.length < 2 ^ 37) (h2 : w.loop.length < 2 ^ 38) : PFun C 18 [szU u, wrdP w] (wrdP (join u w)) := by
  have n1 := normal_ok hm hC ⟨u ++ w.stem, w.loop⟩ (by simp; omega) h2
  have c1 := concat_ok hm hC [u, w.stem] (by simp) (by simp; omega)
  unfold join
  generalize normal ⟨u ++ w.stem, w.loop⟩ = nw at *
  obtain ⟨stem, loop⟩ := w
  obtain ⟨ns, nl⟩ := nw
  simp only at h1 h2
  simp only [wrdP, szU, List.map_cons, List.map_nil, List.length_cons, List.length_nil, List.flatten_cons, List.flatten_nil, List.append_nil, Nat.reduceAdd] at n1 c1
  refine PFun.body hm hC (show Tryd.tab.get 18 = some Tryd.c18 from rfl) rfl ?_
  simp only [Tryd.c18, startP, List.length_cons, List.length_nil, Nat.reduceAdd, Nat.reduceSub, List.replicate, List.cons_append, List.nil_append, wrdP, szU]
  by_cases hl : ((loop.length : Nat) : Int) = 0
  · repeat (refine PRun.wpn rfl ?_; simp only [wp, wo_nil, wo_p, wo_r, wo_n, wo_st, onO_s, onN_s, onE_s, ble0, ble_self, ble_succ, pv_t, pv_int, ov_nil, ov_cons, ov_nilS, put_some, put_none, bi_eql, pevP, pevR, pevN, pevE, getP, setP, fillP, boxP, spliceP, overP, plainP, isCell, look, PW.cs?, PW.push, PW.none, nthP, cutP, List.length_cons, List.length_nil, Option.map_some, Option.bind_some, or_true, true_and, Bool.and_true, ↓reduceIte, reduceCtorEq, ltL, lt, Nat.reduceAdd, Bool.false_eq_true, Nat.zero_add, allPlain, PW.wr, setO, killO, Bool.or_self, Bool.not_true, resPs, resP, tupP, eqB_iff, List.length_cons, List.length_nil, hl])
    rw [if_pos (by omega)]
    exact .refl ⟨_, rfl, .agg (.cons .nil_sz (.cons .nil_sz .nil))⟩
  · repeat (refine PRun.wpn rfl ?_; simp only [wp, wo_nil, wo_p, wo_r, wo_n, onO_s, onN_s, ble_self, ble_succ, pv_t, pv_int, ov_nil, ov_cons, ov_nilS, put_some, bi_eql, pevP, pevR, pevN, getP, setP, boxP, look, PW.cs?, PW.push, PW.none, nthP, cutP, Option.map_some, Option.bind_some, Bool.and_true, ↓reduceIte, reduceCtorEq, ltL, lt, Nat.reduceAdd, Nat.zero_add, resPs, resP, tupP, eqB_iff, hl])
    refine PDraw.stage (Nat.zero_le _) rfl ?_
    try dsimp only
    simp only [beq_self_eq_true, onX_s, onXN_s, onXI_s, rdX_e, ltN, ltD_s, onD_s, wx_nil, wx_cons, wx_p, wx_r, wx_n, wd_cons, wd_e, pv_t, ov_nil, ov_cons, ov_nilS, put_some, pevP, pevR, pevN, getP, setP, nthO, fillP, spliceP, overP, plainP, look, PW.cs?, PW.push, nthP, baseP, ROp.base, List.length_cons, List.length_nil, Option.map_some, Option.bind_some, Bool.and_true, ↓reduceIte, reduceCtorEq, ltL, lt, Nat.reduceAdd, Option.isSome_some, Nat.add_zero, Nat.zero_add, List.length_cons, List.length_nil]
    refine PDE.gh (Gh.freeze 2 rfl rfl rfl ?_)
    simp only [List.drop_zero, ↓reduceIte, reduceCtorEq, Nat.reduceEqDiff, frzL, frzP, frzO, frzH, Nat.le_refl]
    refine PDE.pure c1 rfl ?_
    refine PDraw.stage (Nat.zero_le _) rfl ?_
    try dsimp only
    simp only [beq_self_eq_true, onX_s, onXI_s, onD_s, wx_nil, wx_cons, wx_p, wd_cons, wd_e, pv_t, ov_nil, ov_cons, ov_nilS, put_some, pevP, getP, setP, nthO, fillP, spliceP, overP, plainP, Option.map_some, Option.bind_some, Bool.and_true, ↓reduceIte, ltL, lt]
    refine PDE.pure n1 rfl ?_
    refine PDraw.stage (Nat.zero_le _) rfl ?_
    try dsimp only
    simp only [onD_s, wx_nil, wd_cons, wd_e, put_some, setP, nthO]
    refine PDE.any (Nat.zero_le _) (PE.det rfl ?_)
    refine PDraw.last (Nat.zero_le _) rfl ?_
    try dsimp only
    simp only [wx_nil, put_none, ↓reduceIte, setO, killO]
    repeat (refine PRun.wpn rfl ?_; simp only [wp, or_true, true_and, reduceCtorEq])
    rw [if_neg (by omega)]
    exact .refl ⟨_, rfl, .refl _⟩
theorem suffix_ok (w : Wd) (i : Int) (h0 : -9223372036854775808 ≤ i) (h0' : i < 9223372036854775808) (h1 : w.stem.length < 2 ^ 37) (h2 : w.loop.length < 2 ^ 37) : PFun C 17 [wrdP w, .lit (.int .i64 i)] (wrdP (suffix w i)) := by
  obtain ⟨n, hn⟩ : ∃ n : Nat, (if 0 > i then 0 else i) = n := by
    split
    · exact ⟨0, rfl⟩
    · exact ⟨i.toNat, by omega⟩
  have hi : i.toNat = n := by split at hn <;> omega
  have hn9 : n < 9223372036854775808 := by omega
  unfold suffix
  rw [hi]
  have n1 := normal_ok hm hC ⟨w.stem.drop n, w.loop⟩ (by simp; omega) (by simp only; omega)
  have n2 := fun k (hk : k ≤ w.loop.length) => normal_ok hm hC ⟨[], w.loop.drop k ++ w.loop.take k⟩ (by simp) (by simp; omega)
  have c1 := fun k (hk : k ≤ w.loop.length) => concat_ok hm hC [w.loop.drop k, w.loop.take k] (by simp) (by simp; omega)
  obtain ⟨stem, loop⟩ := w
  simp only at h1 h2 n1 n2 c1 ⊢
  refine PFun.body hm hC (show Tryd.tab.get 17 = some Tryd.c17 from rfl) rfl ?_
  simp only [Tryd.c17, startP, List.length_cons, List.length_nil, Nat.reduceAdd, Nat.reduceSub, List.replicate, List.cons_append, List.nil_append, wrdP, szU]
  by_cases hl : ((loop.length : Nat) : Int) = 0
  · repeat (refine PRun.wpn rfl ?_; simp only [wp, wo_nil, wo_p, wo_r, wo_n, wo_st, onO_s, onN_s, onE_s, ble0, ble_self, ble_succ, pv_t, pv_int, ov_nil, ov_cons, ov_nilS, put_some, put_none, bi_eql, pevP, pevR, pevN, pevE, getP, setP, fillP, boxP, spliceP, overP, plainP, isCell, look, PW.cs?, PW.push, PW.none, nthP, cutP, List.length_cons, List.length_nil, Option.map_some, Option.bind_some, or_true, true_and, Bool.and_true, ↓reduceIte, reduceCtorEq, ltL, lt, Nat.reduceAdd, Bool.false_eq_true, Nat.zero_add, allPlain, PW.wr, setO, killO, Bool.or_self, Bool.not_true, resPs, resP, tupP, eqB_iff, List.length_cons, List.length_nil, hl])
    rw [if_pos (by omega)]
    exact .refl ⟨_, rfl, .agg (.cons .nil_sz (.cons .nil_sz .nil))⟩
  · have hl' : ¬ loop.length = 0 := by omega
    simp only [hl', if_false]
    simp only [gt_iff_lt] at hn
    repeat (refine PRun.wpn rfl ?_; simp only [wp, wo_nil, wo_p, wo_r, wo_n, onO_s, onN_s, ble_self, ble_succ, pv_t, pv_int, ov_nil, ov_cons, ov_nilS, put_some, bi_eql, bi_lss, pevP, pevR, pevN, getP, setP, boxP, look, PW.cs?, PW.push, PW.none, nthP, cutP, Option.map_some, Option.bind_some, Bool.and_true, ↓reduceIte, reduceCtorEq, ltL, lt, Nat.reduceAdd, Nat.add_zero, Nat.zero_add, resPs, resP, tupP, ltB_iff, eqB_iff, gt_iff_lt, hl, hn])
    split
    · rename_i hs
      have hs' : n < stem.length := by omega
      have e1 : ((n : Nat) : Int) ≤ (stem.length : Nat) := by omega
      simp only [hs', if_true] at n1 ⊢
      generalize normal ⟨stem.drop n, loop⟩ = nw at *
      obtain ⟨ns, nl⟩ := nw
      simp only [wrdP, szU] at n1 ⊢
      repeat (refine PRun.wpn rfl ?_; simp only [wp, wo_nil, wo_p, wo_r, wo_n, wo_call, wo_st, wo_append, wo_appendZ, wo_g, beq_self_eq_true, onO_s, onN_s, onE_s, onG_t, onG_f, wanted_g, b_tt, b_ff, b_tf, b_ft, onX_s, onXN_s, onXG_t, onXG_f, onXI_s, rdX_e, ltN, ble0, ble_self, ble_succ, and_tt, ltD_s, onD_s, onDG_t, onDG_f, wx_nil, wx_cons, wx_p, wx_r, wx_n, wx_g, wd_cons, wd_e, wd_g, pv_t, pv_int, pv_bool, pv_str, pv_nilS, pv_nilP, pv_nilI, pv_nilF, pv_nilM, ov_nil, ov_cons, ov_int, ov_bool, ov_str, ov_nilS, ov_nilP, ov_nilI, ov_nilF, ov_nilM, ov_agg, put_some, put_none, bi_add, bi_sub, bi_mul, bi_eql, bi_neq, bi_lss, bi_leq, bi_gtr, bi_geq, pevP, pevR, pevN, pevE, getP, setP, nthO, evsP, eqP, lenP, srcP, appendP, fillP, boxP, pcells, spliceP, overP, plainP, isCell, look, PW.cs?, PW.exactAt, PW.push, PW.none, nthP, cutP, partP, boundP, baseP, ROp.base, List.length_cons, List.length_nil, List.drop_zero, List.drop_succ_cons, List.take_zero, List.take_succ_cons, Option.map_some, Option.map_none, Option.bind_some, Option.bind_none, Nat.zero_le, Option.isNone_none, Option.isNone_some, true_or, or_true, Nat.mul_one, Nat.sub_zero, Int.natCast_nonneg, Int.toNat_natCast, nc0, nc1, nc2, tn0, tn1, tn2, Int.le_refl, Int.lt_irrefl, Nat.lt_irrefl, Int.sub_self, Int.sub_zero, and_self, flat_one, true_and, and_true, Bool.and_true, Bool.true_and, Bool.false_and, Bool.and_false, if_true, if_false, ↓reduceIte, reduceCtorEq, ltL, lt, ltFn, Nat.reduceAdd, Nat.reduceMul, Nat.reduceLeDiff, Nat.reduceLT, Nat.reduceEqDiff, Nat.reduceSub, Option.isSome_some, Option.isSome_none, Bool.false_eq_true, Nat.add_zero, Nat.zero_add, allPlain, PW.wr, setO, killO, Bool.or_self, Bool.or_false, Bool.false_or, Bool.not_true, Bool.not_false, Bool.true_bne, Bool.false_bne, Bool.bne_false, Bool.bne_true, resPs, resP, tupP, ltB_iff, leB_iff, eqB_iff, neB_iff, decide_eq_true_eq, frzL, frzP, frzO, frzE, frzH, noAlP, pureL, pureP, renL, renP, renO, renE, renH, renA, lkN, maskP, List.nil_append, List.append_nil, List.cons_append, List.length_cons, List.length_nil, Nat.not_lt, ge_iff_le, gt_iff_lt, Nat.le_refl])
      refine PDraw.stage (Nat.zero_le _) rfl ?_
      try dsimp only
      simp only [beq_self_eq_true, onX_s, onXI_s, rdX_e, ltN, ltD_s, onD_s, wx_nil, wx_cons, wx_p, wx_r, wd_cons, wd_e, pv_t, ov_nil, ov_cons, ov_nilS, put_some, pevP, pevR, getP, setP, nthO, fillP, spliceP, overP, plainP, look, PW.cs?, nthP, boundP, baseP, ROp.base, List.length_cons, List.length_nil, Option.map_some, Option.bind_some, Option.isNone_none, or_true, Nat.mul_one, Int.natCast_nonneg, Int.toNat_natCast, true_and, Bool.and_true, ↓reduceIte, reduceCtorEq, ltL, lt, Nat.reduceAdd, Option.isSome_some, Nat.add_zero, Nat.zero_add, List.length_cons, List.length_nil, e1, hs']
      refine PDE.pure (n1.args (.cons (.agg (.cons ?_ (.cons (.refl _) .nil))) .nil)) rfl ?_
      · have := wk_cut stem n (stem.length - n) (by omega)
        rw [List.take_of_length_le (by simp)] at this
        exact this
      refine PDraw.stage (Nat.zero_le _) rfl ?_
      try dsimp only
      simp only [onD_s, wx_nil, wd_cons, wd_e, put_some, setP, nthO]
      refine PDE.any (Nat.zero_le _) (PE.det rfl ?_)
      refine PDraw.last (Nat.zero_le _) rfl ?_
      try dsimp only
      simp only [wx_nil, put_none, ↓reduceIte, setO, killO]
      repeat (refine PRun.wpn rfl ?_; simp only [wp, or_true, true_and, reduceCtorEq])
      exact .refl ⟨_, rfl, .refl _⟩
    · rename_i hs
      have hs' : ¬ n < stem.length := by omega
      simp only [hs', if_false]
      have e1 : IntKind.i64.wrap ((n : Int) - (stem.length : Nat)) = ((n - stem.length : Nat) : Int) := by rw [wrap64 (by omega) (by omega)]; omega
      have e2 : (n - stem.length) % loop.length < loop.length := Nat.mod_lt _ (by omega)
      generalize hk : (n - stem.length) % loop.length = k at *
      have n2 := n2 k (by omega)
      have c1 := c1 k (by omega)
      have e3 : ((k : Nat) : Int) ≤ (loop.length : Nat) := by omega
      generalize normal ⟨[], loop.drop k ++ loop.take k⟩ = nw at *
      obtain ⟨ns, nl⟩ := nw
      simp only [wrdP, List.map_cons, List.map_nil, List.length_cons, List.length_nil, List.flatten_cons, List.flatten_nil, List.append_nil, Nat.reduceAdd] at n2 c1
      repeat (refine PRun.wpn rfl ?_; simp only [wp, wo_nil, wo_p, wo_r, onO_s, pv_t, put_some, bi_sub, pevP, pevR, getP, setP, look, PW.cs?, nthP, Option.map_some, Option.bind_some, ↓reduceIte, reduceCtorEq, Nat.add_zero, Nat.zero_add, e1, bi_rem hl, tmod_nat, hk])
      refine PDraw.stage (Nat.zero_le _) rfl ?_
      try dsimp only
      simp only [beq_self_eq_true, onX_s, onXN_s, onXI_s, rdX_e, ltN, ltD_s, onD_s, wx_nil, wx_cons, wx_p, wx_r, wx_n, wd_cons, wd_e, pv_t, ov_nil, ov_cons, ov_nilS, put_some, pevP, pevR, pevN, getP, setP, nthO, fillP, spliceP, overP, plainP, look, PW.cs?, PW.push, nthP, boundP, baseP, ROp.base, List.length_cons, List.length_nil, List.drop_zero, Option.map_some, Option.bind_some, Option.isNone_none, true_or, or_true, Nat.mul_one, Nat.sub_zero, Int.natCast_nonneg, Int.toNat_natCast, and_self, true_and, Bool.and_true, ↓reduceIte, reduceCtorEq, ltL, lt, Nat.reduceAdd, Option.isSome_some, Nat.zero_add, List.length_cons, List.length_nil, e3, e2]
      refine PDE.gh (Gh.freeze 2 rfl rfl rfl ?_)
      simp only [List.drop_zero, ↓reduceIte, reduceCtorEq, Nat.reduceEqDiff, frzL, frzP, frzO, frzH, Nat.le_refl]
      refine PDE.pure (c1.args (.cons (Wk.sl (ext := []) (.cons ?_ (.cons (wk_cut loop 0 k (by omega)) .nil))) .nil)) rfl ?_
      · have := wk_cut loop k (loop.length - k) (by omega)
        rw [List.take_of_length_le (by simp)] at this
        exact this
      refine PDraw.stage (Nat.zero_le _) rfl ?_
      try dsimp only
      simp only [beq_self_eq_true, onXI_s, onD_s, wx_cons, wx_p, wd_cons, wd_e, pv_t, ov_nil, ov_cons, ov_nilS, put_some, pevP, getP, setP, nthO, fillP, spliceP, overP, plainP, isCell, Option.map_some, Option.bind_some, Bool.and_true, ↓reduceIte, ltL, lt]
      refine PDE.pure (n2.args (.cons (.agg (.cons .nil_sz (.cons (.refl _) .nil))) .nil)) rfl ?_
      refine PDraw.stage (Nat.zero_le _) rfl ?_
      try dsimp only
      simp only [onD_s, wx_nil, wd_cons, wd_e, put_some, setP, nthO, szU]
      refine PDE.any (Nat.zero_le _) (PE.det rfl ?_)
      refine PDraw.last (Nat.zero_le _) rfl ?_
      try dsimp only
      simp only [wx_nil, put_none, ↓reduceIte, setO, killO]
      repeat (refine PRun.wpn rfl ?_; simp only [wp, or_true, true_and, reduceCtorEq])
      exact .refl ⟨_, rfl, .refl _⟩
end
end Go.Proofs.YtkldgoapompinaaDoor.Ai

namespace Go.Proofs.YtkldgoapompinaaDoor.Ai
open Go
set_option linter.unusedVariables false
set_option maxRecDepth 10000
theorem renL_L16 (ρ : List (Nat × Nat)) (l : List Int) : renL ρ (L16 l) = L16 l := renL_pure ρ _ (pureL_L16 l)
theorem frzL_L16 (i : Nat) (cs : List PV) (l : List Int) : frzL i cs (L16 l) = L16 l := frzL_pure i cs _ (pureL_L16 l)
section
variable {C : Ctx} (hm : C.P.follows .mixedOrders = true) (hC : TabOK C.P C.ng C.ts Tryd.tab)
include hm hC
theorem prefix_ok (w : Wd) (n : Int) (h1 : w.stem.length < 2 ^ 37) (h2 : w.loop.length < 2 ^ 37) : PFun C 19 [wrdP w, .lit (.int .i64 n)] (szU (prefixW w n)) := by
  obtain ⟨m, hm1, hm2⟩ : ∃ m : Nat, m = min n.toNat 65536 ∧ ∀ k, k = (if 0 > n then 0 else n) → (if 65536 < k then 65536 else k) = (m : Int) := by
    refine ⟨_, rfl, fun k hk => ?_⟩
    subst hk
    split <;> split <;> omega
  have hm2 := hm2 _ rfl
  have a1 := fun i : Nat => fun hi : i < 65536 => at_ok hm hC w i (by omega) (by omega) (by omega) (by omega)
  unfold prefixW
  rw [← hm1]
  have hm3 : m ≤ 65536 := by omega
  generalize hat : (fun i : Nat => atW w i) = at_ at *
  have a1 : ∀ i : Nat, i < 65536 → PFun C 32 [wrdP w, .lit (.int .i64 i)] (.lit (.int .u16 (at_ i))) := fun i hi => by have := a1 i hi; rw [← hat]; exact this
  clear hat
  obtain ⟨stem, loop⟩ := w
  simp only at h1 h2
  simp only [wrdP, szU] at a1
  simp only [gt_iff_lt] at hm2
  refine PFun.body hm hC (show Tryd.tab.get 19 = some Tryd.c19 from rfl) rfl ?_
  simp only [Tryd.c19, startP, List.length_cons, List.length_nil, Nat.reduceAdd, Nat.reduceSub, List.replicate, List.cons_append, List.nil_append, wrdP, szU]
  by_cases hl : ((loop.length : Nat) : Int) = 0
  · repeat (refine PRun.wpn rfl ?_; simp only [wp, wo_nil, wo_p, wo_r, wo_n, onO_s, onN_s, ble_self, pv_t, pv_int, pv_nilS, put_some, bi_eql, pevP, pevR, pevN, getP, setP, boxP, look, PW.cs?, PW.push, PW.none, nthP, Option.map_some, Option.bind_some, or_true, true_and, ↓reduceIte, reduceCtorEq, Nat.zero_add, resPs, resP, tupP, eqB_iff, hl])
    rw [if_pos (by omega)]
    exact .refl ⟨_, rfl, .nil_sz⟩
  · rw [if_neg (by omega)]
    repeat (refine PRun.wpn rfl ?_; simp only [wp, wo_nil, wo_p, wo_r, wo_n, onO_s, onN_s, ble_self, pv_t, pv_int, pv_nilS, put_some, bi_eql, pevP, pevR, pevN, getP, setP, boxP, look, PW.cs?, PW.push, PW.none, nthP, Option.map_some, Option.bind_some, ↓reduceIte, reduceCtorEq, Nat.zero_add, resPs, resP, tupP, eqB_iff, gt_iff_lt, hl, hm2])
    refine PRun.gh (Gh.mask (false :: false :: true :: false :: false :: true :: false :: false :: false :: false :: false :: false :: false :: true :: true :: false :: false :: false :: false :: false :: false :: false :: false :: false :: false :: []) ?_)
    refine PRun.loopG (fun k t π => ∃ p : List Int, p = (List.range p.length).map at_ ∧ p.length ≤ m ∧ k = m - p.length ∧ ((p = [] ∧ t = (.junk :: .junk :: .ptr 0 0 :: .junk :: .junk :: .lit (.slice none 0 0) :: .junk :: .junk :: .junk :: .junk :: .junk :: .junk :: .junk :: .lit (.int .i64 (m : Nat)) :: .lit (.int .i64 0) :: .junk :: .junk :: .junk :: .junk :: .junk :: .junk :: .junk :: .junk :: .junk :: .junk :: []) ∧ π = ⟨1, [(0, .cells [.sz (L16 stem) stem.length, .sz (L16 loop) loop.length] 25 2 true false [])]⟩) ∨ (p ≠ [] ∧ t = (.junk :: .junk :: .ptr 0 0 :: .junk :: .junk :: .loc 1 0 p.length p.length :: .junk :: .junk :: .junk :: .junk :: .junk :: .junk :: .junk :: .lit (.int .i64 (m : Nat)) :: .lit (.int .i64 (p.length : Nat)) :: .junk :: .junk :: .junk :: .junk :: .junk :: .junk :: .junk :: .junk :: .junk :: .junk :: []) ∧ π = ⟨2, [(1, .cells (L16 p) 54 1 false false []), (0, .cells [.sz (L16 stem) stem.length, .sz (L16 loop) loop.length] 25 2 true false [])]⟩))) ?_ m _ _ ⟨[], rfl, by simp, rfl, .inl ⟨rfl, rfl, rfl⟩⟩
    rintro k t π ⟨p, hp, hpm, rfl, ⟨rfl, rfl, rfl⟩ | ⟨hp0, rfl, rfl⟩⟩
    · repeat (refine PRun.wpn rfl ?_; simp only [wp, wo_nil, wo_p, onO_s, pv_t, put_some, bi_lss, pevP, getP, setP, List.length_nil, Option.map_some, Nat.sub_zero, ↓reduceIte, ltB_iff, List.length_nil])
      split
      · rename_i hlt
        have a2 := a1 0 (by omega)
        simp only [nc0] at a2
        repeat (refine PRun.wpn rfl ?_; simp only [wp, wo_nil, wo_p, wo_r, wo_call, onO_s, pv_t, put_some, pevP, pevR, getP, setP, evsP, look, PW.cs?, cutP, List.length_cons, List.length_nil, List.drop_zero, List.take_zero, List.take_succ_cons, Option.map_some, Option.bind_some, Nat.zero_le, true_and, ↓reduceIte, Nat.reduceAdd, Nat.zero_add, List.length_cons, List.length_nil, Nat.le_refl])
        refine .refl (PFun.to (a2) rfl (POps.wp ?_))
        simp only [wo_n, wo_append, beq_self_eq_true, onN_s, ble0, ble_succ, pv_t, ov_nil, ov_cons, ov_int, put_some, pevN, pevE, getP, setP, lenP, srcP, appendP, fillP, spliceP, overP, plainP, isCell, look, PW.cs?, PW.push, cutP, List.length_cons, List.length_nil, List.drop_zero, List.take_zero, List.take_succ_cons, Option.map_some, Option.bind_some, Nat.mul_one, Bool.and_true, ↓reduceIte, ltL, lt, Nat.reduceAdd, Nat.reduceMul, Nat.reduceLeDiff, Nat.reduceLT, Nat.zero_add, allPlain, Bool.false_or, Bool.not_true, List.length_cons, List.length_nil, gt_iff_lt, Nat.le_refl]
        repeat (refine PRun.wpn rfl ?_; simp only [wp, wo_nil, wo_p, onO_s, pv_t, pv_int, put_some, bi_add, pevP, getP, setP, Option.map_some])
        rw [wrap64 (by omega) (by omega)]
        refine Gh.mr (false :: false :: true :: false :: false :: true :: false :: false :: false :: false :: false :: false :: false :: true :: true :: false :: false :: false :: false :: false :: false :: false :: false :: false :: false :: []) [(0, 0), (2, 1)] 2 rfl ?_
        exact ⟨m - 1, by omega, [at_ 0], rfl, by simp; omega, rfl, .inr ⟨by simp, rfl, rfl⟩⟩
      · rename_i hge
        have hm0 : m = 0 := by omega
        subst hm0
        repeat (refine PRun.wpn rfl ?_; simp only [wp, wo_nil, wo_p, onO_s, pv_t, put_some, pevP, getP, setP, or_true, nc0, true_and, reduceCtorEq])
        exact .refl ⟨_, rfl, .nil_sz⟩
    · have hpl : p.length ≠ 0 := fun h => hp0 (List.length_eq_zero_iff.1 h)
      repeat (refine PRun.wpn rfl ?_; simp only [wp, wo_nil, wo_p, onO_s, pv_t, put_some, bi_lss, pevP, getP, setP, Option.map_some, ↓reduceIte, ltB_iff])
      split
      · rename_i hlt
        have a2 := a1 p.length (by omega)
        have q1 : ¬ p.length + 1 ≤ p.length := by omega
        have q2 : ¬ 140737488355328 < (2 * (p.length + 1) + 768) * 2 := by omega
        repeat (refine PRun.wpn rfl ?_; simp only [wp, wo_nil, wo_p, wo_r, wo_call, onO_s, pv_t, put_some, pevP, pevR, getP, setP, evsP, look, PW.cs?, cutP, List.length_cons, List.length_nil, List.drop_zero, List.take_zero, List.take_succ_cons, Option.map_some, Option.bind_some, Nat.zero_le, true_and, ↓reduceIte, reduceCtorEq, Nat.reduceAdd, Nat.zero_add, List.length_cons, List.length_nil, Nat.le_refl])
        refine .refl (PFun.to (a2) rfl (POps.wp ?_))
        simp only [wo_n, wo_append, beq_self_eq_true, onN_s, ble0, pv_t, ov_nil, ov_cons, ov_int, put_some, pevN, pevE, getP, setP, lenP, srcP, appendP, fillP, spliceP, overP, plainP, isCell, look, PW.cs?, PW.push, cutP, List.length_cons, List.length_nil, List.drop_zero, List.take_zero, List.take_succ_cons, Option.map_some, Option.bind_some, Nat.mul_one, Bool.and_true, ↓reduceIte, reduceCtorEq, ltL, lt, Nat.reduceAdd, Nat.reduceEqDiff, Bool.false_eq_true, Nat.zero_add, allPlain, PW.wr, setO, killO, Bool.false_or, Bool.not_true, List.length_cons, List.length_nil, gt_iff_lt, Nat.le_refl]
        simp only [wo_nil, wo_p, onO_s, onE_s, pv_t, put_some, pevP, getP, setP, ↓reduceIte, Bool.false_eq_true, Bool.or_self, Nat.le_refl, q1, q2, L16_len, L16_take, bne_self_eq_false]
        repeat (refine PRun.wpn rfl ?_; simp only [wp, wo_nil, wo_p, onO_s, pv_t, pv_int, put_some, bi_add, pevP, getP, setP, Option.map_some])
        rw [wrap64 (by omega) (by omega)]
        refine Gh.mr (false :: false :: true :: false :: false :: true :: false :: false :: false :: false :: false :: false :: false :: true :: true :: false :: false :: false :: false :: false :: false :: false :: false :: false :: false :: []) [(0, 0), (3, 1)] 2 rfl ?_
        have e1 : L16 p ++ [PV.lit (.int .u16 (at_ p.length))] = L16 (p ++ [at_ p.length]) := by simp [L16]
        simp only [↓reduceIte, reduceCtorEq, Nat.reduceEqDiff, Bool.false_eq_true, renL, renP, renO, renH, renA, lkN, maskP, e1, renL_L16]
        have e2 : (p ++ [at_ p.length]).length = p.length + 1 := by simp
        refine ⟨m - (p.length + 1), by omega, p ++ [at_ p.length], ?_, by omega, by omega, .inr ⟨by simp, ?_, rfl⟩⟩
        · rw [e2, List.range_succ, List.map_append, ← hp]; rfl
        · rw [e2]; rfl
      · rename_i hge
        have hpm' : p.length = m := by omega
        repeat (refine PRun.wpn rfl ?_; simp only [wp, wo_nil, wo_p, onO_s, pv_t, put_some, pevP, getP, setP, or_true, true_and, reduceCtorEq])
        refine Gh.freeze 1 rfl (pureL_L16 p) rfl ?_
        simp only [getP, List.drop_zero, ↓reduceIte, reduceCtorEq, frzL, frzP, Nat.le_refl]
        rw [← hpm', ← hp]
        exact ⟨_, rfl, .sl_sz⟩
end
end Go.Proofs.YtkldgoapompinaaDoor.Ai

namespace Go.Proofs.YtkldgoapompinaaDoor.Ai
open Go
set_option linter.unusedVariables false
set_option maxRecDepth 10000
theorem join_len (u : List Int) (w : Wd) : (join u w).stem.length ≤ u.length + w.stem.length ∧ (join u w).loop.length ≤ w.loop.length := by
  unfold join
  split
  · simp
  · have := normal_stem ⟨u ++ w.stem, w.loop⟩
    have := normal_loop ⟨u ++ w.stem, w.loop⟩
    simp only [List.length_append] at *
    omega
theorem suffix_len (w : Wd) (n : Int) : (suffix w n).stem.length ≤ w.stem.length ∧ (suffix w n).loop.length ≤ w.loop.length := by
  unfold suffix
  split
  · simp
  · split
    · have := normal_stem ⟨w.stem.drop n.toNat, w.loop⟩
      have := normal_loop ⟨w.stem.drop n.toNat, w.loop⟩
      simp only [List.length_drop] at *
      omega
    · rename_i h _
      have h1 := normal_stem ⟨[], w.loop.drop ((n.toNat - w.stem.length) % w.loop.length) ++ w.loop.take ((n.toNat - w.stem.length) % w.loop.length)⟩
      have h2 := normal_loop ⟨[], w.loop.drop ((n.toNat - w.stem.length) % w.loop.length) ++ w.loop.take ((n.toNat - w.stem.length) % w.loop.length)⟩
      have h3 := Nat.mod_lt (n.toNat - w.stem.length) (show w.loop.length > 0 by omega)
      simp only [List.length_append, List.length_drop, List.length_take, List.length_nil] at *
      omega
theorem prefix_len (w : Wd) (n : Int) : (prefixW w n).length ≤ 65536 := by
  unfold prefixW
  split
  · simp
  · simp; omega
section
variable {C : Ctx} (hm : C.P.follows .mixedOrders = true) (hC : TabOK C.P C.ng C.ts Tryd.tab)
include hm hC
/-- a call that is run from nothing comes to true from everywhere -/
theorem PFun.of_yes {n m : Nat} (hn : C.ng ≤ m) {f : FuncId} (hy : yes Tryd.tab (n + 1) f [] (bare m) = true) : PFun C f [] (.lit (.bool true)) := by
  unfold yes at hy
  split at hy
  · rename_i σf hv
    intro F I σ vargs hG hs hr
    have hva : vargs = [] := by cases vargs with | nil => rfl | cons v vs => simp [RdL] at hr
    subst hva
    have h : ∀ N0, CTo C.P C.ng C.ts N0 f [] (known m []) (.bool true) σf := fun N0 => CTo.of_K (all_sound hm hC (n + 1)) hv
    exact ⟨.bool true, σ, I, CTo.anywhere (l := []) hn h (by simp [lt]) (fun x hx => by simp at hx), .refl, hs, rd_mk (by simp [lt])⟩
  · simp at hy
theorem wparts_ok (hw : PFun C 12 [] (.lit (.bool true))) (w : Wd) (u : List Int) (n : Int) (h0 : -9223372036854775808 ≤ n) (h0' : n < 9223372036854775808) (h1 : w.stem.length < 2 ^ 61) (h2 : w.loop.length < 2 ^ 61) (h3 : u.length < 2 ^ 61)
    (hA : 0 < w.loop.length → suffix (join u w) u.length = normal w) (hB : 0 < w.loop.length → ∀ k : Nat, k ≤ 65536 → join (prefixW w k) (suffix w k) = normal w)
    (hC1 : 0 < w.loop.length → ∀ i (h : i < u.length), atW (join u w) (i : Nat) = u[i]) (hC2 : 0 < w.loop.length → ∀ k i : Nat, atW (suffix w k) i = atW w ((k + i : Nat) : Int)) (hC3 : 0 < w.loop.length → ∀ i : Nat, atW (join u w) ((u.length + i : Nat) : Int) = atW w i) :
    PTop C Tryd.tab 7 [wrdP w, szU u, .lit (.int .i64 n)] (.lit (.bool true)) := by
  by_cases hl : ((w.loop.length : Nat) : Int) = 0
  · obtain ⟨stem, loop⟩ := w
    simp only at h1 h2 hl
    refine PTop.body (show Tryd.tab.get 7 = some Tryd.c7 from rfl) ?_
    simp only [Tryd.c7, startP, List.length_cons, List.length_nil, Nat.reduceAdd, Nat.reduceSub, List.replicate, List.cons_append, List.nil_append, wrdP, szU]
    repeat (refine PRun.wpn rfl ?_; simp only [wp, wo_nil, wo_p, wo_n, wo_call, onO_s, onN_s, ble_self, pv_t, pv_bool, put_some, pevP, pevN, getP, setP, evsP, boxP, PW.push, PW.none, Option.map_some, Nat.zero_le, true_and, Nat.zero_add, resPs, resP, tupP])
    refine .refl (PFun.to (hw) rfl (POps.wp ?_))
    simp only [wo_nil, wo_p, onO_s, pv_t, put_some, pevP, getP, setP]
    repeat (refine PRun.wpn rfl ?_; simp only [wp, wo_nil, wo_p, wo_r, wo_g, onO_s, onG_f, wanted_g, b_tf, pv_t, pv_int, pv_bool, put_some, bi_eql, pevP, pevR, getP, setP, look, PW.cs?, nthP, Option.map_some, Option.bind_some, or_true, true_and, ↓reduceIte, reduceCtorEq, Nat.zero_add, eqB_t hl])
    exact .refl ⟨_, rfl, .refl _⟩
  have e0 : IntKind.i64.wrap ((w.stem.length : Nat) + (w.loop.length : Nat)) = ((w.stem.length + w.loop.length : Nat) : Int) := by rw [wrap64 (by omega) (by omega)]; omega
  by_cases hbig : (20000 : Int) < ((w.stem.length + w.loop.length : Nat) : Int)
  · obtain ⟨stem, loop⟩ := w
    simp only at h1 h2 hl e0 hbig
    refine PTop.body (show Tryd.tab.get 7 = some Tryd.c7 from rfl) ?_
    simp only [Tryd.c7, startP, List.length_cons, List.length_nil, Nat.reduceAdd, Nat.reduceSub, List.replicate, List.cons_append, List.nil_append, wrdP, szU]
    repeat (refine PRun.wpn rfl ?_; simp only [wp, wo_nil, wo_p, wo_n, wo_call, onO_s, onN_s, ble_self, pv_t, pv_bool, put_some, pevP, pevN, getP, setP, evsP, boxP, PW.push, PW.none, Option.map_some, Nat.zero_le, true_and, Nat.zero_add, resPs, resP, tupP])
    refine .refl (PFun.to (hw) rfl (POps.wp ?_))
    simp only [wo_nil, wo_p, onO_s, pv_t, put_some, pevP, getP, setP]
    repeat (refine PRun.wpn rfl ?_; simp only [wp, wo_nil, wo_p, wo_r, wo_g, beq_self_eq_true, onO_s, onG_t, onG_f, wanted_g, b_tf, pv_t, pv_int, pv_bool, put_some, bi_add, bi_eql, bi_gtr, pevP, pevR, getP, setP, look, PW.cs?, nthP, Option.map_some, Option.bind_some, or_true, true_and, ↓reduceIte, reduceCtorEq, Nat.add_zero, Nat.zero_add, eqB_f hl, e0, ltB_t hbig])
    exact .refl ⟨_, rfl, .refl _⟩
  by_cases hbu : (20000 : Int) < ((u.length : Nat) : Int)
  · obtain ⟨stem, loop⟩ := w
    simp only at h1 h2 hl e0 hbig
    refine PTop.body (show Tryd.tab.get 7 = some Tryd.c7 from rfl) ?_
    simp only [Tryd.c7, startP, List.length_cons, List.length_nil, Nat.reduceAdd, Nat.reduceSub, List.replicate, List.cons_append, List.nil_append, wrdP, szU]
    repeat (refine PRun.wpn rfl ?_; simp only [wp, wo_nil, wo_p, wo_n, wo_call, onO_s, onN_s, ble_self, pv_t, pv_bool, put_some, pevP, pevN, getP, setP, evsP, boxP, PW.push, PW.none, Option.map_some, Nat.zero_le, true_and, Nat.zero_add, resPs, resP, tupP])
    refine .refl (PFun.to (hw) rfl (POps.wp ?_))
    simp only [wo_nil, wo_p, onO_s, pv_t, put_some, pevP, getP, setP]
    repeat (refine PRun.wpn rfl ?_; simp only [wp, wo_nil, wo_p, wo_r, wo_g, beq_self_eq_true, onO_s, onG_t, wanted_g, pv_t, pv_int, put_some, bi_add, bi_eql, bi_gtr, pevP, pevR, getP, setP, look, PW.cs?, nthP, Option.map_some, Option.bind_some, or_true, true_and, ↓reduceIte, reduceCtorEq, Nat.add_zero, Nat.zero_add, eqB_f hl, e0, ltB_f hbig, ltB_t hbu])
    exact .refl ⟨_, rfl, .refl _⟩
  have hl0 : 0 < w.loop.length := by omega
  have hA := hA hl0
  have hB := hB hl0
  have hC1 := hC1 hl0
  have hC2 := hC2 hl0
  have hC3 := hC3 hl0
  have e1 : IntKind.i64.wrap (3 * ((w.stem.length + w.loop.length : Nat) : Int)) = ((3 * (w.stem.length + w.loop.length) : Nat) : Int) := by rw [wrap64 (by omega) (by omega)]; omega
  have p1 := pick_ok hm hC n (3 * (w.stem.length + w.loop.length)) h0 h0' (by omega)
  have hk : pickF n (3 * (w.stem.length + w.loop.length)) < 3 * (w.stem.length + w.loop.length) := Nat.mod_lt _ (by omega)
  generalize pickF n (3 * (w.stem.length + w.loop.length)) = k at *
  have hk2 : k < 65536 := by omega
  have j1 := join_ok hm hC u w (by omega) (by omega) (by omega)
  have s1 := suffix_ok hm hC (join u w) (u.length : Nat) (by omega) (by omega) (by have := (join_len u w).1; omega) (by have := (join_len u w).2; omega)
  have n1 := normal_ok hm hC w (by omega) (by omega)
  have q1 := prefix_ok hm hC w k (by omega) (by omega)
  have t1 := suffix_ok hm hC w k (by omega) (by omega) (by omega) (by omega)
  have b1 := join_ok hm hC (prefixW w k) (suffix w k) (by have := prefix_len w k; omega) (by have := (suffix_len w k).1; omega) (by have := (suffix_len w k).2; omega)
  have aj : ∀ i : Nat, i < 100000 → PFun C 32 [wrdP (join u w), .lit (.int .i64 i)] (.lit (.int .u16 (atW (join u w) i))) := fun i hi => at_ok hm hC _ i (by omega) (by omega) (by have := (join_len u w).1; omega) (by have := (join_len u w).2; omega)
  have at1 : ∀ i : Nat, i < 100000 → PFun C 32 [wrdP (suffix w k), .lit (.int .i64 i)] (.lit (.int .u16 (atW (suffix w k) i))) := fun i hi => at_ok hm hC _ i (by omega) (by omega) (by have := (suffix_len w k).1; omega) (by have := (suffix_len w k).2; omega)
  have aw : ∀ i : Nat, i < 100000 → PFun C 32 [wrdP w, .lit (.int .i64 i)] (.lit (.int .u16 (atW w i))) := fun i hi => at_ok hm hC _ i (by omega) (by omega) (by omega) (by omega)
  rw [hA] at s1
  rw [hB k (by omega)] at b1
  have c1 := sameWord_ok hm hC (normal w) (normal w) (by have := normal_stem w; omega) (by have := normal_loop w; omega)
  rw [decide_eq_true ⟨rfl, rfl⟩] at c1
  have aj' : ∀ i (h : i < u.length), PFun C 32 [wrdP (join u w), .lit (.int .i64 (i : Nat))] (.lit (.int .u16 u[i])) := fun i h => by have := aj i (by omega); rwa [hC1 i h] at this
  have aj2 : ∀ i : Nat, i < 50 → PFun C 32 [wrdP (join u w), .lit (.int .i64 ((u.length + i : Nat) : Int))] (.lit (.int .u16 (atW w i))) := fun i h => by have := aj (u.length + i) (by omega); rwa [hC3 i] at this
  have at2 : ∀ i : Nat, i < 50 → PFun C 32 [wrdP (suffix w k), .lit (.int .i64 (i : Nat))] (.lit (.int .u16 (atW w ((k + i : Nat) : Int)))) := fun i h => by have := at1 i (by omega); rwa [hC2 k i] at this
  clear hA hB hC1 hC2 hC3 aj at1
  obtain ⟨at_, hat⟩ : ∃ f : Nat → Int, ∀ i : Nat, atW w (i : Nat) = f i := ⟨fun i => atW w i, fun _ => rfl⟩
  simp only [hat] at at2 aj2 aw
  clear hat
  generalize join u w = jw at *
  generalize normal w = nw at *
  generalize suffix w k = tw at *
  generalize prefixW w k = pw at *
  obtain ⟨stem, loop⟩ := w
  obtain ⟨js, jl⟩ := jw
  obtain ⟨ns, nl⟩ := nw
  obtain ⟨ts, tl⟩ := tw
  simp only [wrdP, szU] at *
  refine PTop.body (show Tryd.tab.get 7 = some Tryd.c7 from rfl) ?_
  simp only [Tryd.c7, startP, List.length_cons, List.length_nil, Nat.reduceAdd, Nat.reduceSub, List.replicate, List.cons_append, List.nil_append]
  repeat (refine PRun.wpn rfl ?_; simp only [wp, wo_nil, wo_p, wo_n, wo_call, onO_s, onN_s, ble_self, pv_t, pv_bool, put_some, pevP, pevN, getP, setP, evsP, boxP, PW.push, PW.none, Option.map_some, Nat.zero_le, true_and, Nat.zero_add, resPs, resP, tupP])
  refine .refl (PFun.to (hw) rfl (POps.wp ?_))
  simp only [wo_nil, wo_p, onO_s, pv_t, put_some, pevP, getP, setP]
  repeat (refine PRun.wpn rfl ?_; simp only [wp, wo_nil, wo_p, wo_r, wo_call, wo_g, beq_self_eq_true, onO_s, onG_t, wanted_g, pv_t, pv_int, put_some, bi_add, bi_mul, bi_eql, bi_gtr, pevP, pevR, getP, setP, evsP, look, PW.cs?, nthP, Option.map_some, Option.bind_some, Nat.zero_le, true_and, ↓reduceIte, Bool.false_eq_true, Nat.add_zero, Nat.zero_add, eqB_f hl, e0, ltB_f hbig, ltB_f hbu])
  simp only [e1]
  refine .refl (PFun.to (p1) rfl (POps.wp ?_))
  simp only [wo_nil, wo_p, onO_s, pv_t, put_some, pevP, getP, setP]
  repeat (refine PRun.wpn rfl ?_; simp only [wp, wo_p, wo_r, wo_call, onO_s, pv_t, put_some, pevP, pevR, getP, setP, evsP, look, PW.cs?, cutP, List.length_cons, List.length_nil, List.drop_zero, List.take_zero, List.take_succ_cons, Option.map_some, Option.bind_some, Nat.zero_le, true_and, ↓reduceIte, Nat.reduceAdd, Nat.zero_add, List.length_cons, List.length_nil, Nat.le_refl])
  refine .refl (PFun.to (j1) rfl (POps.wp ?_))
  simp only [wo_nil, wo_n, wo_st, onN_s, onE_s, ble0, ble_succ, pv_t, ov_nil, ov_cons, ov_nilS, put_some, put_none, pevN, pevE, getP, setP, spliceP, overP, plainP, look, PW.push, List.length_cons, List.length_nil, Option.map_some, Bool.and_true, ↓reduceIte, ltL, lt, Nat.reduceAdd, Bool.false_eq_true, Nat.zero_add, allPlain, PW.wr, setO, killO, Bool.or_self, Bool.not_true, List.length_cons, List.length_nil]
  repeat (refine PRun.wpn rfl ?_; simp only [wp, wo_p, wo_r, wo_call, onO_s, pv_t, put_some, pevP, pevR, getP, setP, evsP, look, PW.cs?, cutP, List.length_cons, List.length_nil, List.drop_zero, List.take_zero, List.take_succ_cons, Option.map_some, Option.bind_some, Nat.zero_le, true_and, ↓reduceIte, Nat.reduceAdd, Nat.zero_add, List.length_cons, List.length_nil, Nat.le_refl])
  refine .refl (PFun.to (s1) rfl (POps.wp ?_))
  simp only [wo_nil, wo_n, wo_st, onN_s, onE_s, ble0, pv_t, ov_nil, ov_cons, ov_nilS, put_some, put_none, pevN, pevE, getP, setP, spliceP, overP, plainP, look, PW.push, List.length_cons, List.length_nil, Option.map_some, Bool.and_true, ↓reduceIte, ltL, lt, Nat.reduceAdd, Bool.false_eq_true, Nat.zero_add, allPlain, PW.wr, setO, killO, Bool.or_self, Bool.not_true, List.length_cons, List.length_nil]
  repeat (refine PRun.wpn rfl ?_; simp only [wp, wo_r, wo_call, onO_s, pv_t, put_some, pevR, getP, setP, evsP, look, PW.cs?, cutP, List.length_cons, List.length_nil, List.drop_zero, List.take_zero, List.take_succ_cons, Option.map_some, Option.bind_some, Nat.zero_le, true_and, ↓reduceIte, reduceCtorEq, Nat.reduceAdd, Nat.zero_add, List.length_cons, List.length_nil, Nat.le_refl])
  refine .refl (PFun.to (n1) rfl (POps.wp ?_))
  simp only [wo_nil, wo_n, wo_st, onN_s, onE_s, ble0, pv_t, ov_nil, ov_cons, ov_nilS, put_some, put_none, pevN, pevE, getP, setP, spliceP, overP, plainP, look, PW.push, List.length_cons, List.length_nil, Option.map_some, Bool.and_true, ↓reduceIte, ltL, lt, Nat.reduceAdd, Bool.false_eq_true, Nat.zero_add, allPlain, PW.wr, setO, killO, Bool.or_self, Bool.not_true, List.length_cons, List.length_nil]
  repeat (refine PRun.wpn rfl ?_; simp only [wp, wo_r, wo_call, onO_s, pv_t, put_some, pevR, getP, setP, evsP, look, PW.cs?, cutP, List.length_cons, List.length_nil, List.drop_zero, List.take_zero, List.take_succ_cons, Option.map_some, Option.bind_some, Nat.zero_le, true_and, ↓reduceIte, Nat.reduceAdd, Nat.reduceEqDiff, Nat.zero_add, List.length_cons, List.length_nil, Nat.le_refl])
  refine .refl (PFun.to (c1) rfl (POps.wp ?_))
  simp only [wo_nil, wo_p, onO_s, pv_t, put_some, pevP, getP, setP]
  repeat (refine PRun.wpn rfl ?_; simp only [wp, wo_p, wo_r, wo_call, onO_s, pv_t, put_some, pevP, pevR, getP, setP, evsP, look, PW.cs?, cutP, List.length_cons, List.length_nil, List.drop_zero, List.take_zero, List.take_succ_cons, Option.map_some, Option.bind_some, Nat.zero_le, true_and, ↓reduceIte, reduceCtorEq, Nat.reduceAdd, Nat.zero_add, List.length_cons, List.length_nil, Nat.le_refl])
  refine .refl (PFun.to (q1) rfl (POps.wp ?_))
  simp only [wo_nil, wo_p, onO_s, pv_t, put_some, pevP, getP, setP]
  repeat (refine PRun.wpn rfl ?_; simp only [wp, wo_p, wo_r, wo_call, onO_s, pv_t, put_some, pevP, pevR, getP, setP, evsP, look, PW.cs?, cutP, List.length_cons, List.length_nil, List.drop_zero, List.take_zero, List.take_succ_cons, Option.map_some, Option.bind_some, Nat.zero_le, true_and, ↓reduceIte, reduceCtorEq, Nat.reduceAdd, Nat.zero_add, List.length_cons, List.length_nil, Nat.le_refl])
  refine .refl (PFun.to (t1) rfl (POps.wp ?_))
  simp only [wo_nil, wo_n, wo_st, onN_s, onE_s, ble0, pv_t, ov_nil, ov_cons, ov_nilS, put_some, put_none, pevN, pevE, getP, setP, spliceP, overP, plainP, look, PW.push, List.length_cons, List.length_nil, Option.map_some, Bool.and_true, ↓reduceIte, ltL, lt, Nat.reduceAdd, Bool.false_eq_true, Nat.zero_add, allPlain, PW.wr, setO, killO, Bool.or_self, Bool.not_true, List.length_cons, List.length_nil]
  repeat (refine PRun.wpn rfl ?_; simp only [wp, wo_p, wo_r, wo_call, onO_s, pv_t, put_some, pevP, pevR, getP, setP, evsP, look, PW.cs?, cutP, List.length_cons, List.length_nil, List.drop_zero, List.take_zero, List.take_succ_cons, Option.map_some, Option.bind_some, Nat.zero_le, true_and, ↓reduceIte, Nat.reduceAdd, Nat.zero_add, List.length_cons, List.length_nil, Nat.le_refl])
  refine .refl (PFun.to (b1) rfl (POps.wp ?_))
  simp only [wo_nil, wo_n, wo_st, onN_s, onE_s, ble0, pv_t, ov_nil, ov_cons, ov_nilS, put_some, put_none, pevN, pevE, getP, setP, spliceP, overP, plainP, look, PW.push, List.length_cons, List.length_nil, Option.map_some, Bool.and_true, ↓reduceIte, ltL, lt, Nat.reduceAdd, Bool.false_eq_true, Nat.zero_add, allPlain, PW.wr, setO, killO, Bool.or_self, Bool.not_true, List.length_cons, List.length_nil]
  have g1 : ¬ (65536 : Int) < (k : Nat) := by omega
  repeat (refine PRun.wpn rfl ?_; simp only [wp, wo_p, wo_r, wo_call, wo_g, beq_self_eq_true, onO_s, onG_t, wanted_g, pv_t, pv_int, put_some, bi_gtr, pevP, pevR, getP, setP, evsP, look, PW.cs?, cutP, List.length_cons, List.length_nil, List.drop_zero, List.take_zero, List.take_succ_cons, Option.map_some, Option.bind_some, Nat.zero_le, true_and, ↓reduceIte, Nat.reduceAdd, Nat.reduceEqDiff, Nat.zero_add, List.length_cons, List.length_nil, Nat.le_refl, ltB_f g1])
  refine .refl (PFun.to (c1) rfl (POps.wp ?_))
  simp only [wo_nil, wo_p, onO_s, pv_t, put_some, pevP, getP, setP]
  repeat (refine PRun.wpn rfl ?_; simp only [wp, wo_nil, wo_p, onO_s, pv_int, put_some, pevP, setP, reduceCtorEq])
  refine PRun.cut (fun x t π => x = .exit 0 ∧ t = (.junk :: .sz (L16 u) u.length :: .junk :: .ptr 0 0 :: .junk :: .junk :: .lit (.bool false) :: .lit (.bool true) :: .lit (.int .i64 (k : Nat)) :: .ptr 1 0 :: .junk :: .junk :: .lit (.bool true) :: .junk :: .ptr 4 0 :: .junk :: .lit (.bool true) :: .junk :: .junk :: .junk :: .junk :: .junk :: .junk :: .junk :: .junk :: .junk :: .junk :: .junk :: .junk :: .junk :: .junk :: .junk :: .junk :: .junk :: .junk :: .junk :: .junk :: .junk :: .junk :: .junk :: .junk :: .junk :: .junk :: .junk :: .junk :: .junk :: .junk :: .junk :: .junk :: .junk :: .junk :: .junk :: .junk :: .junk :: .junk :: .junk :: .junk :: .junk :: .junk :: .junk :: .junk :: .junk :: .junk :: .junk :: .junk :: .junk :: .junk :: .junk :: .junk :: .junk :: .junk :: .junk :: .junk :: .junk :: .junk :: .junk :: .junk :: .junk :: .junk :: .junk :: .junk :: .junk :: .junk :: .junk :: .junk :: .junk :: .junk :: .junk :: .junk :: .junk :: .junk :: .junk :: .junk :: .junk :: .junk :: .junk :: .junk :: .junk :: .junk :: .junk :: .junk :: .junk :: .junk :: .junk :: .junk :: .junk :: .junk :: .junk :: .junk :: .junk :: .junk :: .junk :: .junk :: .junk :: .junk :: .junk :: .junk :: .junk :: .junk :: .junk :: .junk :: .junk :: .junk :: .junk :: .junk :: .junk :: .junk :: .junk :: []) ∧ π = ⟨6, [(5, .cells [.sz (L16 ns) ns.length, .sz (L16 nl) nl.length] 25 2 true false []), (4, .cells [.sz (L16 ts) ts.length, .sz (L16 tl) tl.length] 25 2 true false []), (3, .cells [.sz (L16 ns) ns.length, .sz (L16 nl) nl.length] 25 2 true false []), (2, .cells [.sz (L16 ns) ns.length, .sz (L16 nl) nl.length] 25 2 true false []), (1, .cells [.sz (L16 js) js.length, .sz (L16 jl) jl.length] 25 2 true false []), (0, .cells [.sz (L16 stem) stem.length, .sz (L16 loop) loop.length] 25 2 true false [])]⟩) ?_ ?_
  · refine PRun.gh (Gh.mask (false :: true :: false :: true :: false :: false :: true :: true :: true :: true :: false :: false :: true :: false :: true :: false :: true :: true :: false :: false :: false :: false :: false :: false :: false :: false :: false :: false :: false :: false :: false :: false :: false :: false :: false :: false :: false :: false :: false :: false :: false :: false :: false :: false :: false :: false :: false :: false :: false :: false :: false :: false :: false :: false :: false :: false :: false :: false :: false :: false :: false :: false :: false :: false :: false :: false :: false :: false :: false :: false :: false :: false :: false :: false :: false :: false :: false :: false :: false :: false :: false :: false :: false :: false :: false :: false :: false :: false :: false :: false :: false :: false :: false :: false :: false :: false :: false :: false :: false :: false :: false :: false :: false :: false :: false :: false :: false :: false :: false :: false :: false :: false :: false :: false :: false :: false :: false :: false :: false :: false :: false :: false :: false :: false :: false :: false :: false :: false :: []) ?_)
    refine PRun.loopG (fun m t π => ∃ i : Nat, t = (.junk :: .sz (L16 u) u.length :: .junk :: .ptr 0 0 :: .junk :: .junk :: .lit (.bool false) :: .lit (.bool true) :: .lit (.int .i64 (k : Nat)) :: .ptr 1 0 :: .junk :: .junk :: .lit (.bool true) :: .junk :: .ptr 4 0 :: .junk :: .lit (.bool true) :: .lit (.int .i64 (i : Nat)) :: .junk :: .junk :: .junk :: .junk :: .junk :: .junk :: .junk :: .junk :: .junk :: .junk :: .junk :: .junk :: .junk :: .junk :: .junk :: .junk :: .junk :: .junk :: .junk :: .junk :: .junk :: .junk :: .junk :: .junk :: .junk :: .junk :: .junk :: .junk :: .junk :: .junk :: .junk :: .junk :: .junk :: .junk :: .junk :: .junk :: .junk :: .junk :: .junk :: .junk :: .junk :: .junk :: .junk :: .junk :: .junk :: .junk :: .junk :: .junk :: .junk :: .junk :: .junk :: .junk :: .junk :: .junk :: .junk :: .junk :: .junk :: .junk :: .junk :: .junk :: .junk :: .junk :: .junk :: .junk :: .junk :: .junk :: .junk :: .junk :: .junk :: .junk :: .junk :: .junk :: .junk :: .junk :: .junk :: .junk :: .junk :: .junk :: .junk :: .junk :: .junk :: .junk :: .junk :: .junk :: .junk :: .junk :: .junk :: .junk :: .junk :: .junk :: .junk :: .junk :: .junk :: .junk :: .junk :: .junk :: .junk :: .junk :: .junk :: .junk :: .junk :: .junk :: .junk :: .junk :: .junk :: .junk :: .junk :: .junk :: .junk :: .junk :: []) ∧ i ≤ u.length ∧ m = u.length - i ∧ π = ⟨6, [(5, .cells [.sz (L16 ns) ns.length, .sz (L16 nl) nl.length] 25 2 true false []), (4, .cells [.sz (L16 ts) ts.length, .sz (L16 tl) tl.length] 25 2 true false []), (3, .cells [.sz (L16 ns) ns.length, .sz (L16 nl) nl.length] 25 2 true false []), (2, .cells [.sz (L16 ns) ns.length, .sz (L16 nl) nl.length] 25 2 true false []), (1, .cells [.sz (L16 js) js.length, .sz (L16 jl) jl.length] 25 2 true false []), (0, .cells [.sz (L16 stem) stem.length, .sz (L16 loop) loop.length] 25 2 true false [])]⟩) ?_ u.length _ _ ⟨0, rfl, by omega, by omega, rfl⟩
    rintro m t π ⟨i, rfl, hi, rfl, rfl⟩
    by_cases hu : ((i : Nat) : Int) < (u.length : Nat)
    · by_cases h2000 : ((i : Nat) : Int) < 2000
      · have hu' : i < u.length := by omega
        repeat (refine PRun.wpn rfl ?_; simp only [wp, wo_nil, wo_p, wo_g, beq_self_eq_true, onO_s, onG_t, wanted_g, pv_t, pv_int, put_some, bi_lss, pevP, getP, setP, Option.map_some, ↓reduceIte, ltB_t hu, ltB_t h2000])
        refine PDraw.stage (Nat.zero_le _) rfl ?_
        try dsimp only
        simp only [onX_s, onXI_s, rdX_e, ltN, ltD_s, onD_s, wx_nil, wx_cons, wx_p, wx_r, wd_cons, wd_e, pv_t, put_some, pevP, pevR, getP, setP, nthO, look, PW.cs?, cutP, baseP, ROp.base, List.length_cons, List.length_nil, List.drop_zero, List.take_zero, List.take_succ_cons, Option.map_some, Option.bind_some, Nat.mul_one, Int.natCast_nonneg, Int.toNat_natCast, and_self, Bool.and_true, ↓reduceIte, Nat.reduceAdd, Nat.reduceEqDiff, Option.isSome_some, Nat.zero_add, List.length_cons, List.length_nil, Nat.le_refl, hu, L16_drop hu']
        refine PDE.pure (aj' i hu') rfl ?_
        refine PDraw.last (Nat.zero_le _) rfl ?_
        try dsimp only
        simp only [onX_s, onXI_s, wx_nil, wx_cons, wx_p, pv_t, put_some, bi_neq, pevP, getP, setP, nthO, Option.map_some, neB_f rfl]
        repeat (refine PRun.wpn rfl ?_; simp only [wp, wo_nil, wo_p, onO_s, pv_t, pv_int, put_some, bi_add, pevP, getP, setP, Option.map_some, ↓reduceIte, Bool.false_eq_true])
        rw [wrap64 (by omega) (by omega)]
        refine Gh.mask (false :: true :: false :: true :: false :: false :: true :: true :: true :: true :: false :: false :: true :: false :: true :: false :: true :: true :: false :: false :: false :: false :: false :: false :: false :: false :: false :: false :: false :: false :: false :: false :: false :: false :: false :: false :: false :: false :: false :: false :: false :: false :: false :: false :: false :: false :: false :: false :: false :: false :: false :: false :: false :: false :: false :: false :: false :: false :: false :: false :: false :: false :: false :: false :: false :: false :: false :: false :: false :: false :: false :: false :: false :: false :: false :: false :: false :: false :: false :: false :: false :: false :: false :: false :: false :: false :: false :: false :: false :: false :: false :: false :: false :: false :: false :: false :: false :: false :: false :: false :: false :: false :: false :: false :: false :: false :: false :: false :: false :: false :: false :: false :: false :: false :: false :: false :: false :: false :: false :: false :: false :: false :: false :: false :: false :: false :: false :: false :: []) ?_
        exact ⟨u.length - (i + 1), by omega, i + 1, rfl, by omega, by omega, rfl⟩
      · repeat (refine PRun.wpn rfl ?_; simp only [wp, wo_nil, wo_p, wo_g, beq_self_eq_true, onO_s, onG_t, wanted_g, pv_t, pv_int, put_some, bi_lss, pevP, getP, setP, Option.map_some, true_and, ↓reduceIte, Bool.false_eq_true, ltB_t hu, ltB_f h2000])
        refine Gh.mask (false :: true :: false :: true :: false :: false :: true :: true :: true :: true :: false :: false :: true :: false :: true :: false :: true :: false :: false :: false :: false :: false :: false :: false :: false :: false :: false :: false :: false :: false :: false :: false :: false :: false :: false :: false :: false :: false :: false :: false :: false :: false :: false :: false :: false :: false :: false :: false :: false :: false :: false :: false :: false :: false :: false :: false :: false :: false :: false :: false :: false :: false :: false :: false :: false :: false :: false :: false :: false :: false :: false :: false :: false :: false :: false :: false :: false :: false :: false :: false :: false :: false :: false :: false :: false :: false :: false :: false :: false :: false :: false :: false :: false :: false :: false :: false :: false :: false :: false :: false :: false :: false :: false :: false :: false :: false :: false :: false :: false :: false :: false :: false :: false :: false :: false :: false :: false :: false :: false :: false :: false :: false :: false :: false :: false :: false :: false :: false :: []) ?_
        exact ⟨rfl, rfl⟩
    · repeat (refine PRun.wpn rfl ?_; simp only [wp, wo_nil, wo_p, wo_g, onO_s, onG_f, wanted_g, b_ft, pv_t, pv_bool, put_some, bi_lss, pevP, getP, setP, Option.map_some, true_and, ↓reduceIte, Bool.false_eq_true, ltB_f hu])
      refine Gh.mask (false :: true :: false :: true :: false :: false :: true :: true :: true :: true :: false :: false :: true :: false :: true :: false :: true :: false :: false :: false :: false :: false :: false :: false :: false :: false :: false :: false :: false :: false :: false :: false :: false :: false :: false :: false :: false :: false :: false :: false :: false :: false :: false :: false :: false :: false :: false :: false :: false :: false :: false :: false :: false :: false :: false :: false :: false :: false :: false :: false :: false :: false :: false :: false :: false :: false :: false :: false :: false :: false :: false :: false :: false :: false :: false :: false :: false :: false :: false :: false :: false :: false :: false :: false :: false :: false :: false :: false :: false :: false :: false :: false :: false :: false :: false :: false :: false :: false :: false :: false :: false :: false :: false :: false :: false :: false :: false :: false :: false :: false :: false :: false :: false :: false :: false :: false :: false :: false :: false :: false :: false :: false :: false :: false :: false :: false :: false :: false :: []) ?_
      exact ⟨rfl, rfl⟩
  · rintro x t π ⟨rfl, rfl, rfl⟩
    repeat (refine PRun.wpn rfl ?_; simp only [wp, wo_nil, wo_p, onO_s, pv_int, put_some, pevP, setP, reduceCtorEq])
    refine PRun.cut (fun x t π => x = .exit 2 ∧ t = (.junk :: .sz (L16 u) u.length :: .junk :: .ptr 0 0 :: .junk :: .junk :: .lit (.bool false) :: .lit (.bool true) :: .lit (.int .i64 (k : Nat)) :: .ptr 1 0 :: .junk :: .junk :: .lit (.bool true) :: .junk :: .ptr 4 0 :: .junk :: .lit (.bool true) :: .junk :: .junk :: .junk :: .junk :: .junk :: .junk :: .junk :: .junk :: .junk :: .junk :: .junk :: .junk :: .junk :: .junk :: .junk :: .junk :: .junk :: .junk :: .junk :: .junk :: .junk :: .junk :: .junk :: .junk :: .junk :: .junk :: .junk :: .junk :: .junk :: .junk :: .junk :: .junk :: .junk :: .junk :: .junk :: .junk :: .junk :: .junk :: .junk :: .junk :: .junk :: .junk :: .junk :: .junk :: .junk :: .junk :: .junk :: .junk :: .junk :: .junk :: .junk :: .junk :: .junk :: .junk :: .junk :: .junk :: .junk :: .junk :: .junk :: .junk :: .junk :: .junk :: .junk :: .junk :: .junk :: .junk :: .junk :: .junk :: .junk :: .junk :: .junk :: .junk :: .junk :: .junk :: .junk :: .junk :: .junk :: .junk :: .junk :: .junk :: .junk :: .junk :: .junk :: .junk :: .junk :: .junk :: .junk :: .junk :: .junk :: .junk :: .junk :: .junk :: .junk :: .junk :: .junk :: .junk :: .junk :: .junk :: .junk :: .junk :: .junk :: .junk :: .junk :: .junk :: .junk :: .junk :: .junk :: .junk :: .junk :: .junk :: .junk :: []) ∧ π = ⟨6, [(5, .cells [.sz (L16 ns) ns.length, .sz (L16 nl) nl.length] 25 2 true false []), (4, .cells [.sz (L16 ts) ts.length, .sz (L16 tl) tl.length] 25 2 true false []), (3, .cells [.sz (L16 ns) ns.length, .sz (L16 nl) nl.length] 25 2 true false []), (2, .cells [.sz (L16 ns) ns.length, .sz (L16 nl) nl.length] 25 2 true false []), (1, .cells [.sz (L16 js) js.length, .sz (L16 jl) jl.length] 25 2 true false []), (0, .cells [.sz (L16 stem) stem.length, .sz (L16 loop) loop.length] 25 2 true false [])]⟩) ?_ ?_
    · refine PRun.gh (Gh.mask (false :: true :: false :: true :: false :: false :: true :: true :: true :: true :: false :: false :: true :: false :: true :: false :: true :: false :: true :: false :: false :: false :: false :: false :: false :: false :: false :: false :: false :: false :: false :: false :: false :: false :: false :: false :: false :: false :: false :: false :: false :: false :: false :: false :: false :: false :: false :: false :: false :: false :: false :: false :: false :: false :: false :: false :: false :: false :: false :: false :: false :: false :: false :: false :: false :: false :: false :: false :: false :: false :: false :: false :: false :: false :: false :: false :: false :: false :: false :: false :: false :: false :: false :: false :: false :: false :: false :: false :: false :: false :: false :: false :: false :: false :: false :: false :: false :: false :: false :: false :: false :: false :: false :: false :: false :: false :: false :: false :: false :: false :: false :: false :: false :: false :: false :: false :: false :: false :: false :: false :: false :: false :: false :: false :: false :: false :: false :: false :: []) ?_)
      refine PRun.loopG (fun m t π => ∃ i : Nat, t = (.junk :: .sz (L16 u) u.length :: .junk :: .ptr 0 0 :: .junk :: .junk :: .lit (.bool false) :: .lit (.bool true) :: .lit (.int .i64 (k : Nat)) :: .ptr 1 0 :: .junk :: .junk :: .lit (.bool true) :: .junk :: .ptr 4 0 :: .junk :: .lit (.bool true) :: .junk :: .lit (.int .i64 (i : Nat)) :: .junk :: .junk :: .junk :: .junk :: .junk :: .junk :: .junk :: .junk :: .junk :: .junk :: .junk :: .junk :: .junk :: .junk :: .junk :: .junk :: .junk :: .junk :: .junk :: .junk :: .junk :: .junk :: .junk :: .junk :: .junk :: .junk :: .junk :: .junk :: .junk :: .junk :: .junk :: .junk :: .junk :: .junk :: .junk :: .junk :: .junk :: .junk :: .junk :: .junk :: .junk :: .junk :: .junk :: .junk :: .junk :: .junk :: .junk :: .junk :: .junk :: .junk :: .junk :: .junk :: .junk :: .junk :: .junk :: .junk :: .junk :: .junk :: .junk :: .junk :: .junk :: .junk :: .junk :: .junk :: .junk :: .junk :: .junk :: .junk :: .junk :: .junk :: .junk :: .junk :: .junk :: .junk :: .junk :: .junk :: .junk :: .junk :: .junk :: .junk :: .junk :: .junk :: .junk :: .junk :: .junk :: .junk :: .junk :: .junk :: .junk :: .junk :: .junk :: .junk :: .junk :: .junk :: .junk :: .junk :: .junk :: .junk :: .junk :: .junk :: .junk :: .junk :: .junk :: .junk :: .junk :: .junk :: .junk :: .junk :: .junk :: []) ∧ i ≤ 50 ∧ m = 50 - i ∧ π = ⟨6, [(5, .cells [.sz (L16 ns) ns.length, .sz (L16 nl) nl.length] 25 2 true false []), (4, .cells [.sz (L16 ts) ts.length, .sz (L16 tl) tl.length] 25 2 true false []), (3, .cells [.sz (L16 ns) ns.length, .sz (L16 nl) nl.length] 25 2 true false []), (2, .cells [.sz (L16 ns) ns.length, .sz (L16 nl) nl.length] 25 2 true false []), (1, .cells [.sz (L16 js) js.length, .sz (L16 jl) jl.length] 25 2 true false []), (0, .cells [.sz (L16 stem) stem.length, .sz (L16 loop) loop.length] 25 2 true false [])]⟩) ?_ 50 _ _ ⟨0, rfl, by omega, by omega, rfl⟩
      rintro m t π ⟨i, rfl, hi, rfl, rfl⟩
      by_cases h50 : ((i : Nat) : Int) < 50
      · have hi' : i < 50 := by omega
        have f1 : IntKind.i64.wrap ((k : Nat) + (i : Nat)) = ((k + i : Nat) : Int) := by rw [wrap64 (by omega) (by omega)]; omega
        have f2 : IntKind.i64.wrap ((u.length : Nat) + (i : Nat)) = ((u.length + i : Nat) : Int) := by rw [wrap64 (by omega) (by omega)]; omega
        repeat (refine PRun.wpn rfl ?_; simp only [wp, wo_nil, wo_p, onO_s, pv_t, pv_int, put_some, bi_lss, pevP, getP, setP, Option.map_some, ↓reduceIte, ltB_iff, h50])
        refine PDraw.stage (Nat.zero_le _) rfl ?_
        try dsimp only
        simp only [onX_s, onXI_s, rdX_e, ltN, ltD_s, onD_s, wx_nil, wx_cons, wx_p, wx_r, wd_cons, wd_e, pv_t, put_some, bi_add, pevP, pevR, getP, setP, nthO, look, PW.cs?, cutP, baseP, ROp.base, List.length_cons, List.length_nil, List.drop_zero, List.take_zero, List.take_succ_cons, Option.map_some, Option.bind_some, Bool.and_true, ↓reduceIte, reduceCtorEq, Nat.reduceAdd, Nat.reduceEqDiff, Option.isSome_some, Nat.zero_add, List.length_cons, List.length_nil, Nat.le_refl, f1]
        refine PDE.pure (at2 i hi') rfl ?_
        refine PDraw.stage (Nat.zero_le _) rfl ?_
        try dsimp only
        simp only [onD_s, wx_nil, wd_cons, wd_e, put_some, setP, nthO]
        refine PDE.pure (aw (k + i) (by omega)) rfl ?_
        refine PDraw.stage (Nat.zero_le _) rfl ?_
        try dsimp only
        simp only [beq_self_eq_true, wanted_g, onX_s, onXG_t, onXI_s, rdX_e, ltN, ltD_s, onD_s, onDG_t, wx_nil, wx_cons, wx_p, wx_r, wx_g, wd_cons, wd_e, wd_g, pv_t, put_some, bi_add, bi_neq, pevP, pevR, getP, setP, nthO, look, PW.cs?, cutP, baseP, ROp.base, List.length_cons, List.length_nil, List.drop_zero, List.take_zero, List.take_succ_cons, Option.map_some, Option.bind_some, Bool.and_true, ↓reduceIte, reduceCtorEq, Nat.reduceAdd, Nat.reduceEqDiff, Option.isSome_some, Nat.zero_add, List.length_cons, List.length_nil, Nat.le_refl, neB_f rfl, f2]
        refine PDE.pure (aj2 i hi') rfl ?_
        refine PDraw.stage (Nat.zero_le _) rfl ?_
        try dsimp only
        simp only [beq_self_eq_true, wanted_g, onD_s, onDG_t, wx_nil, wd_cons, wd_e, wd_g, put_some, getP, setP, nthO]
        refine PDE.pure (aw i (by omega)) rfl ?_
        refine PDraw.last (Nat.zero_le _) rfl ?_
        try dsimp only
        simp only [beq_self_eq_true, wanted_g, onX_s, onXG_t, onXI_s, wx_nil, wx_cons, wx_p, wx_g, pv_t, put_some, bi_neq, pevP, getP, setP, nthO, Option.map_some, neB_f rfl]
        repeat (refine PRun.wpn rfl ?_; simp only [wp, wo_nil, wo_p, onO_s, pv_t, pv_int, put_some, bi_add, pevP, getP, setP, Option.map_some, ↓reduceIte, Bool.false_eq_true])
        rw [wrap64 (by omega) (by omega)]
        refine Gh.mask (false :: true :: false :: true :: false :: false :: true :: true :: true :: true :: false :: false :: true :: false :: true :: false :: true :: false :: true :: false :: false :: false :: false :: false :: false :: false :: false :: false :: false :: false :: false :: false :: false :: false :: false :: false :: false :: false :: false :: false :: false :: false :: false :: false :: false :: false :: false :: false :: false :: false :: false :: false :: false :: false :: false :: false :: false :: false :: false :: false :: false :: false :: false :: false :: false :: false :: false :: false :: false :: false :: false :: false :: false :: false :: false :: false :: false :: false :: false :: false :: false :: false :: false :: false :: false :: false :: false :: false :: false :: false :: false :: false :: false :: false :: false :: false :: false :: false :: false :: false :: false :: false :: false :: false :: false :: false :: false :: false :: false :: false :: false :: false :: false :: false :: false :: false :: false :: false :: false :: false :: false :: false :: false :: false :: false :: false :: false :: false :: []) ?_
        exact ⟨50 - (i + 1), by omega, i + 1, rfl, by omega, by omega, rfl⟩
      · repeat (refine PRun.wpn rfl ?_; simp only [wp, wo_nil, wo_p, onO_s, pv_t, pv_int, put_some, bi_lss, pevP, getP, setP, Option.map_some, true_and, ↓reduceIte, ltB_iff, h50])
        refine Gh.mask (false :: true :: false :: true :: false :: false :: true :: true :: true :: true :: false :: false :: true :: false :: true :: false :: true :: false :: false :: false :: false :: false :: false :: false :: false :: false :: false :: false :: false :: false :: false :: false :: false :: false :: false :: false :: false :: false :: false :: false :: false :: false :: false :: false :: false :: false :: false :: false :: false :: false :: false :: false :: false :: false :: false :: false :: false :: false :: false :: false :: false :: false :: false :: false :: false :: false :: false :: false :: false :: false :: false :: false :: false :: false :: false :: false :: false :: false :: false :: false :: false :: false :: false :: false :: false :: false :: false :: false :: false :: false :: false :: false :: false :: false :: false :: false :: false :: false :: false :: false :: false :: false :: false :: false :: false :: false :: false :: false :: false :: false :: false :: false :: false :: false :: false :: false :: false :: false :: false :: false :: false :: false :: false :: false :: false :: false :: false :: false :: []) ?_
        exact ⟨rfl, rfl⟩
    · rintro x t π ⟨rfl, rfl, rfl⟩
      repeat (refine PRun.wpn rfl ?_; simp only [wp, wo_nil, wo_p, wo_g, beq_self_eq_true, onO_s, onG_t, wanted_g, pv_t, put_some, pevP, getP, setP, or_true, true_and, reduceCtorEq])
      exact .refl ⟨_, rfl, .refl _⟩
end
end Go.Proofs.YtkldgoapompinaaDoor.Ai

namespace Go.Proofs.YtkldgoapompinaaDoor.Ai
set_option linter.unusedSimpArgs false
set_option linter.unusedVariables false

/-! ### infinite words that repeat: the plain laws -/
/-- the letter at a place -/
def dn (w : Wd) (i : Nat) : Int := if i < w.stem.length then w.stem.getD i 0 else w.loop.getD ((i - w.stem.length) % w.loop.length) 0
def Per (l : List Int) (q : Nat) : Prop := l.length % q = 0 ∧ l.drop q = l.take (l.length - q)
theorem Per.self (l : List Int) : Per l l.length := ⟨Nat.mod_self _, by simp⟩
theorem perFrom_spec (l : List Int) : ∀ k n, n + k = l.length → Per l (perFrom l n k) ∧ ∀ q, n ≤ q → q < perFrom l n k → ¬ Per l q
  | 0, n, h => by
    simp only [perFrom]
    exact ⟨Per.self l, fun q h1 h2 => by omega⟩
  | k + 1, n, h => by
    simp only [perFrom]
    split
    · rename_i hc
      exact ⟨hc, fun q h1 h2 => by omega⟩
    · rename_i hc
      obtain ⟨h1, h2⟩ := perFrom_spec l k (n + 1) (by omega)
      refine ⟨h1, fun q h3 h4 => ?_⟩
      by_cases hq : q = n
      · subst hq; exact hc
      · exact h2 q (by omega) h4
theorem per_spec (l : List Int) (hl : 0 < l.length) : Per l (per l) ∧ ∀ q, 0 < q → q < per l → ¬ Per l q := perFrom_spec l (l.length - 1) 1 (by omega)
theorem getD_drop (l : List Int) (q i : Nat) : (l.drop q).getD i 0 = l.getD (q + i) 0 := by simp [List.getD]
theorem getD_take (l : List Int) (n i : Nat) (h : i < n) : (l.take n).getD i 0 = l.getD i 0 := by simp [List.getD, List.getElem?_take, h]
theorem getD_left (l m : List Int) (i : Nat) (h : i < l.length) : (l ++ m).getD i 0 = l.getD i 0 := by simp [List.getD, List.getElem?_append_left h]
theorem getD_right (l m : List Int) (i : Nat) (h : l.length ≤ i) : (l ++ m).getD i 0 = m.getD (i - l.length) 0 := by simp [List.getD, List.getElem?_append_right h]
theorem ext_getD {l m : List Int} (h1 : l.length = m.length) (h2 : ∀ i, i < l.length → l.getD i 0 = m.getD i 0) : l = m := by
  apply List.ext_getElem h1
  intro i ha hb
  have := h2 i ha
  simpa [List.getD, List.getElem?_eq_getElem ha, List.getElem?_eq_getElem hb] using this
theorem Per.mod {l : List Int} {q : Nat} (h : Per l q) (hq : 0 < q) : ∀ i, i < l.length → l.getD i 0 = l.getD (i % q) 0 := by
  intro i
  induction i using Nat.strongRecOn with
  | ind i ih =>
    intro hi
    by_cases hiq : i < q
    · rw [Nat.mod_eq_of_lt hiq]
    · have h1 : l.getD i 0 = l.getD (i - q) 0 := by
        have e1 := getD_drop l q (i - q)
        rw [show q + (i - q) = i by omega] at e1
        rw [← e1, h.2, getD_take _ _ _ (by omega)]
      rw [h1, ih (i - q) (by omega) (by omega)]
      congr 1
      rw [Nat.mod_eq_sub_mod (by omega : i ≥ q)]
theorem Per.all {l : List Int} {q : Nat} (h : Per l q) (hq : 0 < q) (hl : 0 < l.length) (i : Nat) : l.getD (i % l.length) 0 = l.getD (i % q) 0 := by
  rw [h.mod hq _ (Nat.mod_lt _ hl), Nat.mod_mod_of_dvd _ (Nat.dvd_of_mod_eq_zero h.1)]
theorem Per.of {l : List Int} {q : Nat} (hq : 0 < q) (hql : q ≤ l.length) (hd : l.length % q = 0) (h : ∀ i, l.getD ((i + q) % l.length) 0 = l.getD (i % l.length) 0) : Per l q := by
  refine ⟨hd, ?_⟩
  apply ext_getD
  · simp
  · intro i hi
    simp at hi
    rw [getD_drop, getD_take _ _ _ (by omega)]
    have := h i
    rw [Nat.mod_eq_of_lt (by omega), Nat.mod_eq_of_lt (by omega)] at this
    rw [Nat.add_comm]; exact this

/-! ### the normal form is the only one -/
def Ev (W : Nat → Int) (s p : Nat) : Prop := ∀ j, s ≤ j → W (j + p) = W j
theorem Ev.mul {W : Nat → Int} {s p : Nat} (h : Ev W s p) : ∀ k j, s ≤ j → W (j + p * k) = W j
  | 0, j, _ => by simp
  | k + 1, j, hj => by
    rw [show j + p * (k + 1) = (j + p * k) + p by rw [Nat.mul_succ]; omega, h _ (by omega), h.mul k j hj]
theorem Ev.gcd {W : Nat → Int} {s : Nat} (a b : Nat) : Ev W s a → Ev W s b → Ev W s (Nat.gcd a b) := by
  induction a, b using Nat.gcd.induction with
  | H0 n => intro _ h; simpa using h
  | H1 m n hm ih =>
    intro h1 h2
    rw [Nat.gcd_rec]
    refine ih (fun j hj => ?_) h1
    have := h1.mul (n / m) (j + n % m) (by omega)
    rw [← this, Nat.add_assoc, Nat.mod_add_div]
    exact h2 j hj
/-- w is the normal form of the infinite word W -/
structure NForm (w : Wd) (W : Nat → Int) : Prop where
  pos : 0 < w.loop.length
  den : ∀ i, dn w i = W i
  prim : ∀ q, 0 < q → q < w.loop.length → w.loop.length % q = 0 → ¬ Ev W w.stem.length q
  norm : w.stem.length = 0 ∨ W (w.stem.length - 1) ≠ W (w.stem.length - 1 + w.loop.length)
theorem NForm.ev {w : Wd} {W : Nat → Int} (h : NForm w W) : Ev W w.stem.length w.loop.length := by
  intro j hj
  rw [← h.den, ← h.den]
  simp only [dn]
  rw [if_neg (by omega), if_neg (by omega)]
  congr 1
  rw [show j + w.loop.length - w.stem.length = (j - w.stem.length) + w.loop.length by omega, Nat.add_mod_right]
theorem NForm.prim_gcd {a : Wd} {W : Nat → Int} (h : NForm a W) {s q : Nat} (h2 : Ev W s q) (hq : 0 < q) : a.loop.length ∣ q := by
  have h1 := h.ev
  have m1 : Ev W (max a.stem.length s) a.loop.length := fun j hj => h1 j (by omega)
  have m2 : Ev W (max a.stem.length s) q := fun j hj => h2 j (by omega)
  have hg := Ev.gcd _ _ m1 m2
  have hgd : Nat.gcd a.loop.length q ∣ a.loop.length := Nat.gcd_dvd_left _ _
  have hg0 : 0 < Nat.gcd a.loop.length q := Nat.gcd_pos_of_pos_left _ h.pos
  have hle : Nat.gcd a.loop.length q ≤ a.loop.length := Nat.le_of_dvd h.pos hgd
  have hE : Ev W a.stem.length (Nat.gcd a.loop.length q) := by
    intro j hj
    have e1 := h1.mul (max a.stem.length s) (j + Nat.gcd a.loop.length q) (by omega)
    have e2 := h1.mul (max a.stem.length s) j hj
    have hbig : max a.stem.length s ≤ a.loop.length * max a.stem.length s := Nat.le_mul_of_pos_left _ h.pos
    rw [← e1, ← e2, show j + Nat.gcd a.loop.length q + a.loop.length * max a.stem.length s = (j + a.loop.length * max a.stem.length s) + Nat.gcd a.loop.length q by omega]
    exact hg _ (by omega)
  by_cases hlt : Nat.gcd a.loop.length q < a.loop.length
  · exact absurd hE (h.prim _ hg0 hlt (Nat.mod_eq_zero_of_dvd hgd))
  · have : Nat.gcd a.loop.length q = a.loop.length := by omega
    rw [← this]; exact Nat.gcd_dvd_right _ _
theorem NForm.unique {a b : Wd} {W : Nat → Int} (ha : NForm a W) (hb : NForm b W) : a = b := by
  have hp : a.loop.length = b.loop.length := Nat.dvd_antisymm (ha.prim_gcd hb.ev hb.pos) (hb.prim_gcd ha.ev ha.pos)
  have hs : a.stem.length = b.stem.length := by
    rcases Nat.lt_trichotomy a.stem.length b.stem.length with h | h | h
    · rcases hb.norm with h0 | h0
      · omega
      · exact absurd (by rw [← hp]; exact (ha.ev _ (by omega)).symm) h0
    · exact h
    · rcases ha.norm with h0 | h0
      · omega
      · exact absurd (by rw [hp]; exact (hb.ev _ (by omega)).symm) h0
  obtain ⟨s, l⟩ := a
  obtain ⟨s', l'⟩ := b
  simp only at hp hs
  have e1 : s = s' := ext_getD hs fun i hi => by
    have h1 := ha.den i
    have h2 := hb.den i
    simp only [dn] at h1 h2
    rw [if_pos hi] at h1
    rw [if_pos (by omega)] at h2
    rw [h1, h2]
  have e2 : l = l' := ext_getD hp fun i hi => by
    have h1 := ha.den (s.length + i)
    have h2 := hb.den (s.length + i)
    simp only [dn] at h1 h2
    rw [if_neg (by omega), show s.length + i - s.length = i by omega, Nat.mod_eq_of_lt hi] at h1
    rw [if_neg (by omega), show s.length + i - s'.length = i by omega, Nat.mod_eq_of_lt (by omega)] at h2
    rw [h1, h2]
  rw [e1, e2]

/-- L: the row of p letters, again and again; the stem's letters, then the row from its place u on -/
theorem roll_spec (stem loop : List Int) (p : Nat) (hp : 0 < p) (hpl : p ≤ loop.length) (W : Nat → Int) (hst : ∀ j, j < stem.length → W j = stem.getD j 0) : ∀ s t, t < p → s ≤ stem.length → (∀ j, s ≤ j → W j = loop.getD ((t + (j - s)) % p) 0) →
    ∃ s' u, rollF stem loop p s t = (s', u) ∧ s' ≤ s ∧ u < p ∧ (∀ j, s' ≤ j → W j = loop.getD ((u + (j - s')) % p) 0) ∧ (s' = 0 ∨ W (s' - 1) ≠ W (s' - 1 + p))
  | 0, t, ht, _, h => ⟨0, t, rfl, Nat.le_refl _, ht, h, .inl rfl⟩
  | s + 1, t, ht, hs, h => by
    have hlt : (t + p - 1) % p < p := Nat.mod_lt _ hp
    have e1 : stem[s]? = some (stem.getD s 0) := by simp [List.getD, List.getElem?_eq_getElem (show s < stem.length by omega)]
    have e2 : loop[(t + p - 1) % p]? = some (loop.getD ((t + p - 1) % p) 0) := by simp [List.getD, List.getElem?_eq_getElem (show (t + p - 1) % p < loop.length by omega)]
    have hback : ∀ k, (((t + p - 1) % p) + (k + 1)) % p = (t + k) % p := by
      intro k
      rw [← Nat.add_mod_left p (t + k), Nat.mod_add_mod]
      congr 1; omega
    simp only [rollF, e1, e2, Option.some.injEq]
    split
    · rename_i he
      obtain ⟨s', u, h1, h2, h3, h4, h5⟩ := roll_spec stem loop p hp hpl W hst s ((t + p - 1) % p) hlt (by omega) (fun j hj => by
        by_cases hjs : j = s
        · subst hjs
          rw [hst j (by omega), he, Nat.sub_self, Nat.add_zero, Nat.mod_mod]
        · rw [h j (by omega)]
          obtain ⟨k, hk⟩ : ∃ k, j - s = k + 1 := ⟨j - s - 1, by omega⟩
          rw [hk, hback k, show j - (s + 1) = k by omega])
      exact ⟨s', u, h1, by omega, h3, h4, h5⟩
    · rename_i he
      refine ⟨s + 1, t, rfl, Nat.le_refl _, ht, h, .inr ?_⟩
      rw [show s + 1 - 1 = s by omega, hst s (by omega), h (s + p) (by omega)]
      intro e
      apply he
      rw [e]
      congr 2
      congr 1
      omega
theorem normal_nf (w : Wd) (hl : 0 < w.loop.length) : NForm (normal w) (dn w) := by
  obtain ⟨stem, loop⟩ := w
  simp only at hl
  have p0 := per_pos loop hl
  have p1 := per_le loop
  obtain ⟨hper, hmin⟩ := per_spec loop hl
  have hW0 : ∀ j, stem.length ≤ j → dn ⟨stem, loop⟩ j = loop.getD ((0 + (j - stem.length)) % per loop) 0 := by
    intro j hj
    simp only [dn]
    rw [if_neg (by omega), hper.all p0 hl, Nat.zero_add]
  obtain ⟨s, u, hr, hs, hu, hW, hn⟩ := roll_spec stem loop (per loop) p0 p1 (dn ⟨stem, loop⟩) (fun j hj => by simp only [dn]; rw [if_pos hj]) stem.length 0 p0 (Nat.le_refl _) hW0
  have en : normal ⟨stem, loop⟩ = ⟨stem.take s, (loop.take (per loop)).drop u ++ loop.take u⟩ := by
    simp only [normal]; rw [if_neg (by omega), hr]
  have hlen : ((loop.take (per loop)).drop u ++ loop.take u).length = per loop := by simp; omega
  have hrot : ∀ k, k < per loop → ((loop.take (per loop)).drop u ++ loop.take u).getD k 0 = loop.getD ((u + k) % per loop) 0 := by
    intro k hk
    by_cases hk2 : k < per loop - u
    · rw [getD_left _ _ _ (by simp; omega), getD_drop, getD_take _ _ _ (by omega), Nat.mod_eq_of_lt (by omega)]
    · have e : ((loop.take (per loop)).drop u).length = per loop - u := by simp; omega
      rw [getD_right _ _ _ (by omega), e, getD_take _ _ _ (by omega)]
      congr 1
      rw [Nat.mod_eq_sub_mod (by omega), Nat.mod_eq_of_lt (by omega)]; omega
  have hden : ∀ i, dn (normal ⟨stem, loop⟩) i = dn ⟨stem, loop⟩ i := by
    intro i
    rw [en]
    by_cases hi : i < s
    · have : dn ⟨stem.take s, (loop.take (per loop)).drop u ++ loop.take u⟩ i = stem.getD i 0 := by
        simp only [dn]; rw [if_pos (by simp; omega), getD_take _ _ _ hi]
      rw [this]; simp only [dn]; rw [if_pos (by omega)]
    · have : dn ⟨stem.take s, (loop.take (per loop)).drop u ++ loop.take u⟩ i = ((loop.take (per loop)).drop u ++ loop.take u).getD ((i - s) % per loop) 0 := by
        simp only [dn]
        have es : (stem.take s).length = s := by simp; omega
        rw [es, if_neg hi, hlen]
      rw [this, hrot _ (Nat.mod_lt _ p0), hW i (by omega), Nat.add_mod_mod]
  refine ⟨by rw [en]; simp only [hlen]; exact p0, hden, ?_, ?_⟩
  · rw [en]
    simp only [hlen, show (stem.take s).length = s by simp; omega]
    intro q hq hqp hqd hE
    refine hmin q hq hqp (Per.of hq (by omega) ?_ fun i => ?_)
    · exact Nat.mod_eq_zero_of_dvd (Nat.dvd_trans (Nat.dvd_of_mod_eq_zero hqd) (Nat.dvd_of_mod_eq_zero hper.1))
    · rw [hper.all p0 hl, hper.all p0 hl]
      -- a place of the row that lies behind s
      have key : ∀ k, loop.getD ((u + k + q) % per loop) 0 = loop.getD ((u + k) % per loop) 0 := by
        intro k
        have h1 := hE (s + k) (by omega)
        rw [hW _ (by omega), hW _ (by omega)] at h1
        rw [show s + k + q - s = k + q by omega, show s + k - s = k by omega] at h1
        rw [Nat.add_assoc]; exact h1
      have h2 := key (i + (per loop - u))
      rw [show u + (i + (per loop - u)) = i + per loop by omega, Nat.add_mod_right, show i + per loop + q = (i + q) + per loop by omega, Nat.add_mod_right] at h2
      exact h2
  · rw [en]
    simp only [hlen, show (stem.take s).length = s by simp; omega]
    exact hn
theorem normal_eq {a b : Wd} (ha : 0 < a.loop.length) (hb : 0 < b.loop.length) (h : ∀ i, dn a i = dn b i) : normal a = normal b := by
  have h2 := normal_nf b hb
  have e : dn a = dn b := funext h
  rw [← e] at h2
  exact (normal_nf a ha).unique h2
theorem normal_den (w : Wd) (h : 0 < w.loop.length) (i : Nat) : dn (normal w) i = dn w i := (normal_nf w h).den i
theorem normal_pos (w : Wd) (h : 0 < w.loop.length) : 0 < (normal w).loop.length := (normal_nf w h).pos
end Go.Proofs.YtkldgoapompinaaDoor.Ai

namespace Go.Proofs.YtkldgoapompinaaDoor.Ai
set_option linter.unusedSimpArgs false
set_option linter.unusedVariables false

theorem rot_getD (l : List Int) (k i : Nat) (hl : 0 < l.length) (hk : k < l.length) : (l.drop k ++ l.take k).getD (i % l.length) 0 = l.getD ((k + i) % l.length) 0 := by
  have hi := Nat.mod_lt i hl
  rw [← Nat.add_mod_mod k i]
  generalize i % l.length = j at *
  by_cases hj : j < l.length - k
  · rw [getD_left _ _ _ (by simp; omega), getD_drop, Nat.mod_eq_of_lt (by omega)]
  · have e : (l.drop k).length = l.length - k := by simp
    rw [getD_right _ _ _ (by omega), e, getD_take _ _ _ (by omega)]
    congr 1
    rw [Nat.mod_eq_sub_mod (by omega), Nat.mod_eq_of_lt (by omega)]; omega
theorem dn_ahead (u : List Int) (w : Wd) (i : Nat) : dn ⟨u ++ w.stem, w.loop⟩ i = if i < u.length then u.getD i 0 else dn w (i - u.length) := by
  simp only [dn, List.length_append]
  by_cases h1 : i < u.length
  · rw [if_pos h1, if_pos (by omega), getD_left _ _ _ h1]
  · rw [if_neg h1]
    by_cases h2 : i < u.length + w.stem.length
    · rw [if_pos h2, if_pos (by omega), getD_right _ _ _ (by omega)]
    · rw [if_neg h2, if_neg (by omega), Nat.sub_sub]
theorem suffix_X (w : Wd) (n : Nat) (hl : 0 < w.loop.length) : ∃ X, suffix w (n : Nat) = normal X ∧ 0 < X.loop.length ∧ ∀ i, dn X i = dn w (n + i) := by
  unfold suffix
  rw [if_neg (by omega), Int.toNat_natCast]
  split
  · rename_i h
    refine ⟨_, rfl, hl, fun i => ?_⟩
    simp only [dn, List.length_drop]
    by_cases h1 : n + i < w.stem.length
    · rw [if_pos (by omega), if_pos h1, getD_drop]
    · rw [if_neg (by omega), if_neg h1]
      congr 2; omega
  · rename_i h
    have hk := Nat.mod_lt (n - w.stem.length) hl
    refine ⟨_, rfl, by simp; omega, fun i => ?_⟩
    have e : (w.loop.drop ((n - w.stem.length) % w.loop.length) ++ w.loop.take ((n - w.stem.length) % w.loop.length)).length = w.loop.length := by simp; omega
    simp only [dn, List.length_nil, Nat.sub_zero, e]
    rw [if_neg (by omega), if_neg (by omega), rot_getD _ _ _ hl hk, Nat.mod_add_mod]
    congr 2; omega
theorem atW_den (w : Wd) (hl : 0 < w.loop.length) (i : Nat) : atW w (i : Nat) = dn w i := by
  simp only [atW, dn]
  rw [if_neg (by omega), Int.toNat_natCast]
theorem join_den (u : List Int) (w : Wd) (hl : 0 < w.loop.length) (i : Nat) : dn (join u w) i = if i < u.length then u.getD i 0 else dn w (i - u.length) := by
  unfold join
  rw [if_neg (by omega), normal_den ⟨u ++ w.stem, w.loop⟩ hl, dn_ahead]
theorem join_pos (u : List Int) (w : Wd) (hl : 0 < w.loop.length) : 0 < (join u w).loop.length := by
  unfold join
  rw [if_neg (by omega)]
  exact normal_pos _ hl
theorem suffix_pos (w : Wd) (n : Nat) (hl : 0 < w.loop.length) : 0 < (suffix w (n : Nat)).loop.length := by
  obtain ⟨X, h1, h2, h3⟩ := suffix_X w n hl
  rw [h1]; exact normal_pos _ h2
theorem suffix_den (w : Wd) (n : Nat) (hl : 0 < w.loop.length) (i : Nat) : dn (suffix w (n : Nat)) i = dn w (n + i) := by
  obtain ⟨X, h1, h2, h3⟩ := suffix_X w n hl
  rw [h1, normal_den _ h2, h3]
theorem law_A (u : List Int) (w : Wd) (hl : 0 < w.loop.length) : suffix (join u w) (u.length : Nat) = normal w := by
  obtain ⟨X, h1, h2, h3⟩ := suffix_X (join u w) u.length (join_pos u w hl)
  rw [h1]
  refine normal_eq h2 hl fun i => ?_
  rw [h3, join_den u w hl, if_neg (by omega)]
  congr 1; omega
theorem law_B (w : Wd) (hl : 0 < w.loop.length) (k : Nat) (hk : k ≤ 65536) : join (prefixW w k) (suffix w k) = normal w := by
  unfold join
  have hp := suffix_pos w k hl
  rw [if_neg (by omega)]
  refine normal_eq hp hl fun i => ?_
  have hlen : (prefixW w k).length = k := by
    unfold prefixW
    rw [if_neg (by omega)]; simp; omega
  rw [dn_ahead, hlen]
  split
  · rename_i hi
    unfold prefixW
    rw [if_neg (by omega)]
    simp only [Int.toNat_natCast, Nat.min_eq_left hk]
    simp [List.getD, hi, atW_den w hl]
  · rename_i hi
    rw [suffix_den w k hl]
    congr 1; omega
theorem law_C1 (u : List Int) (w : Wd) (hl : 0 < w.loop.length) (i : Nat) (h : i < u.length) : atW (join u w) (i : Nat) = u[i] := by
  rw [atW_den _ (join_pos u w hl), join_den u w hl, if_pos h]
  simp [List.getD, List.getElem?_eq_getElem h]
theorem law_C2 (w : Wd) (hl : 0 < w.loop.length) (k i : Nat) : atW (suffix w k) i = atW w ((k + i : Nat) : Int) := by
  rw [atW_den _ (suffix_pos w k hl), atW_den _ hl, suffix_den w k hl]
theorem law_C3 (u : List Int) (w : Wd) (hl : 0 < w.loop.length) (i : Nat) : atW (join u w) ((u.length + i : Nat) : Int) = atW w i := by
  rw [atW_den _ (join_pos u w hl), atW_den _ hl, join_den u w hl, if_neg (by omega)]
  congr 1; omega
section
open Go
variable {C : Ctx} (hm : C.P.follows .mixedOrders = true) (hC : TabOK C.P C.ng C.ts Tryd.tab)
include hm hC
theorem wparts_top (hw : PFun C 12 [] (.lit (.bool true))) (w : Wd) (u : List Int) (n : Int) (h0 : -9223372036854775808 ≤ n) (h0' : n < 9223372036854775808) (h1 : w.stem.length < 2 ^ 61) (h2 : w.loop.length < 2 ^ 61) (h3 : u.length < 2 ^ 61) :
    PTop C Tryd.tab 7 [wrdP w, szU u, .lit (.int .i64 n)] (.lit (.bool true)) :=
  wparts_ok hm hC hw w u n h0 h0' h1 h2 h3 (law_A u w) (fun hl k hk => law_B w hl k hk) (fun hl i h => law_C1 u w hl i h) (fun hl k i => law_C2 w hl k i) (fun hl i => law_C3 u w hl i)
end
end Go.Proofs.YtkldgoapompinaaDoor.Ai
