/- A PART OF THE PROOF: a step of the proof that the law's code does what its contracts say, by an interpreter of the program's functions that is proved to be sound. -/
import Derived.Test.YtkldgoapompinaaDoorW9b
namespace Go.Proofs.YtkldgoapompinaaDoor.Ai
open Go
set_option linter.unusedVariables false
set_option maxRecDepth 10000
/-- agree on so many letters -/
def alikeF (a c : Wd) (n : Nat) : Bool := decide (∀ i : Nat, i < n → atW a (i : Nat) = atW c (i : Nat))
theorem rep2 (n : Nat) (z : Int) : List.replicate (n + 2) z = List.replicate n z ++ [z, z] := by
  rw [← List.replicate_append_replicate]; rfl
theorem alikeF_zero (a c : Wd) : alikeF a c 0 = true := by simp [alikeF]
theorem alikeF_succ {a c : Wd} {k : Nat} (h : alikeF a c k = true) : alikeF a c (k + 1) = eqB (atW a (k : Nat)) (atW c (k : Nat)) := by
  have h' : ∀ i : Nat, i < k → atW a (i : Nat) = atW c (i : Nat) := by simpa [alikeF] using h
  by_cases he : atW a (k : Nat) = atW c (k : Nat)
  · rw [eqB_t he]
    simp only [alikeF, decide_eq_true_eq]
    intro i hi
    rcases Nat.lt_or_ge i k with hk | hk
    · exact h' i hk
    · rw [show i = k by omega]; exact he
  · rw [eqB_f he]
    simp only [alikeF, decide_eq_false_iff_not]
    exact fun hx => he (hx k (by omega))
theorem alikeF_no {a c : Wd} {k n : Nat} (hk : k ≤ n) (h : alikeF a c k = false) : alikeF a c n = false := by
  simp only [alikeF, decide_eq_false_iff_not] at h ⊢
  exact fun hx => h fun i hi => hx i (by omega)
theorem same_e1 {a c : Wd} (h : a.loop.length = 0) : same a c = false := by simp [same, h]
theorem same_e2 {a c : Wd} (h : c.loop.length = 0) : same a c = false := by simp [same, h]
theorem eqv_bool (a b : Bool) : eqv .bool (.bool a) (.bool b) = some (a == b) := rfl
section
variable {C : Ctx} (hm : C.P.follows .mixedOrders = true) (hC : TabOK C.P C.ng C.ts Tryd.tab)
include hm hC
theorem wsame_ok (hw : PFun C 12 [] (.lit (.bool true))) (a c : Wd) (h1 : a.stem.length < 2 ^ 60) (h2 : a.loop.length < 2 ^ 60) (h3 : c.stem.length < 2 ^ 60) (h4 : c.loop.length < 2 ^ 60)
    (hs : same c a = same a c) (hl : a.loop.length ≠ 0 → c.loop.length ≠ 0 → same a c = alikeF a c (max a.stem.length c.stem.length + a.loop.length + c.loop.length) ∧ decide ((normal a).stem = (normal c).stem ∧ (normal a).loop = (normal c).loop) = same a c) :
    PTop C Tryd.tab 5 [wrdP a, wrdP c] (.lit (.bool true)) := by
  have e0 : IntKind.i64.wrap ((a.stem.length : Nat) + (a.loop.length : Nat)) = ((a.stem.length + a.loop.length : Nat) : Int) := by rw [wrap64 (by omega) (by omega)]; omega
  have e1 : IntKind.i64.wrap ((c.stem.length : Nat) + (c.loop.length : Nat)) = ((c.stem.length + c.loop.length : Nat) : Int) := by rw [wrap64 (by omega) (by omega)]; omega
  by_cases b1 : (4000 : Int) < ((a.stem.length + a.loop.length : Nat) : Int)
  · obtain ⟨s, l⟩ := a
    obtain ⟨s', l'⟩ := c
    simp only at e0 b1
    refine PTop.body (show Tryd.tab.get 5 = some Tryd.c5 from rfl) ?_
    simp only [Tryd.c5, startP, List.length_cons, List.length_nil, Nat.reduceAdd, Nat.reduceSub, List.replicate, List.cons_append, List.nil_append, wrdP, szU]
    repeat (refine PRun.wpn rfl ?_; simp only [wp, wo_nil, wo_p, wo_n, wo_call, onO_s, onN_s, ble_self, ble_succ, pv_t, pv_bool, put_some, pevP, pevN, getP, setP, evsP, boxP, PW.push, PW.none, Option.map_some, Nat.zero_le, true_and, Nat.reduceAdd, Nat.zero_add, resPs, resP, tupP])
    refine .refl (PFun.to (hw) rfl (POps.wp ?_))
    simp only [wo_nil, wo_p, onO_s, pv_t, put_some, pevP, getP, setP]
    repeat (refine PRun.wpn rfl ?_; simp only [wp, wo_nil, wo_p, wo_r, wo_g, onO_s, onG_f, wanted_g, b_tf, pv_t, pv_int, pv_bool, put_some, bi_add, bi_gtr, pevP, pevR, getP, setP, look, PW.cs?, nthP, Option.map_some, Option.bind_some, or_true, true_and, ↓reduceIte, reduceCtorEq, Nat.add_zero, Nat.zero_add, e0, ltB_t b1])
    exact .refl ⟨_, rfl, .refl _⟩
  by_cases b2 : (4000 : Int) < ((c.stem.length + c.loop.length : Nat) : Int)
  · obtain ⟨s, l⟩ := a
    obtain ⟨s', l'⟩ := c
    simp only at e0 e1 b1 b2
    refine PTop.body (show Tryd.tab.get 5 = some Tryd.c5 from rfl) ?_
    simp only [Tryd.c5, startP, List.length_cons, List.length_nil, Nat.reduceAdd, Nat.reduceSub, List.replicate, List.cons_append, List.nil_append, wrdP, szU]
    repeat (refine PRun.wpn rfl ?_; simp only [wp, wo_nil, wo_p, wo_n, wo_call, onO_s, onN_s, ble_self, ble_succ, pv_t, pv_bool, put_some, pevP, pevN, getP, setP, evsP, boxP, PW.push, PW.none, Option.map_some, Nat.zero_le, true_and, Nat.reduceAdd, Nat.zero_add, resPs, resP, tupP])
    refine .refl (PFun.to (hw) rfl (POps.wp ?_))
    simp only [wo_nil, wo_p, onO_s, pv_t, put_some, pevP, getP, setP]
    repeat (refine PRun.wpn rfl ?_; simp only [wp, wo_nil, wo_p, wo_r, wo_g, beq_self_eq_true, onO_s, onG_t, wanted_g, pv_t, pv_int, put_some, bi_add, bi_gtr, pevP, pevR, getP, setP, look, PW.cs?, nthP, Option.map_some, Option.bind_some, or_true, true_and, ↓reduceIte, reduceCtorEq, Nat.add_zero, Nat.zero_add, e0, ltB_f b1, e1, ltB_t b2])
    exact .refl ⟨_, rfl, .refl _⟩
  have c1 := lentWord_ok hm hC a (by omega) (by omega)
  have c2 := lentWord_ok hm hC c (by omega) (by omega)
  have s1 := (same_ok hm hC a c (by omega) (by omega) (by omega) (by omega)).args (args' := [.agg [.sl (L16 (a.stem ++ [60001, 60002])) a.stem.length, .sl (L16 (a.loop ++ [60001, 60002])) a.loop.length], .agg [.sl (L16 (c.stem ++ [60001, 60002])) c.stem.length, .sl (L16 (c.loop ++ [60001, 60002])) c.loop.length]])
    (.cons (.agg (.cons (lent_wk _ _) (.cons (lent_wk _ _) .nil))) (.cons (.agg (.cons (lent_wk _ _) (.cons (lent_wk _ _) .nil))) .nil))
  have s2 := (same_ok hm hC c a (by omega) (by omega) (by omega) (by omega)).args (args' := [.agg [.sl (L16 (c.stem ++ [60001, 60002])) c.stem.length, .sl (L16 (c.loop ++ [60001, 60002])) c.loop.length], .agg [.sl (L16 (a.stem ++ [60001, 60002])) a.stem.length, .sl (L16 (a.loop ++ [60001, 60002])) a.loop.length]])
    (.cons (.agg (.cons (lent_wk _ _) (.cons (lent_wk _ _) .nil))) (.cons (.agg (.cons (lent_wk _ _) (.cons (lent_wk _ _) .nil))) .nil))
  have k1 : a.stem.length ≤ a.stem.length + 2 := by omega
  have k2 : a.loop.length ≤ a.loop.length + 2 := by omega
  have k3 : c.stem.length ≤ c.stem.length + 2 := by omega
  have k4 : c.loop.length ≤ c.loop.length + 2 := by omega
  rw [hs] at s2
  have s3 := (same_ok hm hC ⟨List.replicate a.stem.length 60003, List.replicate a.loop.length 60003⟩ c (by simp; omega) (by simp; omega) (by omega) (by omega)).args (args' := [.agg [.sl (L16 (List.replicate a.stem.length 60003 ++ [60003, 60003])) a.stem.length, .sl (L16 (List.replicate a.loop.length 60003 ++ [60003, 60003])) a.loop.length], .agg [.sl (L16 (c.stem ++ [60001, 60002])) c.stem.length, .sl (L16 (c.loop ++ [60001, 60002])) c.loop.length]])
    (.cons (.agg (.cons (by simpa using lent_wk (List.replicate a.stem.length 60003) [60003, 60003]) (.cons (by simpa using lent_wk (List.replicate a.loop.length 60003) [60003, 60003]) .nil))) (.cons (.agg (.cons (lent_wk _ _) (.cons (lent_wk _ _) .nil))) .nil))
  have s4 := (sameR_ok hm hC ⟨List.replicate a.stem.length 60003, List.replicate a.loop.length 60003⟩ c (by simp; omega) (by simp; omega) (by omega) (by omega)).args (args' := [.agg [.sl (L16 (List.replicate a.stem.length 60003 ++ [60003, 60003])) a.stem.length, .sl (L16 (List.replicate a.loop.length 60003 ++ [60003, 60003])) a.loop.length], wrdP c])
    (.cons (.agg (.cons (by simpa using lent_wk (List.replicate a.stem.length 60003) [60003, 60003]) (.cons (by simpa using lent_wk (List.replicate a.loop.length 60003) [60003, 60003]) .nil))) (.cons (.refl _) .nil))
  generalize same ⟨List.replicate a.stem.length 60003, List.replicate a.loop.length 60003⟩ c = over at s3 s4
  have p1 := spoilWord_ok hm hC (a.stem ++ [60001, 60002]) (a.loop ++ [60001, 60002]) a.stem.length a.loop.length (by simp; omega) (by simp; omega) (by simp) (by simp) (by simp) (by simp)
  simp only [List.length_append, List.length_cons, List.length_nil, Nat.zero_add, Nat.reduceAdd, rep2] at p1
  obtain ⟨s, l⟩ := a
  obtain ⟨s', l'⟩ := c
  simp only at *
  simp only [wrdP, szU] at c1 c2
  refine PTop.body (show Tryd.tab.get 5 = some Tryd.c5 from rfl) ?_
  simp only [Tryd.c5, startP, List.length_cons, List.length_nil, Nat.reduceAdd, Nat.reduceSub, List.replicate, List.cons_append, List.nil_append, wrdP, szU]
  repeat (refine PRun.wpn rfl ?_; simp only [wp, wo_nil, wo_p, wo_n, wo_call, onO_s, onN_s, ble_self, ble_succ, pv_t, pv_bool, put_some, pevP, pevN, getP, setP, evsP, boxP, PW.push, PW.none, Option.map_some, Nat.zero_le, true_and, Nat.reduceAdd, Nat.zero_add, resPs, resP, tupP])
  refine .refl (PFun.to (hw) rfl (POps.wp ?_))
  simp only [wo_nil, wo_p, onO_s, pv_t, put_some, pevP, getP, setP]
  repeat (refine PRun.wpn rfl ?_; simp only [wp, wo_nil, wo_p, wo_r, wo_call, wo_g, beq_self_eq_true, onO_s, onG_t, wanted_g, pv_t, pv_int, put_some, bi_add, bi_gtr, pevP, pevR, getP, setP, evsP, look, PW.cs?, nthP, cutP, List.length_cons, List.length_nil, List.drop_zero, List.take_zero, List.take_succ_cons, Option.map_some, Option.bind_some, Nat.zero_le, true_and, ↓reduceIte, reduceCtorEq, Nat.reduceAdd, Bool.false_eq_true, Nat.add_zero, Nat.zero_add, List.length_cons, List.length_nil, Nat.le_refl, e0, ltB_f b1, e1, ltB_f b2])
  refine .refl (c1.to rfl (POps.wp ?_))
  try dsimp only
  simp only [wo_nil, wo_n, wo_st, onN_s, onE_s, ble0, pv_t, ov_nil, ov_cons, ov_nilS, put_some, put_none, pevN, pevE, getP, setP, spliceP, overP, plainP, look, PW.push, List.length_cons, List.length_nil, Option.map_some, Bool.and_true, ↓reduceIte, ltL, lt, Nat.reduceAdd, Bool.false_eq_true, Nat.zero_add, allPlain, PW.wr, setO, killO, Bool.or_self, Bool.not_true, List.length_cons, List.length_nil, PW.with, shP, shL, shO, shH, shA, shL_L16]
  repeat (refine PRun.wpn rfl ?_; simp only [wp, wo_r, wo_call, onO_s, pv_t, put_some, pevR, getP, setP, evsP, look, PW.cs?, cutP, List.length_cons, List.length_nil, List.drop_zero, List.take_zero, List.take_succ_cons, Option.map_some, Option.bind_some, Nat.zero_le, true_and, ↓reduceIte, Nat.reduceAdd, Nat.reduceEqDiff, Nat.zero_add, List.length_cons, List.length_nil, Nat.le_refl])
  refine .refl (c2.to rfl (POps.wp ?_))
  try dsimp only
  simp only [wo_nil, wo_n, wo_st, onN_s, onE_s, ble0, pv_t, ov_nil, ov_cons, ov_nilS, put_some, put_none, pevN, pevE, getP, setP, spliceP, overP, plainP, look, PW.push, List.length_cons, List.length_nil, Option.map_some, Bool.and_true, ↓reduceIte, ltL, lt, Nat.reduceAdd, Bool.false_eq_true, Nat.zero_add, allPlain, PW.wr, setO, killO, Bool.or_self, Bool.not_true, List.length_cons, List.length_nil, PW.with, shP, shL, shO, shH, shA, shL_L16]
  repeat (refine PRun.wpn rfl ?_; simp only [wp, wo_r, wo_call, onO_s, pv_t, put_some, pevR, getP, setP, evsP, look, PW.cs?, cutP, List.length_cons, List.length_nil, List.drop_zero, List.take_zero, List.take_succ_cons, Option.map_some, Option.bind_some, Nat.zero_le, true_and, ↓reduceIte, Nat.reduceAdd, Nat.reduceEqDiff, Nat.zero_add, List.length_cons, List.length_nil, Nat.le_refl])
  refine .refl (PFun.lent s1 (by simp only [pureL, pureP]; rfl) ?_ (POps.wp ?_))
  · refine Gh.frz 3 rfl (pureL_L16 _) rfl ?_
    simp only [getP, List.drop_zero, ↓reduceIte, reduceCtorEq, Nat.reduceEqDiff, frzL, frzP, frzO, frzH, frzL_L16, k1]
    refine Gh.frz 4 rfl (pureL_L16 _) rfl ?_
    simp only [List.drop_zero, ↓reduceIte, reduceCtorEq, Nat.reduceEqDiff, frzL, frzP, frzO, frzH, frzL_L16, k2]
    refine Gh.frz 7 rfl (pureL_L16 _) rfl ?_
    simp only [List.drop_zero, ↓reduceIte, reduceCtorEq, Nat.reduceEqDiff, frzL, frzP, frzO, frzH, frzL_L16, k3]
    refine Gh.frz 8 rfl (pureL_L16 _) rfl ?_
    simp only [List.drop_zero, ↓reduceIte, reduceCtorEq, Nat.reduceEqDiff, frzL, frzP, frzO, frzH, k4]
    exact .refl rfl
  try dsimp only
  simp only [wo_nil, wo_p, onO_s, pv_t, put_some, pevP, getP, setP]
  repeat (refine PRun.wpn rfl ?_; simp only [wp, wo_r, wo_call, onO_s, pv_t, put_some, pevR, getP, setP, evsP, look, PW.cs?, cutP, List.length_cons, List.length_nil, List.drop_zero, List.take_zero, List.take_succ_cons, Option.map_some, Option.bind_some, Nat.zero_le, true_and, ↓reduceIte, Nat.reduceAdd, Nat.reduceEqDiff, Nat.zero_add, List.length_cons, List.length_nil, Nat.le_refl])
  refine .refl (PFun.lent s2 (by simp only [pureL, pureP]; rfl) ?_ (POps.wp ?_))
  · refine Gh.frz 3 rfl (pureL_L16 _) rfl ?_
    simp only [getP, List.drop_zero, ↓reduceIte, reduceCtorEq, Nat.reduceEqDiff, frzL, frzP, frzO, frzH, frzL_L16, k1]
    refine Gh.frz 4 rfl (pureL_L16 _) rfl ?_
    simp only [List.drop_zero, ↓reduceIte, reduceCtorEq, Nat.reduceEqDiff, frzL, frzP, frzO, frzH, frzL_L16, k2]
    refine Gh.frz 7 rfl (pureL_L16 _) rfl ?_
    simp only [List.drop_zero, ↓reduceIte, reduceCtorEq, Nat.reduceEqDiff, frzL, frzP, frzO, frzH, frzL_L16, k3]
    refine Gh.frz 8 rfl (pureL_L16 _) rfl ?_
    simp only [List.drop_zero, ↓reduceIte, reduceCtorEq, Nat.reduceEqDiff, frzL, frzP, frzO, frzH, k4]
    exact .refl rfl
  try dsimp only
  simp only [wo_nil, wo_p, onO_s, pv_t, put_some, pevP, getP, setP]
  repeat (refine PRun.wpn rfl ?_; simp only [wp, wo_r, wo_call, onO_s, pv_t, put_some, pevR, getP, setP, evsP, look, PW.cs?, cutP, List.length_cons, List.length_nil, List.drop_zero, List.take_zero, List.take_succ_cons, Option.map_some, Option.bind_some, Nat.zero_le, true_and, ↓reduceIte, reduceCtorEq, Nat.reduceAdd, Nat.reduceEqDiff, Nat.zero_add, List.length_cons, List.length_nil, Nat.le_refl])
  refine .refl ((wholeWord_ok hm hC ⟨s, l⟩ (by simp only; omega) (by simp only; omega) _ 3 4 rfl rfl rfl rfl (by simp only; omega) (by simp only; omega)).is (POps.wp ?_))
  try dsimp only
  simp only [wo_p, wo_r, wo_call, wo_g, beq_self_eq_true, onO_s, onG_t, wanted_g, pv_t, put_some, pevP, pevR, getP, setP, evsP, look, PW.cs?, PW.push, cutP, List.length_cons, List.length_nil, List.drop_zero, List.take_zero, List.take_succ_cons, Option.map_some, Option.bind_some, Nat.zero_le, true_and, ↓reduceIte, Nat.reduceAdd, Nat.reduceEqDiff, Nat.zero_add, List.length_cons, List.length_nil, Nat.le_refl]
  refine .refl ((wholeWord_ok hm hC ⟨s', l'⟩ (by simp only; omega) (by simp only; omega) _ 7 8 rfl rfl rfl rfl (by simp only; omega) (by simp only; omega)).is (POps.wp ?_))
  try dsimp only
  simp only [wo_nil, wo_p, onO_s, pv_t, put_some, pevP, getP, setP, PW.push, Nat.reduceAdd]
  repeat (refine PRun.wpn rfl ?_; simp only [wp, wo_r, wo_call, onO_s, pv_t, put_some, pevR, getP, setP, evsP, look, PW.cs?, cutP, List.length_cons, List.length_nil, List.drop_zero, List.take_zero, List.take_succ_cons, Option.map_some, Option.bind_some, Nat.zero_le, true_and, ↓reduceIte, Nat.reduceAdd, Nat.reduceEqDiff, Nat.zero_add, List.length_cons, List.length_nil, Nat.le_refl])
  refine .refl ((p1 _ 3 4 rfl rfl (by omega) (by simp only; omega) (by simp only; omega)).is (POps.wp ?_))
  try dsimp only
  simp only [wo_nil, setP, ↓reduceIte, Nat.reduceAdd, Nat.reduceEqDiff, setO, setO]
  repeat (refine PRun.wpn rfl ?_; simp only [wp, wo_r, wo_call, onO_s, pv_t, put_some, pevR, getP, setP, evsP, look, PW.cs?, cutP, List.length_cons, List.length_nil, List.drop_zero, List.take_zero, List.take_succ_cons, Option.map_some, Option.bind_some, Nat.zero_le, true_and, ↓reduceIte, Nat.reduceAdd, Nat.reduceEqDiff, Nat.zero_add, List.length_cons, List.length_nil, Nat.le_refl])
  refine .refl (PFun.lent s3 (by simp only [pureL, pureP]; rfl) ?_ (POps.wp ?_))
  · refine Gh.frz 3 rfl (pureL_L16 _) rfl ?_
    simp only [getP, List.drop_zero, ↓reduceIte, reduceCtorEq, Nat.reduceEqDiff, frzL, frzP, frzO, frzH, frzL_L16, k1]
    refine Gh.frz 4 rfl (pureL_L16 _) rfl ?_
    simp only [List.drop_zero, ↓reduceIte, reduceCtorEq, Nat.reduceEqDiff, frzL, frzP, frzO, frzH, frzL_L16, k2]
    refine Gh.frz 7 rfl (pureL_L16 _) rfl ?_
    simp only [List.drop_zero, ↓reduceIte, reduceCtorEq, Nat.reduceEqDiff, frzL, frzP, frzO, frzH, frzL_L16, k3]
    refine Gh.frz 8 rfl (pureL_L16 _) rfl ?_
    simp only [List.drop_zero, ↓reduceIte, reduceCtorEq, Nat.reduceEqDiff, frzL, frzP, frzO, frzH, k4]
    exact .refl rfl
  try dsimp only
  simp only [wo_nil, wo_p, onO_s, pv_t, put_some, pevP, getP, setP]
  repeat (refine PRun.wpn rfl ?_; simp only [wp, wo_p, wo_r, wo_call, wo_g, beq_self_eq_true, onO_s, onG_t, wanted_g, pv_t, put_some, pevP, pevR, getP, setP, evsP, look, PW.cs?, cutP, List.length_cons, List.length_nil, List.drop_zero, List.take_zero, List.take_succ_cons, Option.map_some, Option.bind_some, Nat.zero_le, true_and, ↓reduceIte, Nat.reduceAdd, Nat.reduceEqDiff, Nat.zero_add, Bool.not_true, List.length_cons, List.length_nil, Nat.le_refl])
  refine .refl (PFun.lent s4 (by simp only [pureL, pureP]; rfl) ?_ (POps.wp ?_))
  · refine Gh.frz 3 rfl (pureL_L16 _) rfl ?_
    simp only [getP, List.drop_zero, ↓reduceIte, reduceCtorEq, Nat.reduceEqDiff, frzL, frzP, frzO, frzH, frzL_L16, k1]
    refine Gh.frz 4 rfl (pureL_L16 _) rfl ?_
    simp only [List.drop_zero, ↓reduceIte, reduceCtorEq, Nat.reduceEqDiff, frzL, frzP, frzO, frzH, frzL_L16, k2]
    exact .refl rfl
  try dsimp only
  simp only [wo_p, wo_g, beq_self_eq_true, onG_t, wanted_g, pv_t, pevP, getP, setP, eqP, Bool.bne_true]
  repeat (refine PRun.wpn rfl ?_; simp only [wp, wo_p, wo_r, wo_g, beq_self_eq_true, onO_s, wanted_g, pv_t, pv_int, put_some, bi_eql, pevP, pevR, getP, setP, look, PW.cs?, nthP, Option.map_some, Option.bind_some, ↓reduceIte, reduceCtorEq, Bool.false_eq_true, Nat.zero_add, Bool.not_true])
  by_cases z1 : ((l.length : Nat) : Int) = 0
  · have z2 := same_e1 (a := ⟨s, l⟩) (c := ⟨s', l'⟩) (by simp only; omega)
    rw [z2]
    try dsimp only
    simp only [wo_nil, wo_p, wo_g, onO_s, onG_f, wanted_g, b_tf, pv_t, pv_bool, put_some, pevP, getP, setP, eqB_t z1]
    repeat (refine PRun.wpn rfl ?_; simp only [wp, wo_nil, wo_p, wo_g, beq_self_eq_true, onO_s, onG_t, wanted_g, pv_t, put_some, pevP, getP, setP, or_true, true_and, ↓reduceIte, reduceCtorEq, Bool.not_false])
    exact .refl ⟨_, rfl, .refl _⟩
  by_cases z1' : ((l'.length : Nat) : Int) = 0
  · have z2 := same_e2 (a := ⟨s, l⟩) (c := ⟨s', l'⟩) (by simp only; omega)
    rw [z2]
    try dsimp only
    simp only [wo_nil, wo_p, wo_r, wo_g, beq_self_eq_true, onO_s, onG_t, wanted_g, pv_t, pv_int, put_some, bi_eql, pevP, pevR, getP, setP, look, PW.cs?, nthP, Option.map_some, Option.bind_some, ↓reduceIte, Nat.reduceEqDiff, Nat.zero_add, eqB_f z1, eqB_t z1']
    repeat (refine PRun.wpn rfl ?_; simp only [wp, wo_nil, wo_p, wo_g, beq_self_eq_true, onO_s, onG_t, wanted_g, pv_t, put_some, pevP, getP, setP, or_true, true_and, ↓reduceIte, reduceCtorEq, Bool.not_false])
    exact .refl ⟨_, rfl, .refl _⟩
  have n1 := normal_ok hm hC ⟨s, l⟩ (by simp only; omega) (by simp only; omega)
  have n2 := normal_ok hm hC ⟨s', l'⟩ (by simp only; omega) (by simp only; omega)
  have n3 := sameWord_ok hm hC (normal ⟨s, l⟩) (normal ⟨s', l'⟩) (by have := normal_stem ⟨s, l⟩; simp only at this; omega) (by have := normal_loop ⟨s, l⟩; simp only at this; omega)
  obtain ⟨hl1, hl2⟩ := hl (by omega) (by omega)
  rw [hl2] at n3
  clear hl2
  generalize normal ⟨s, l⟩ = na at *
  generalize normal ⟨s', l'⟩ = nc at *
  obtain ⟨ns, nl⟩ := na
  obtain ⟨ns', nl'⟩ := nc
  simp only [wrdP, szU] at n1 n2 n3
  generalize same ⟨s, l⟩ ⟨s', l'⟩ = is at *
  try dsimp only
  simp only [wo_nil, wo_p, wo_r, wo_g, beq_self_eq_true, onO_s, onG_t, wanted_g, pv_t, pv_int, put_some, bi_eql, pevP, pevR, getP, setP, look, PW.cs?, nthP, Option.map_some, Option.bind_some, ↓reduceIte, Nat.reduceEqDiff, Nat.zero_add, eqB_f z1, eqB_f z1']
  repeat (refine PRun.wpn rfl ?_; simp only [wp, wo_nil, wo_p, wo_r, onO_s, pv_t, pv_int, pv_bool, put_some, bi_add, pevP, pevR, getP, setP, look, PW.cs?, nthP, Option.map_some, Option.bind_some, ↓reduceIte, reduceCtorEq, Nat.reduceEqDiff, Bool.false_eq_true, Nat.add_zero, Nat.zero_add, gt_iff_lt])
  refine PRun.gh (Gh.mr (false :: false :: true :: true :: false :: true :: false :: false :: true :: true :: false :: false :: true :: true :: true :: false :: false :: false :: false :: false :: false :: false :: false :: false :: false :: false :: false :: false :: false :: false :: false :: false :: false :: false :: false :: false :: false :: false :: false :: false :: false :: false :: false :: false :: false :: false :: false :: false :: false :: false :: false :: false :: false :: false :: false :: false :: false :: false :: false :: false :: false :: false :: false :: false :: false :: false :: false :: false :: false :: false :: false :: false :: false :: false :: false :: false :: false :: false :: false :: false :: false :: false :: false :: false :: false :: false :: false :: false :: false :: false :: false :: false :: false :: false :: false :: false :: false :: false :: false :: false :: false :: false :: false :: false :: false :: false :: false :: false :: false :: false :: false :: false :: false :: false :: false :: false :: false :: false :: false :: false :: false :: false :: false :: false :: false :: false :: false :: false :: false :: false :: false :: false :: false :: false :: false :: false :: false :: false :: false :: false :: false :: false :: []) [(0, 0), (1, 1)] 2 rfl ?_)
  simp only [↓reduceIte, reduceCtorEq, Nat.reduceEqDiff, Bool.false_eq_true, renL, renP, renO, renH, renA, lkN, maskP]
  have hbig : max s.length s'.length + l.length + l'.length < 20000 := by omega
  have eN : IntKind.i64.wrap (IntKind.i64.wrap ((if ((s.length : Nat) : Int) < (s'.length : Nat) then ((s'.length : Nat) : Int) else (s.length : Nat)) + (l.length : Nat)) + (l'.length : Nat)) = ((max s.length s'.length + l.length + l'.length : Nat) : Int) := by
    have q : (if ((s.length : Nat) : Int) < (s'.length : Nat) then ((s'.length : Nat) : Int) else (s.length : Nat)) = ((max s.length s'.length : Nat) : Int) := by split <;> omega
    have q2 : IntKind.i64.wrap (((max s.length s'.length : Nat) : Int) + (l.length : Nat)) = ((max s.length s'.length + l.length : Nat) : Int) := by rw [wrap64 (by omega) (by omega)]; omega
    rw [q, q2, wrap64 (by omega) (by omega)]; omega
  rw [eN]
  generalize max s.length s'.length + l.length + l'.length = n at *
  refine PRun.loopG (fun m t π => ∃ k, k ≤ n ∧ t = (.junk :: .junk :: .ptr 0 0 :: .ptr 1 0 :: .junk :: .lit (.bool true) :: .junk :: .junk :: .lit (.bool is) :: .lit (.bool is) :: .junk :: .junk :: .lit (.int .i64 (n : Nat)) :: .lit (.bool (alikeF ⟨s, l⟩ ⟨s', l'⟩ k)) :: .lit (.int .i64 (k : Nat)) :: .junk :: .junk :: .junk :: .junk :: .junk :: .junk :: .junk :: .junk :: .junk :: .junk :: .junk :: .junk :: .junk :: .junk :: .junk :: .junk :: .junk :: .junk :: .junk :: .junk :: .junk :: .junk :: .junk :: .junk :: .junk :: .junk :: .junk :: .junk :: .junk :: .junk :: .junk :: .junk :: .junk :: .junk :: .junk :: .junk :: .junk :: .junk :: .junk :: .junk :: .junk :: .junk :: .junk :: .junk :: .junk :: .junk :: .junk :: .junk :: .junk :: .junk :: .junk :: .junk :: .junk :: .junk :: .junk :: .junk :: .junk :: .junk :: .junk :: .junk :: .junk :: .junk :: .junk :: .junk :: .junk :: .junk :: .junk :: .junk :: .junk :: .junk :: .junk :: .junk :: .junk :: .junk :: .junk :: .junk :: .junk :: .junk :: .junk :: .junk :: .junk :: .junk :: .junk :: .junk :: .junk :: .junk :: .junk :: .junk :: .junk :: .junk :: .junk :: .junk :: .junk :: .junk :: .junk :: .junk :: .junk :: .junk :: .junk :: .junk :: .junk :: .junk :: .junk :: .junk :: .junk :: .junk :: .junk :: .junk :: .junk :: .junk :: .junk :: .junk :: .junk :: .junk :: .junk :: .junk :: .junk :: .junk :: .junk :: .junk :: .junk :: .junk :: .junk :: .junk :: .junk :: .junk :: .junk :: []) ∧ m = n - k ∧ π = ⟨2, [(1, .cells [.sz (L16 s') s'.length, .sz (L16 l') l'.length] 25 2 true false []), (0, .cells [.sz (L16 s) s.length, .sz (L16 l) l.length] 25 2 true false [])]⟩) ?_ n _ _ ⟨0, by omega, by rw [alikeF_zero]; rfl, by omega, rfl⟩
  rintro m t π ⟨k, hk, rfl, rfl, rfl⟩
  by_cases hkn : ((k : Nat) : Int) < (n : Nat)
  · by_cases hal : alikeF ⟨s, l⟩ ⟨s', l'⟩ k = true
    · have a1 := at_ok hm hC ⟨s, l⟩ (k : Nat) (by omega) (by omega) (by simp only; omega) (by simp only; omega)
      have a2 := at_ok hm hC ⟨s', l'⟩ (k : Nat) (by omega) (by omega) (by simp only; omega) (by simp only; omega)
      simp only [wrdP, szU] at a1 a2
      have hsu := alikeF_succ hal
      repeat (refine PRun.wpn rfl ?_; simp only [wp, wo_nil, wo_p, wo_g, beq_self_eq_true, onO_s, onG_t, wanted_g, pv_t, put_some, bi_lss, pevP, getP, setP, Option.map_some, ↓reduceIte, ltB_t hkn, hal])
      refine PDraw.stage (Nat.zero_le _) rfl ?_
      try dsimp only
      simp only [onX_s, onXI_s, rdX_e, ltN, ltD_s, onD_s, wx_nil, wx_cons, wx_p, wx_r, wd_cons, wd_e, pv_t, put_some, pevP, pevR, getP, setP, nthO, look, PW.cs?, cutP, baseP, ROp.base, List.length_cons, List.length_nil, List.drop_zero, List.take_zero, List.take_succ_cons, Option.map_some, Option.bind_some, Bool.and_true, ↓reduceIte, reduceCtorEq, Nat.reduceAdd, Option.isSome_some, Nat.zero_add, List.length_cons, List.length_nil, Nat.le_refl]
      refine PDE.pure a1 rfl ?_
      refine PDraw.stage (Nat.zero_le _) rfl ?_
      try dsimp only
      simp only [onD_s, wx_nil, wd_cons, wd_e, put_some, setP, nthO]
      refine PDE.pure a2 rfl ?_
      refine PDraw.last (Nat.zero_le _) rfl ?_
      try dsimp only
      simp only [onX_s, onXI_s, wx_nil, wx_cons, wx_p, pv_t, put_some, bi_eql, pevP, getP, setP, nthO, Option.map_some]
      repeat (refine PRun.wpn rfl ?_; simp only [wp, wo_nil, wo_p, onO_s, pv_t, pv_int, put_some, bi_add, pevP, getP, setP, Option.map_some])
      rw [← hsu, wrap64 (by omega) (by omega)]
      refine Gh.mask (false :: false :: true :: true :: false :: true :: false :: false :: true :: true :: false :: false :: true :: true :: true :: false :: false :: false :: false :: false :: false :: false :: false :: false :: false :: false :: false :: false :: false :: false :: false :: false :: false :: false :: false :: false :: false :: false :: false :: false :: false :: false :: false :: false :: false :: false :: false :: false :: false :: false :: false :: false :: false :: false :: false :: false :: false :: false :: false :: false :: false :: false :: false :: false :: false :: false :: false :: false :: false :: false :: false :: false :: false :: false :: false :: false :: false :: false :: false :: false :: false :: false :: false :: false :: false :: false :: false :: false :: false :: false :: false :: false :: false :: false :: false :: false :: false :: false :: false :: false :: false :: false :: false :: false :: false :: false :: false :: false :: false :: false :: false :: false :: false :: false :: false :: false :: false :: false :: false :: false :: false :: false :: false :: false :: false :: false :: false :: false :: false :: false :: false :: false :: false :: false :: false :: false :: false :: false :: false :: false :: false :: false :: []) ?_
      exact ⟨n - (k + 1), by omega, k + 1, by omega, rfl, rfl, rfl⟩
    · have hal' : alikeF ⟨s, l⟩ ⟨s', l'⟩ k = false := by simpa using hal
      have hN := alikeF_no hk hal'
      repeat (refine PRun.wpn rfl ?_; simp only [wp, wo_nil, wo_p, wo_r, wo_call, wo_g, beq_self_eq_true, onO_s, onG_t, wanted_g, pv_t, put_some, bi_lss, pevP, pevR, getP, setP, evsP, look, PW.cs?, cutP, List.length_cons, List.length_nil, List.drop_zero, List.take_zero, List.take_succ_cons, Option.map_some, Option.bind_some, Nat.zero_le, true_and, ↓reduceIte, reduceCtorEq, Nat.reduceAdd, Bool.false_eq_true, Nat.zero_add, List.length_cons, List.length_nil, Nat.le_refl, ltB_t hkn, hal'])
      rw [hN] at hl1
      subst hl1
      refine .refl (PFun.to (n1) rfl (POps.wp ?_))
      simp only [wo_nil, wo_n, wo_st, onN_s, onE_s, ble0, pv_t, ov_nil, ov_cons, ov_nilS, put_some, put_none, pevN, pevE, getP, setP, spliceP, overP, plainP, look, PW.push, List.length_cons, List.length_nil, Option.map_some, Bool.and_true, ↓reduceIte, ltL, lt, Nat.reduceAdd, Bool.false_eq_true, Nat.zero_add, allPlain, PW.wr, setO, killO, Bool.or_self, Bool.not_true, List.length_cons, List.length_nil]
      repeat (refine PRun.wpn rfl ?_; simp only [wp, wo_r, wo_call, onO_s, pv_t, put_some, pevR, getP, setP, evsP, look, PW.cs?, cutP, List.length_cons, List.length_nil, List.drop_zero, List.take_zero, List.take_succ_cons, Option.map_some, Option.bind_some, Nat.zero_le, true_and, ↓reduceIte, Nat.reduceAdd, Nat.reduceEqDiff, Nat.zero_add, List.length_cons, List.length_nil, Nat.le_refl])
      refine .refl (PFun.to (n2) rfl (POps.wp ?_))
      simp only [wo_nil, wo_n, wo_st, onN_s, onE_s, ble0, pv_t, ov_nil, ov_cons, ov_nilS, put_some, put_none, pevN, pevE, getP, setP, spliceP, overP, plainP, look, PW.push, List.length_cons, List.length_nil, Option.map_some, Bool.and_true, ↓reduceIte, ltL, lt, Nat.reduceAdd, Bool.false_eq_true, Nat.zero_add, allPlain, PW.wr, setO, killO, Bool.or_self, Bool.not_true, List.length_cons, List.length_nil]
      repeat (refine PRun.wpn rfl ?_; simp only [wp, wo_r, wo_call, onO_s, pv_t, put_some, pevR, getP, setP, evsP, look, PW.cs?, cutP, List.length_cons, List.length_nil, List.drop_zero, List.take_zero, List.take_succ_cons, Option.map_some, Option.bind_some, Nat.zero_le, true_and, ↓reduceIte, Nat.reduceAdd, Nat.reduceEqDiff, Nat.zero_add, List.length_cons, List.length_nil, Nat.le_refl])
      refine .refl (PFun.to (n3) rfl (POps.wp ?_))
      simp only [wo_nil, wo_p, onO_s, pv_t, put_some, pevP, getP, setP]
      repeat (refine PRun.wpn rfl ?_; simp only [wp, wo_nil, wo_p, wo_g, beq_self_eq_true, onO_s, onG_t, wanted_g, pv_t, put_some, pevP, getP, setP, eqP, Option.map_some, or_true, true_and, reduceCtorEq, Bool.bne_false, eqv_bool])
      exact .refl ⟨_, rfl, .refl _⟩
  · have hkn' : k = n := by omega
    subst hkn'
    generalize alikeF ⟨s, l⟩ ⟨s', l'⟩ k = al at *
    subst hl1
    repeat (refine PRun.wpn rfl ?_; simp only [wp, wo_nil, wo_p, wo_r, wo_call, wo_g, onO_s, onG_f, wanted_g, b_ft, pv_t, pv_bool, put_some, bi_lss, pevP, pevR, getP, setP, evsP, look, PW.cs?, cutP, List.length_cons, List.length_nil, List.drop_zero, List.take_zero, List.take_succ_cons, Option.map_some, Option.bind_some, Nat.zero_le, true_and, ↓reduceIte, reduceCtorEq, Nat.reduceAdd, Bool.false_eq_true, Nat.zero_add, List.length_cons, List.length_nil, Nat.le_refl, ltB_f hkn])
    refine .refl (PFun.to (n1) rfl (POps.wp ?_))
    simp only [wo_nil, wo_n, wo_st, onN_s, onE_s, ble0, pv_t, ov_nil, ov_cons, ov_nilS, put_some, put_none, pevN, pevE, getP, setP, spliceP, overP, plainP, look, PW.push, List.length_cons, List.length_nil, Option.map_some, Bool.and_true, ↓reduceIte, ltL, lt, Nat.reduceAdd, Bool.false_eq_true, Nat.zero_add, allPlain, PW.wr, setO, killO, Bool.or_self, Bool.not_true, List.length_cons, List.length_nil]
    repeat (refine PRun.wpn rfl ?_; simp only [wp, wo_r, wo_call, onO_s, pv_t, put_some, pevR, getP, setP, evsP, look, PW.cs?, cutP, List.length_cons, List.length_nil, List.drop_zero, List.take_zero, List.take_succ_cons, Option.map_some, Option.bind_some, Nat.zero_le, true_and, ↓reduceIte, Nat.reduceAdd, Nat.reduceEqDiff, Nat.zero_add, List.length_cons, List.length_nil, Nat.le_refl])
    refine .refl (PFun.to (n2) rfl (POps.wp ?_))
    simp only [wo_nil, wo_n, wo_st, onN_s, onE_s, ble0, pv_t, ov_nil, ov_cons, ov_nilS, put_some, put_none, pevN, pevE, getP, setP, spliceP, overP, plainP, look, PW.push, List.length_cons, List.length_nil, Option.map_some, Bool.and_true, ↓reduceIte, ltL, lt, Nat.reduceAdd, Bool.false_eq_true, Nat.zero_add, allPlain, PW.wr, setO, killO, Bool.or_self, Bool.not_true, List.length_cons, List.length_nil]
    repeat (refine PRun.wpn rfl ?_; simp only [wp, wo_r, wo_call, onO_s, pv_t, put_some, pevR, getP, setP, evsP, look, PW.cs?, cutP, List.length_cons, List.length_nil, List.drop_zero, List.take_zero, List.take_succ_cons, Option.map_some, Option.bind_some, Nat.zero_le, true_and, ↓reduceIte, Nat.reduceAdd, Nat.reduceEqDiff, Nat.zero_add, List.length_cons, List.length_nil, Nat.le_refl])
    refine .refl (PFun.to (n3) rfl (POps.wp ?_))
    simp only [wo_nil, wo_p, onO_s, pv_t, put_some, pevP, getP, setP]
    repeat (refine PRun.wpn rfl ?_; simp only [wp, wo_nil, wo_p, wo_g, beq_self_eq_true, onO_s, onG_t, wanted_g, pv_t, put_some, pevP, getP, setP, eqP, Option.map_some, or_true, true_and, reduceCtorEq, Bool.bne_false, eqv_bool])
    exact .refl ⟨_, rfl, .refl _⟩
end
end Go.Proofs.YtkldgoapompinaaDoor.Ai

namespace Go.Proofs.YtkldgoapompinaaDoor.Ai
open Go
theorem dn_ev (w : Wd) (hl : 0 < w.loop.length) (j : Nat) (h : w.stem.length ≤ j) : dn w (j + w.loop.length) = dn w j := by
  unfold dn
  rw [if_neg (by omega), if_neg (by omega)]
  rw [show j + w.loop.length - w.stem.length = (j - w.stem.length) + w.loop.length by omega, Nat.add_mod_right]
theorem dn_all {a c : Wd} (ha : 0 < a.loop.length) (hc : 0 < c.loop.length) (h : ∀ i, i < max a.stem.length c.stem.length + a.loop.length + c.loop.length → dn a i = dn c i) (i : Nat) : dn a i = dn c i := by
  induction i using Nat.strongRecOn with
  | ind i ih =>
    by_cases hi : i < max a.stem.length c.stem.length + a.loop.length + c.loop.length
    · exact h i hi
    · have e1 : i - a.loop.length + a.loop.length = i := by omega
      have e2 : i - a.loop.length - c.loop.length + c.loop.length = i - a.loop.length := by omega
      have e3 : i - a.loop.length - c.loop.length + a.loop.length = i - c.loop.length := by omega
      have e4 : i - c.loop.length + c.loop.length = i := by omega
      have f1 := dn_ev a ha (i - a.loop.length) (by omega)
      have f2 := dn_ev c hc (i - a.loop.length - c.loop.length) (by omega)
      have f3 := dn_ev a ha (i - a.loop.length - c.loop.length) (by omega)
      have f4 := dn_ev c hc (i - c.loop.length) (by omega)
      rw [e1] at f1
      rw [e2] at f2
      rw [e3] at f3
      rw [e4] at f4
      rw [f1, ih _ (by omega), f2, ← ih _ (by omega), ← f3, ih _ (by omega), f4]
theorem same_comm (a c : Wd) : same c a = same a c := by
  unfold same
  rw [decide_eq_decide]
  exact ⟨fun ⟨h1, h2, h3, h4⟩ => ⟨h2, h1, h3.symm, h4.symm⟩, fun ⟨h1, h2, h3, h4⟩ => ⟨h2, h1, h3.symm, h4.symm⟩⟩
theorem same_alike (a c : Wd) (ha : a.loop.length ≠ 0) (hc : c.loop.length ≠ 0) : same a c = alikeF a c (max a.stem.length c.stem.length + a.loop.length + c.loop.length) ∧ decide ((normal a).stem = (normal c).stem ∧ (normal a).loop = (normal c).loop) = same a c := by
  have ha' : 0 < a.loop.length := by omega
  have hc' : 0 < c.loop.length := by omega
  constructor
  · unfold same alikeF
    rw [decide_eq_decide]
    constructor
    · rintro ⟨_, _, h3, h4⟩ i _
      rw [atW_den a ha', atW_den c hc', ← normal_den a ha', ← normal_den c hc']
      unfold dn
      rw [h3, h4]
    · intro h
      have hn : normal a = normal c := normal_eq ha' hc' (dn_all ha' hc' fun i hi => by rw [← atW_den a ha', ← atW_den c hc']; exact h i hi)
      exact ⟨ha, hc, by rw [hn], by rw [hn]⟩
  · unfold same
    rw [decide_eq_decide]
    exact ⟨fun ⟨h1, h2⟩ => ⟨ha, hc, h1, h2⟩, fun ⟨_, _, h1, h2⟩ => ⟨h1, h2⟩⟩
theorem wsame_top {C : Ctx} (hm : C.P.follows .mixedOrders = true) (hC : TabOK C.P C.ng C.ts Tryd.tab) (hw : PFun C 12 [] (.lit (.bool true))) (a c : Wd) (h1 : a.stem.length < 2 ^ 60) (h2 : a.loop.length < 2 ^ 60) (h3 : c.stem.length < 2 ^ 60) (h4 : c.loop.length < 2 ^ 60) :
    PTop C Tryd.tab 5 [wrdP a, wrdP c] (.lit (.bool true)) := wsame_ok hm hC hw a c h1 h2 h3 h4 (same_comm a c) (same_alike a c)
end Go.Proofs.YtkldgoapompinaaDoor.Ai
