/- A PART OF THE PROOF: a step of the proof that the law's code does what its contracts say, by an interpreter of the program's functions that is proved to be sound. -/
import Derived.Test.YtkldgoapompinaaDoorW9a
import Derived.Test.YtkldgoapompinaaDoorPv3
namespace Go.Proofs.YtkldgoapompinaaDoor.Ai
open Go
set_option linter.unusedVariables false
set_option maxRecDepth 10000
theorem L16_snoc (p : List Int) (x : Int) : L16 p ++ [PV.lit (.int .u16 x)] = L16 (p ++ [x]) := by simp [L16]
/-- the letters behind: so many of the loop, from its place m on -/
def more (loop : List Int) (m n : Nat) : List Int := (List.range n).map fun i => loop.getD ((m + i) % loop.length) 0
theorem more_succ (loop : List Int) (m n : Nat) : more loop m (n + 1) = more loop m n ++ [loop.getD ((m + n) % loop.length) 0] := by simp [more, List.range_succ]
theorem more_len (loop : List Int) (m n : Nat) : (more loop m n).length = n := by simp [more]
section
variable {C : Ctx} (hm : C.P.follows .mixedOrders = true) (hC : TabOK C.P C.ng C.ts Tryd.tab)
include hm hC
theorem wnormal_ok (hw : PFun C 12 [] (.lit (.bool true))) (w : Wd) (times mo : Int) (h0 : -9223372036854775808 ≤ times) (h0' : times < 9223372036854775808) (h9 : -9223372036854775808 ≤ mo) (h9' : mo < 9223372036854775808) (h1 : w.stem.length < 2 ^ 61) (h2 : w.loop.length < 2 ^ 61)
    (hN : 0 < w.loop.length → ∀ k m : Nat, 0 < k → normal ⟨w.stem ++ more w.loop 0 m, more w.loop m (k * w.loop.length)⟩ = normal w) (hNN : 0 < w.loop.length → normal (normal w) = normal w) (hP : places (normal w) ≤ places w) :
    PTop C Tryd.tab 6 [wrdP w, .lit (.int .i64 times), .lit (.int .i64 mo)] (.lit (.bool true)) := by
  by_cases hl : ((w.loop.length : Nat) : Int) = 0
  · obtain ⟨stem, loop⟩ := w
    simp only at h1 h2 hl
    refine PTop.body (show Tryd.tab.get 6 = some Tryd.c6 from rfl) ?_
    simp only [Tryd.c6, startP, List.length_cons, List.length_nil, Nat.reduceAdd, Nat.reduceSub, List.replicate, List.cons_append, List.nil_append, wrdP, szU]
    repeat (refine PRun.wpn rfl ?_; simp only [wp, wo_nil, wo_p, wo_n, wo_call, onO_s, onN_s, ble_self, pv_t, pv_bool, put_some, pevP, pevN, getP, setP, evsP, boxP, PW.push, PW.none, Option.map_some, Nat.zero_le, true_and, Nat.zero_add, resPs, resP, tupP])
    refine .refl (PFun.to (hw) rfl (POps.wp ?_))
    simp only [wo_nil, wo_p, onO_s, pv_t, put_some, pevP, getP, setP]
    repeat (refine PRun.wpn rfl ?_; simp only [wp, wo_nil, wo_p, wo_r, wo_g, onO_s, onG_f, wanted_g, b_tf, pv_t, pv_int, pv_bool, put_some, bi_eql, pevP, pevR, getP, setP, look, PW.cs?, nthP, Option.map_some, Option.bind_some, or_true, true_and, ↓reduceIte, reduceCtorEq, Nat.zero_add, eqB_t hl])
    exact .refl ⟨_, rfl, .refl _⟩
  have e0 : IntKind.i64.wrap ((w.stem.length : Nat) + (w.loop.length : Nat)) = ((w.stem.length + w.loop.length : Nat) : Int) := by rw [wrap64 (by omega) (by omega)]; omega
  by_cases hbig : (3000 : Int) < ((w.stem.length + w.loop.length : Nat) : Int)
  · obtain ⟨stem, loop⟩ := w
    simp only at h1 h2 hl e0 hbig
    refine PTop.body (show Tryd.tab.get 6 = some Tryd.c6 from rfl) ?_
    simp only [Tryd.c6, startP, List.length_cons, List.length_nil, Nat.reduceAdd, Nat.reduceSub, List.replicate, List.cons_append, List.nil_append, wrdP, szU]
    repeat (refine PRun.wpn rfl ?_; simp only [wp, wo_nil, wo_p, wo_n, wo_call, onO_s, onN_s, ble_self, pv_t, pv_bool, put_some, pevP, pevN, getP, setP, evsP, boxP, PW.push, PW.none, Option.map_some, Nat.zero_le, true_and, Nat.zero_add, resPs, resP, tupP])
    refine .refl (PFun.to (hw) rfl (POps.wp ?_))
    simp only [wo_nil, wo_p, onO_s, pv_t, put_some, pevP, getP, setP]
    repeat (refine PRun.wpn rfl ?_; simp only [wp, wo_nil, wo_p, wo_r, wo_g, beq_self_eq_true, onO_s, onG_t, wanted_g, pv_t, pv_int, put_some, bi_add, bi_eql, bi_gtr, pevP, pevR, getP, setP, look, PW.cs?, nthP, Option.map_some, Option.bind_some, or_true, true_and, ↓reduceIte, reduceCtorEq, Nat.add_zero, Nat.zero_add, eqB_f hl, e0, ltB_t hbig])
    exact .refl ⟨_, rfl, .refl _⟩
  have hl0 : 0 < w.loop.length := by omega
  have p1 := pick_ok hm hC times 4 h0 h0' (by omega)
  have p2 := pick_ok hm hC mo (2 * w.loop.length + 1) h9 h9' (by omega)
  have hk : pickF times 4 < 4 := Nat.mod_lt _ (by omega)
  have hmm : pickF mo (2 * w.loop.length + 1) < 2 * w.loop.length + 1 := Nat.mod_lt _ (by omega)
  generalize pickF times 4 = k0 at *
  generalize pickF mo (2 * w.loop.length + 1) = m at *
  obtain ⟨k, hk1⟩ : ∃ k, k = 1 + k0 := ⟨_, rfl⟩
  have e1 : IntKind.i64.wrap (1 + (k0 : Nat)) = (k : Nat) := by rw [wrap64 (by omega) (by omega)]; omega
  have e2 : IntKind.i64.wrap (2 * (w.loop.length : Nat)) = ((2 * w.loop.length : Nat) : Int) := by rw [wrap64 (by omega) (by omega)]; omega
  have e3 : IntKind.i64.wrap (((2 * w.loop.length : Nat) : Int) + 1) = ((2 * w.loop.length + 1 : Nat) : Int) := by rw [wrap64 (by omega) (by omega)]; omega
  have n1 := normal_ok hm hC w (by omega) (by omega)
  have n2 := normal_ok hm hC ⟨w.stem ++ more w.loop 0 m, more w.loop m (k * w.loop.length)⟩ (by simp [more_len]; omega) (by simp only [more_len]; have : k * w.loop.length ≤ 4 * w.loop.length := Nat.mul_le_mul_right _ (by omega); omega)
  have n3 := normal_ok hm hC (normal w) (by have := normal_stem w; omega) (by have := normal_loop w; omega)
  have k0' : 0 < k := by omega
  have klen : k * w.loop.length ≤ 4 * w.loop.length := Nat.mul_le_mul_right _ (by omega)
  have kpos : 0 < k * w.loop.length := Nat.mul_pos k0' hl0
  have s1 := same_ok hm hC w ⟨w.stem ++ more w.loop 0 m, more w.loop m (k * w.loop.length)⟩ (by omega) (by omega) (by simp [more_len]; omega) (by simp only [more_len]; omega)
  have s2 : same w ⟨w.stem ++ more w.loop 0 m, more w.loop m (k * w.loop.length)⟩ = true := by
    unfold same
    rw [hN hl0 k m k0']
    exact decide_eq_true ⟨by omega, by simp only [more_len]; omega, rfl, rfl⟩
  rw [s2] at s1
  rw [hN hl0 k m k0'] at n2
  rw [hNN hl0] at n3
  have c1 := sameWord_ok hm hC (normal w) (normal w) (by have := normal_stem w; omega) (by have := normal_loop w; omega)
  rw [decide_eq_true ⟨rfl, rfl⟩] at c1
  have v1 := places_ok hm hC (normal w) (by have := normal_stem w; omega) (by have := normal_loop w; omega)
  have v2 := places_ok hm hC w (by omega) (by omega)
  have hPl : ((places (normal w) : Nat) : Int) ≤ (places w : Nat) := by omega
  have e4 : IntKind.i64.wrap ((k : Nat) * (w.loop.length : Nat)) = ((k * w.loop.length : Nat) : Int) := by rw [wrap64 (by rw [← Int.natCast_mul]; omega) (by rw [← Int.natCast_mul]; omega)]; simp
  clear hN hNN hP s2
  generalize normal w = nw at *
  generalize places nw = pl1 at *
  generalize places w = pl2 at *
  obtain ⟨stem, loop⟩ := w
  obtain ⟨ns, nl⟩ := nw
  simp only at h1 h2 hl e0 hbig hl0 p2 hmm e2 e3 e4 n2 klen kpos s1
  simp only [wrdP, szU] at n1 n2 n3 s1 c1 v1 v2
  have a0 : ¬ stem.length = 0 → ¬ 140737488355328 < (2 * stem.length + 768) * 2 := by omega
  refine PTop.body (show Tryd.tab.get 6 = some Tryd.c6 from rfl) ?_
  simp only [Tryd.c6, startP, List.length_cons, List.length_nil, Nat.reduceAdd, Nat.reduceSub, List.replicate, List.cons_append, List.nil_append, wrdP, szU]
  repeat (refine PRun.wpn rfl ?_; simp only [wp, wo_nil, wo_p, wo_n, wo_call, onO_s, onN_s, ble_self, pv_t, pv_bool, put_some, pevP, pevN, getP, setP, evsP, boxP, PW.push, PW.none, Option.map_some, Nat.zero_le, true_and, Nat.zero_add, resPs, resP, tupP])
  refine .refl (PFun.to (hw) rfl (POps.wp ?_))
  simp only [wo_nil, wo_p, onO_s, pv_t, put_some, pevP, getP, setP]
  repeat (refine PRun.wpn rfl ?_; simp only [wp, wo_nil, wo_p, wo_r, wo_call, wo_g, beq_self_eq_true, onO_s, onG_t, wanted_g, pv_t, pv_int, put_some, bi_add, bi_eql, bi_gtr, pevP, pevR, getP, setP, evsP, look, PW.cs?, nthP, Option.map_some, Option.bind_some, Nat.zero_le, true_and, ↓reduceIte, Bool.false_eq_true, Nat.add_zero, Nat.zero_add, eqB_f hl, e0, ltB_f hbig])
  refine .refl (PFun.to (p1) rfl (POps.wp ?_))
  simp only [wo_nil, wo_p, onO_s, pv_t, pv_int, put_some, bi_add, pevP, getP, setP, Option.map_some, e1]
  repeat (refine PRun.wpn rfl ?_; simp only [wp, wo_p, wo_r, wo_call, onO_s, pv_t, pv_int, put_some, bi_add, bi_mul, pevP, pevR, getP, setP, evsP, look, PW.cs?, nthP, Option.map_some, Option.bind_some, Nat.zero_le, true_and, ↓reduceIte, Nat.zero_add, e2, e3])
  refine .refl (PFun.to (p2) rfl (POps.wp ?_))
  simp only [wo_nil, wo_p, onO_s, pv_t, put_some, pevP, getP, setP]
  refine PRun.wpn rfl ?_
  simp only [wp, wo_nil, wo_n, onN_s, ble_succ, ov_nil, ov_cons, ov_nilS, put_some, pevN, setP, PW.push, Bool.and_true, ↓reduceIte, ltL, lt, Nat.reduceAdd]
  refine PRun.seqc (fun t π => t = (.junk :: .junk :: .junk :: .ptr 0 0 :: .junk :: .junk :: .lit (.bool false) :: .lit (.bool true) :: .lit (.int .i64 (k : Nat)) :: .lit (.int .i64 (m : Nat)) :: .ptr 1 0 :: .junk :: .junk :: .junk :: .junk :: .junk :: .junk :: .junk :: .junk :: .junk :: .junk :: .junk :: .junk :: .junk :: .junk :: .junk :: .junk :: .junk :: .junk :: .junk :: .junk :: .junk :: .junk :: .junk :: .junk :: .junk :: .junk :: .junk :: .junk :: .junk :: .junk :: .junk :: .junk :: .junk :: .junk :: .junk :: .junk :: .junk :: .junk :: .junk :: .junk :: .junk :: .junk :: .junk :: .junk :: .junk :: .junk :: .junk :: .junk :: .junk :: .junk :: .junk :: .junk :: .junk :: .junk :: .junk :: .junk :: .junk :: .junk :: .junk :: .junk :: .junk :: .junk :: .junk :: .junk :: .junk :: .junk :: .junk :: .junk :: .junk :: .junk :: .junk :: .junk :: .junk :: .junk :: .junk :: .junk :: .junk :: .junk :: .junk :: .junk :: .junk :: .junk :: .junk :: .junk :: .junk :: .junk :: .junk :: .junk :: .junk :: .junk :: .junk :: .junk :: .junk :: .junk :: .junk :: .junk :: .junk :: .junk :: .junk :: .junk :: .junk :: .junk :: .junk :: .junk :: .junk :: .junk :: .junk :: .junk :: .junk :: .junk :: .junk :: .junk :: .junk :: .junk :: .junk :: .junk :: []) ∧ ∃ p, p = stem ∧ ((p = [] ∧ π = ⟨4, [(1, .cells [.lit (.slice none 0 0), .lit (.slice none 0 0)] 25 2 true false []), (0, .cells [.sz (L16 stem) stem.length, .sz (L16 loop) loop.length] 25 2 true false [])]⟩) ∨ (p ≠ [] ∧ π = ⟨4, [(2, .cells (L16 p) 54 1 false false []), (1, .cells [.loc 2 0 p.length p.length, .lit (.slice none 0 0)] 25 2 true false []), (0, .cells [.sz (L16 stem) stem.length, .sz (L16 loop) loop.length] 25 2 true false [])]⟩))) ?_ ?_
  · by_cases hs0 : stem.length = 0
    · have hs1 : stem = [] := List.length_eq_zero_iff.1 hs0
      have hs2 : stem.length ≤ 0 := by omega
      repeat (refine PRun.wpn rfl ?_; simp only [wp, wo_nil, wo_p, wo_r, wo_st, wo_append, beq_self_eq_true, onO_s, onE_s, ble0, pv_t, put_some, put_none, pevP, pevR, pevE, getP, setP, lenP, srcP, appendP, spliceP, overP, plainP, isCell, look, PW.cs?, nthP, cutP, Option.map_some, Option.bind_some, Nat.mul_one, Bool.and_true, ↓reduceIte, reduceCtorEq, Bool.false_eq_true, Nat.add_zero, Nat.zero_add, allPlain, PW.wr, setO, killO, Bool.or_self, Bool.not_true, Nat.le_refl, eq_true hs0, eq_true hs2, L16_len, L16_take])
      try simp only [wp, wo_nil, wo_p, wo_r, wo_n, wo_call, wo_st, wo_append, wo_appendZ, wo_g, beq_self_eq_true, onO_s, onN_s, onE_s, onG_t, onG_f, wanted_g, b_tt, b_ff, b_tf, b_ft, onX_s, onXN_s, onXG_t, onXG_f, onXI_s, rdX_e, ltN, ble0, ble_self, ble_succ, and_tt, ltD_s, onD_s, onDG_t, onDG_f, wx_nil, wx_cons, wx_p, wx_r, wx_n, wx_g, wd_cons, wd_e, wd_g, pv_t, pv_int, pv_bool, pv_str, pv_nilS, pv_nilP, pv_nilI, pv_nilF, pv_nilM, ov_nil, ov_cons, ov_int, ov_bool, ov_str, ov_nilS, ov_nilP, ov_nilI, ov_nilF, ov_nilM, ov_agg, put_some, put_none, bi_add, bi_sub, bi_mul, bi_eql, bi_neq, bi_lss, bi_leq, bi_gtr, bi_geq, pevP, pevR, pevN, pevE, getP, setP, nthO, evsP, eqP, lenP, srcP, appendP, fillP, boxP, pcells, spliceP, overP, plainP, isCell, look, PW.cs?, PW.exactAt, PW.push, PW.none, nthP, cutP, partP, boundP, baseP, ROp.base, List.length_cons, List.length_nil, List.drop_zero, List.drop_succ_cons, List.take_zero, List.take_succ_cons, Option.map_some, Option.map_none, Option.bind_some, Option.bind_none, Nat.zero_le, Option.isNone_none, Option.isNone_some, true_or, or_true, Nat.mul_one, Nat.sub_zero, Int.natCast_nonneg, Int.toNat_natCast, nc0, nc1, nc2, tn0, tn1, tn2, Int.le_refl, Int.lt_irrefl, Nat.lt_irrefl, Int.sub_self, Int.sub_zero, and_self, flat_one, true_and, and_true, Bool.and_true, Bool.true_and, Bool.false_and, Bool.and_false, if_true, if_false, ↓reduceIte, reduceCtorEq, ltL, lt, ltFn, Nat.reduceAdd, Nat.reduceMul, Nat.reduceLeDiff, Nat.reduceLT, Nat.reduceEqDiff, Nat.reduceSub, Option.isSome_some, Option.isSome_none, Bool.false_eq_true, Nat.add_zero, Nat.zero_add, allPlain, PW.wr, setO, killO, Bool.or_self, Bool.or_false, Bool.false_or, Bool.not_true, Bool.not_false, Bool.true_bne, Bool.false_bne, Bool.bne_false, Bool.bne_true, resPs, resP, tupP, ltB_iff, leB_iff, eqB_iff, neB_iff, decide_eq_true_eq, frzL, frzP, frzO, frzE, frzH, noAlP, pureL, pureP, renL, renP, renO, renE, renH, renA, lkN, maskP, List.nil_append, List.append_nil, List.cons_append, List.length_cons, List.length_nil, Nat.not_lt, ge_iff_le, gt_iff_lt, Nat.le_refl, eq_true hs0, eq_true hs2, L16_len, L16_take]
      refine Gh.mr (false :: false :: false :: true :: false :: false :: true :: true :: true :: true :: true :: false :: false :: false :: false :: false :: false :: false :: false :: false :: false :: false :: false :: false :: false :: false :: false :: false :: false :: false :: false :: false :: false :: false :: false :: false :: false :: false :: false :: false :: false :: false :: false :: false :: false :: false :: false :: false :: false :: false :: false :: false :: false :: false :: false :: false :: false :: false :: false :: false :: false :: false :: false :: false :: false :: false :: false :: false :: false :: false :: false :: false :: false :: false :: false :: false :: false :: false :: false :: false :: false :: false :: false :: false :: false :: false :: false :: false :: false :: false :: false :: false :: false :: false :: false :: false :: false :: false :: false :: false :: false :: false :: false :: false :: false :: false :: false :: false :: false :: false :: false :: false :: false :: false :: false :: false :: false :: false :: false :: false :: false :: false :: false :: false :: false :: false :: false :: []) [(0, 0), (1, 1)] 4 rfl ?_
      exact ⟨rfl, stem, rfl, .inl ⟨hs1, rfl⟩⟩
    · have hs1 : stem ≠ [] := fun h => hs0 (by rw [h]; rfl)
      have hs2 : ¬ stem.length ≤ 0 := by omega
      have a1 := a0 hs0
      repeat (refine PRun.wpn rfl ?_; simp only [wp, wo_p, wo_r, wo_append, onO_s, ble0, pv_t, put_some, pevP, pevR, pevE, getP, setP, lenP, srcP, appendP, look, PW.cs?, PW.push, nthP, cutP, Option.bind_some, Nat.mul_one, ↓reduceIte, reduceCtorEq, Nat.reduceAdd, Nat.add_zero, Nat.zero_add, Bool.false_or, Bool.not_true, gt_iff_lt, Nat.le_refl, hs2, a1, L16_len, L16_take, allPlain_L16])
      try simp only [wp, wo_nil, wo_p, wo_r, wo_n, wo_call, wo_st, wo_append, wo_appendZ, wo_g, beq_self_eq_true, onO_s, onN_s, onE_s, onG_t, onG_f, wanted_g, b_tt, b_ff, b_tf, b_ft, onX_s, onXN_s, onXG_t, onXG_f, onXI_s, rdX_e, ltN, ble0, ble_self, ble_succ, and_tt, ltD_s, onD_s, onDG_t, onDG_f, wx_nil, wx_cons, wx_p, wx_r, wx_n, wx_g, wd_cons, wd_e, wd_g, pv_t, pv_int, pv_bool, pv_str, pv_nilS, pv_nilP, pv_nilI, pv_nilF, pv_nilM, ov_nil, ov_cons, ov_int, ov_bool, ov_str, ov_nilS, ov_nilP, ov_nilI, ov_nilF, ov_nilM, ov_agg, put_some, put_none, bi_add, bi_sub, bi_mul, bi_eql, bi_neq, bi_lss, bi_leq, bi_gtr, bi_geq, pevP, pevR, pevN, pevE, getP, setP, nthO, evsP, eqP, lenP, srcP, appendP, fillP, boxP, pcells, spliceP, overP, plainP, isCell, look, PW.cs?, PW.exactAt, PW.push, PW.none, nthP, cutP, partP, boundP, baseP, ROp.base, List.length_cons, List.length_nil, List.drop_zero, List.drop_succ_cons, List.take_zero, List.take_succ_cons, Option.map_some, Option.map_none, Option.bind_some, Option.bind_none, Nat.zero_le, Option.isNone_none, Option.isNone_some, true_or, or_true, Nat.mul_one, Nat.sub_zero, Int.natCast_nonneg, Int.toNat_natCast, nc0, nc1, nc2, tn0, tn1, tn2, Int.le_refl, Int.lt_irrefl, Nat.lt_irrefl, Int.sub_self, Int.sub_zero, and_self, flat_one, true_and, and_true, Bool.and_true, Bool.true_and, Bool.false_and, Bool.and_false, if_true, if_false, ↓reduceIte, reduceCtorEq, ltL, lt, ltFn, Nat.reduceAdd, Nat.reduceMul, Nat.reduceLeDiff, Nat.reduceLT, Nat.reduceEqDiff, Nat.reduceSub, Option.isSome_some, Option.isSome_none, Bool.false_eq_true, Nat.add_zero, Nat.zero_add, allPlain, PW.wr, setO, killO, Bool.or_self, Bool.or_false, Bool.false_or, Bool.not_true, Bool.not_false, Bool.true_bne, Bool.false_bne, Bool.bne_false, Bool.bne_true, resPs, resP, tupP, ltB_iff, leB_iff, eqB_iff, neB_iff, decide_eq_true_eq, frzL, frzP, frzO, frzE, frzH, noAlP, pureL, pureP, renL, renP, renO, renE, renH, renA, lkN, maskP, List.nil_append, List.append_nil, List.cons_append, List.length_cons, List.length_nil, Nat.not_lt, ge_iff_le, gt_iff_lt, Nat.le_refl, hs0, hs2, a1, L16_len, L16_take, allPlain_L16]
      repeat (refine PRun.wpn rfl ?_; simp only [wp, wo_nil, wo_p, wo_r, wo_n, wo_call, wo_st, wo_append, wo_appendZ, wo_g, beq_self_eq_true, onO_s, onN_s, onE_s, onG_t, onG_f, wanted_g, b_tt, b_ff, b_tf, b_ft, onX_s, onXN_s, onXG_t, onXG_f, onXI_s, rdX_e, ltN, ble0, ble_self, ble_succ, and_tt, ltD_s, onD_s, onDG_t, onDG_f, wx_nil, wx_cons, wx_p, wx_r, wx_n, wx_g, wd_cons, wd_e, wd_g, pv_t, pv_int, pv_bool, pv_str, pv_nilS, pv_nilP, pv_nilI, pv_nilF, pv_nilM, ov_nil, ov_cons, ov_int, ov_bool, ov_str, ov_nilS, ov_nilP, ov_nilI, ov_nilF, ov_nilM, ov_agg, put_some, put_none, bi_add, bi_sub, bi_mul, bi_eql, bi_neq, bi_lss, bi_leq, bi_gtr, bi_geq, pevP, pevR, pevN, pevE, getP, setP, nthO, evsP, eqP, lenP, srcP, appendP, fillP, boxP, pcells, spliceP, overP, plainP, isCell, look, PW.cs?, PW.exactAt, PW.push, PW.none, nthP, cutP, partP, boundP, baseP, ROp.base, List.length_cons, List.length_nil, List.drop_zero, List.drop_succ_cons, List.take_zero, List.take_succ_cons, Option.map_some, Option.map_none, Option.bind_some, Option.bind_none, Nat.zero_le, Option.isNone_none, Option.isNone_some, true_or, or_true, Nat.mul_one, Nat.sub_zero, Int.natCast_nonneg, Int.toNat_natCast, nc0, nc1, nc2, tn0, tn1, tn2, Int.le_refl, Int.lt_irrefl, Nat.lt_irrefl, Int.sub_self, Int.sub_zero, and_self, flat_one, true_and, and_true, Bool.and_true, Bool.true_and, Bool.false_and, Bool.and_false, if_true, if_false, ↓reduceIte, reduceCtorEq, ltL, lt, ltFn, Nat.reduceAdd, Nat.reduceMul, Nat.reduceLeDiff, Nat.reduceLT, Nat.reduceEqDiff, Nat.reduceSub, Option.isSome_some, Option.isSome_none, Bool.false_eq_true, Nat.add_zero, Nat.zero_add, allPlain, PW.wr, setO, killO, Bool.or_self, Bool.or_false, Bool.false_or, Bool.not_true, Bool.not_false, Bool.true_bne, Bool.false_bne, Bool.bne_false, Bool.bne_true, resPs, resP, tupP, ltB_iff, leB_iff, eqB_iff, neB_iff, decide_eq_true_eq, frzL, frzP, frzO, frzE, frzH, noAlP, pureL, pureP, renL, renP, renO, renE, renH, renA, lkN, maskP, List.nil_append, List.append_nil, List.cons_append, List.length_cons, List.length_nil, Nat.not_lt, ge_iff_le, gt_iff_lt, Nat.le_refl])
      refine Gh.mr (false :: false :: false :: true :: false :: false :: true :: true :: true :: true :: true :: false :: false :: false :: false :: false :: false :: false :: false :: false :: false :: false :: false :: false :: false :: false :: false :: false :: false :: false :: false :: false :: false :: false :: false :: false :: false :: false :: false :: false :: false :: false :: false :: false :: false :: false :: false :: false :: false :: false :: false :: false :: false :: false :: false :: false :: false :: false :: false :: false :: false :: false :: false :: false :: false :: false :: false :: false :: false :: false :: false :: false :: false :: false :: false :: false :: false :: false :: false :: false :: false :: false :: false :: false :: false :: false :: false :: false :: false :: false :: false :: false :: false :: false :: false :: false :: false :: false :: false :: false :: false :: false :: false :: false :: false :: false :: false :: false :: false :: false :: false :: false :: false :: false :: false :: false :: false :: false :: false :: false :: false :: false :: false :: false :: false :: false :: false :: []) [(0, 0), (1, 1), (2, 2)] 4 rfl ?_
      simp only [pv_t, put_some, put_none, getP, setP, true_and, ↓reduceIte, reduceCtorEq, Nat.reduceEqDiff, Bool.false_eq_true, Nat.add_zero, setO, killO, renL, renP, renO, renH, renA, lkN, maskP, renL_L16]
      exact ⟨stem, rfl, .inr ⟨hs1, rfl⟩⟩
  rintro t π ⟨rfl, p, hp, hpi⟩
  refine PRun.seqc (fun t π => t = (.junk :: .junk :: .junk :: .ptr 0 0 :: .junk :: .junk :: .lit (.bool false) :: .lit (.bool true) :: .lit (.int .i64 (k : Nat)) :: .lit (.int .i64 (m : Nat)) :: .ptr 1 0 :: .junk :: .junk :: .junk :: .junk :: .junk :: .junk :: .junk :: .junk :: .junk :: .junk :: .junk :: .junk :: .junk :: .junk :: .junk :: .junk :: .junk :: .junk :: .junk :: .junk :: .junk :: .junk :: .junk :: .junk :: .junk :: .junk :: .junk :: .junk :: .junk :: .junk :: .junk :: .junk :: .junk :: .junk :: .junk :: .junk :: .junk :: .junk :: .junk :: .junk :: .junk :: .junk :: .junk :: .junk :: .junk :: .junk :: .junk :: .junk :: .junk :: .junk :: .junk :: .junk :: .junk :: .junk :: .junk :: .junk :: .junk :: .junk :: .junk :: .junk :: .junk :: .junk :: .junk :: .junk :: .junk :: .junk :: .junk :: .junk :: .junk :: .junk :: .junk :: .junk :: .junk :: .junk :: .junk :: .junk :: .junk :: .junk :: .junk :: .junk :: .junk :: .junk :: .junk :: .junk :: .junk :: .junk :: .junk :: .junk :: .junk :: .junk :: .junk :: .junk :: .junk :: .junk :: .junk :: .junk :: .junk :: .junk :: .junk :: .junk :: .junk :: .junk :: .junk :: .junk :: .junk :: .junk :: .junk :: .junk :: .junk :: .junk :: .junk :: .junk :: .junk :: .junk :: .junk :: .junk :: []) ∧ ∃ p, p = stem ++ more loop 0 m ∧ ((p = [] ∧ π = ⟨4, [(1, .cells [.lit (.slice none 0 0), .lit (.slice none 0 0)] 25 2 true false []), (0, .cells [.sz (L16 stem) stem.length, .sz (L16 loop) loop.length] 25 2 true false [])]⟩) ∨ (p ≠ [] ∧ π = ⟨4, [(2, .cells (L16 p) 54 1 false false []), (1, .cells [.loc 2 0 p.length p.length, .lit (.slice none 0 0)] 25 2 true false []), (0, .cells [.sz (L16 stem) stem.length, .sz (L16 loop) loop.length] 25 2 true false [])]⟩))) ?_ ?_
  · repeat (refine PRun.wpn rfl ?_; simp only [wp, wo_nil, wo_p, onO_s, pv_int, put_some, pevP, setP])
    refine PRun.gh (Gh.mask (false :: false :: false :: true :: false :: false :: true :: true :: true :: true :: true :: true :: false :: false :: false :: false :: false :: false :: false :: false :: false :: false :: false :: false :: false :: false :: false :: false :: false :: false :: false :: false :: false :: false :: false :: false :: false :: false :: false :: false :: false :: false :: false :: false :: false :: false :: false :: false :: false :: false :: false :: false :: false :: false :: false :: false :: false :: false :: false :: false :: false :: false :: false :: false :: false :: false :: false :: false :: false :: false :: false :: false :: false :: false :: false :: false :: false :: false :: false :: false :: false :: false :: false :: false :: false :: false :: false :: false :: false :: false :: false :: false :: false :: false :: false :: false :: false :: false :: false :: false :: false :: false :: false :: false :: false :: false :: false :: false :: false :: false :: false :: false :: false :: false :: false :: false :: false :: false :: false :: false :: false :: false :: false :: false :: false :: false :: false :: []) ?_)
    refine PRun.loopG (fun n t π => ∃ i p, t = (.junk :: .junk :: .junk :: .ptr 0 0 :: .junk :: .junk :: .lit (.bool false) :: .lit (.bool true) :: .lit (.int .i64 (k : Nat)) :: .lit (.int .i64 (m : Nat)) :: .ptr 1 0 :: .lit (.int .i64 (i : Nat)) :: .junk :: .junk :: .junk :: .junk :: .junk :: .junk :: .junk :: .junk :: .junk :: .junk :: .junk :: .junk :: .junk :: .junk :: .junk :: .junk :: .junk :: .junk :: .junk :: .junk :: .junk :: .junk :: .junk :: .junk :: .junk :: .junk :: .junk :: .junk :: .junk :: .junk :: .junk :: .junk :: .junk :: .junk :: .junk :: .junk :: .junk :: .junk :: .junk :: .junk :: .junk :: .junk :: .junk :: .junk :: .junk :: .junk :: .junk :: .junk :: .junk :: .junk :: .junk :: .junk :: .junk :: .junk :: .junk :: .junk :: .junk :: .junk :: .junk :: .junk :: .junk :: .junk :: .junk :: .junk :: .junk :: .junk :: .junk :: .junk :: .junk :: .junk :: .junk :: .junk :: .junk :: .junk :: .junk :: .junk :: .junk :: .junk :: .junk :: .junk :: .junk :: .junk :: .junk :: .junk :: .junk :: .junk :: .junk :: .junk :: .junk :: .junk :: .junk :: .junk :: .junk :: .junk :: .junk :: .junk :: .junk :: .junk :: .junk :: .junk :: .junk :: .junk :: .junk :: .junk :: .junk :: .junk :: .junk :: .junk :: .junk :: .junk :: .junk :: .junk :: .junk :: .junk :: .junk :: []) ∧ i ≤ m ∧ n = m - i ∧ p = stem ++ more loop 0 i ∧ ((p = [] ∧ π = ⟨4, [(1, .cells [.lit (.slice none 0 0), .lit (.slice none 0 0)] 25 2 true false []), (0, .cells [.sz (L16 stem) stem.length, .sz (L16 loop) loop.length] 25 2 true false [])]⟩) ∨ (p ≠ [] ∧ π = ⟨4, [(2, .cells (L16 p) 54 1 false false []), (1, .cells [.loc 2 0 p.length p.length, .lit (.slice none 0 0)] 25 2 true false []), (0, .cells [.sz (L16 stem) stem.length, .sz (L16 loop) loop.length] 25 2 true false [])]⟩))) ?_ m _ _ ⟨0, p, rfl, by omega, by omega, by rw [hp]; simp [more], hpi⟩
    clear hpi hp p
    rintro n t π ⟨i, p, rfl, hi, rfl, hp, hpi⟩
    by_cases him : ((i : Nat) : Int) < (m : Nat)
    · have f2 : i % loop.length < loop.length := Nat.mod_lt _ hl0
      have f1 : ((i % loop.length : Nat) : Int) < (loop.length : Nat) := by omega
      have hnext : p ++ [loop[i % loop.length]] = stem ++ more loop 0 (i + 1) := by
        rw [hp, more_succ, List.append_assoc, Nat.zero_add]
        simp [List.getD, List.getElem?_eq_getElem f2]
      have hplen : p.length ≤ 20000 := by rw [hp, List.length_append, more_len]; omega
      rcases hpi with ⟨rfl, rfl⟩ | ⟨hp0, rfl⟩
      · repeat (refine PRun.wpn rfl ?_; simp only [wp, wo_nil, wo_p, onO_s, pv_t, put_some, bi_lss, pevP, getP, setP, Option.map_some, ↓reduceIte, ltB_iff, him])
        refine PDraw.stage (Nat.zero_le _) rfl ?_
        try dsimp only
        simp only [beq_self_eq_true, onX_s, onXN_s, onXI_s, rdX_e, ltN, ltD_s, onD_s, wx_nil, wx_cons, wx_p, wx_r, wx_n, wd_cons, wd_e, pv_t, ov_nil, ov_cons, ov_int, put_some, pevP, pevR, pevN, getP, setP, nthO, fillP, spliceP, overP, plainP, isCell, look, PW.cs?, PW.push, nthP, baseP, ROp.base, List.length_cons, List.length_nil, Option.map_some, Option.bind_some, Nat.mul_one, Int.natCast_nonneg, Int.toNat_natCast, and_self, Bool.and_true, ↓reduceIte, reduceCtorEq, ltL, lt, Nat.reduceAdd, Option.isSome_some, Nat.add_zero, Nat.zero_add, List.length_cons, List.length_nil, bi_rem hl, tmod_nat, f1, L16_drop f2]
        refine PDE.any (Nat.zero_le _) (PE.det (by simp only [pv_t, pevE, getP, lenP, srcP, appendP, plainP, isCell, look, PW.cs?, PW.push, cutP, List.length_cons, List.length_nil, List.drop_zero, List.take_zero, List.take_succ_cons, Option.bind_some, Nat.mul_one, Bool.and_true, ↓reduceIte, Nat.reduceAdd, Nat.reduceMul, Nat.reduceLeDiff, Nat.reduceLT, Nat.zero_add, allPlain, Bool.false_or, Bool.not_true, List.length_cons, List.length_nil, gt_iff_lt, Nat.le_refl]; rfl) ?_)
        refine PDraw.stage (Nat.zero_le _) rfl ?_
        try dsimp only
        simp only [onX_s, onXI_s, onD_s, wx_nil, wx_cons, wx_p, wd_cons, wd_e, pv_t, put_some, pevP, getP, setP, nthO, Nat.add_zero]
        refine PDE.any (Nat.zero_le _) (PE.det rfl ?_)
        refine PDraw.last (Nat.zero_le _) rfl ?_
        try dsimp only
        simp only [wx_nil, pv_t, put_none, getP, ↓reduceIte, Nat.reduceEqDiff, setO, killO]
        repeat (refine PRun.wpn rfl ?_; simp only [wp, wo_nil, wo_p, onO_s, pv_t, pv_int, put_some, bi_add, pevP, getP, setP, Option.map_some])
        rw [wrap64 (by omega) (by omega)]
        refine Gh.mr (false :: false :: false :: true :: false :: false :: true :: true :: true :: true :: true :: true :: false :: false :: false :: false :: false :: false :: false :: false :: false :: false :: false :: false :: false :: false :: false :: false :: false :: false :: false :: false :: false :: false :: false :: false :: false :: false :: false :: false :: false :: false :: false :: false :: false :: false :: false :: false :: false :: false :: false :: false :: false :: false :: false :: false :: false :: false :: false :: false :: false :: false :: false :: false :: false :: false :: false :: false :: false :: false :: false :: false :: false :: false :: false :: false :: false :: false :: false :: false :: false :: false :: false :: false :: false :: false :: false :: false :: false :: false :: false :: false :: false :: false :: false :: false :: false :: false :: false :: false :: false :: false :: false :: false :: false :: false :: false :: false :: false :: false :: false :: false :: false :: false :: false :: false :: false :: false :: false :: false :: false :: false :: false :: false :: false :: false :: false :: []) [(0, 0), (1, 1), (5, 2)] 4 rfl ?_
        exact ⟨m - (i + 1), by omega, i + 1, [loop[i % loop.length]], rfl, by omega, rfl, hnext, .inr ⟨by simp, rfl⟩⟩
      · have q1 : ¬ p.length + 1 ≤ p.length := by omega
        have q2 : ¬ 140737488355328 < (2 * (p.length + 1) + 768) * 2 := by omega
        repeat (refine PRun.wpn rfl ?_; simp only [wp, wo_nil, wo_p, onO_s, pv_t, put_some, bi_lss, pevP, getP, setP, Option.map_some, ↓reduceIte, ltB_iff, him])
        refine PDraw.stage (Nat.zero_le _) rfl ?_
        try dsimp only
        simp only [beq_self_eq_true, onX_s, onXN_s, onXI_s, rdX_e, ltN, ltD_s, onD_s, wx_nil, wx_cons, wx_p, wx_r, wx_n, wd_cons, wd_e, pv_t, ov_nil, ov_cons, ov_int, put_some, pevP, pevR, pevN, getP, setP, nthO, fillP, spliceP, overP, plainP, isCell, look, PW.cs?, PW.push, nthP, baseP, ROp.base, List.length_cons, List.length_nil, Option.map_some, Option.bind_some, Nat.mul_one, Int.natCast_nonneg, Int.toNat_natCast, and_self, Bool.and_true, ↓reduceIte, reduceCtorEq, ltL, lt, Nat.reduceAdd, Nat.reduceEqDiff, Option.isSome_some, Nat.add_zero, Nat.zero_add, List.length_cons, List.length_nil, bi_rem hl, tmod_nat, f1, L16_drop f2]
        refine PDE.any (Nat.zero_le _) (PE.det (by simp only [pv_t, pevE, getP, lenP, srcP, appendP, plainP, isCell, look, PW.cs?, PW.push, cutP, List.length_cons, List.length_nil, List.drop_zero, List.take_zero, List.take_succ_cons, Option.bind_some, Nat.mul_one, Bool.and_true, ↓reduceIte, Nat.reduceAdd, Nat.reduceEqDiff, Bool.false_eq_true, Nat.zero_add, allPlain, setO, Bool.or_self, Bool.not_true, List.length_cons, List.length_nil, gt_iff_lt, Nat.le_refl, q1, q2, L16_len, L16_take, bne_self_eq_false]; rfl) ?_)
        refine PDraw.stage (Nat.zero_le _) rfl ?_
        try dsimp only
        simp only [onX_s, onXI_s, onD_s, wx_nil, wx_cons, wx_p, wd_cons, wd_e, pv_t, put_some, pevP, getP, setP, nthO, Nat.add_zero]
        refine PDE.any (Nat.zero_le _) (PE.det rfl ?_)
        refine PDraw.last (Nat.zero_le _) rfl ?_
        try dsimp only
        simp only [wx_nil, pv_t, put_none, getP, ↓reduceIte, Nat.reduceEqDiff, setO, killO]
        repeat (refine PRun.wpn rfl ?_; simp only [wp, wo_nil, wo_p, onO_s, pv_t, pv_int, put_some, bi_add, pevP, getP, setP, Option.map_some])
        rw [wrap64 (by omega) (by omega)]
        refine Gh.mr (false :: false :: false :: true :: false :: false :: true :: true :: true :: true :: true :: true :: false :: false :: false :: false :: false :: false :: false :: false :: false :: false :: false :: false :: false :: false :: false :: false :: false :: false :: false :: false :: false :: false :: false :: false :: false :: false :: false :: false :: false :: false :: false :: false :: false :: false :: false :: false :: false :: false :: false :: false :: false :: false :: false :: false :: false :: false :: false :: false :: false :: false :: false :: false :: false :: false :: false :: false :: false :: false :: false :: false :: false :: false :: false :: false :: false :: false :: false :: false :: false :: false :: false :: false :: false :: false :: false :: false :: false :: false :: false :: false :: false :: false :: false :: false :: false :: false :: false :: false :: false :: false :: false :: false :: false :: false :: false :: false :: false :: false :: false :: false :: false :: false :: false :: false :: false :: false :: false :: false :: false :: false :: false :: false :: false :: false :: false :: []) [(0, 0), (1, 1), (5, 2)] 4 rfl ?_
        simp only [↓reduceIte, reduceCtorEq, Nat.reduceEqDiff, Bool.false_eq_true, renL, renP, renO, renH, renA, lkN, maskP, renL_L16, L16_snoc]
        exact ⟨m - (i + 1), by omega, i + 1, p ++ [loop[i % loop.length]], rfl, by omega, rfl, hnext, .inr ⟨by simp, by rw [List.length_append]; rfl⟩⟩
    · have him' : i = m := by omega
      subst him'
      repeat (refine PRun.wpn rfl ?_; simp only [wp, wo_nil, wo_p, onO_s, pv_t, put_some, bi_lss, pevP, getP, setP, Option.map_some, ↓reduceIte, ltB_iff, him])
      refine Gh.mask (false :: false :: false :: true :: false :: false :: true :: true :: true :: true :: true :: false :: false :: false :: false :: false :: false :: false :: false :: false :: false :: false :: false :: false :: false :: false :: false :: false :: false :: false :: false :: false :: false :: false :: false :: false :: false :: false :: false :: false :: false :: false :: false :: false :: false :: false :: false :: false :: false :: false :: false :: false :: false :: false :: false :: false :: false :: false :: false :: false :: false :: false :: false :: false :: false :: false :: false :: false :: false :: false :: false :: false :: false :: false :: false :: false :: false :: false :: false :: false :: false :: false :: false :: false :: false :: false :: false :: false :: false :: false :: false :: false :: false :: false :: false :: false :: false :: false :: false :: false :: false :: false :: false :: false :: false :: false :: false :: false :: false :: false :: false :: false :: false :: false :: false :: false :: false :: false :: false :: false :: false :: false :: false :: false :: false :: false :: false :: []) ?_
      exact ⟨rfl, p, hp, hpi⟩
  clear hpi hp p
  rintro t π ⟨rfl, p, hp, hpi⟩
  rcases hpi with ⟨rfl, rfl⟩ | ⟨hp0, rfl⟩
  · refine PRun.seqc (fun t π => t = (.junk :: .junk :: .junk :: .ptr 0 0 :: .junk :: .junk :: .lit (.bool false) :: .lit (.bool true) :: .lit (.int .i64 (k : Nat)) :: .lit (.int .i64 (m : Nat)) :: .ptr 1 0 :: .junk :: .junk :: .junk :: .junk :: .junk :: .junk :: .junk :: .junk :: .junk :: .junk :: .junk :: .junk :: .junk :: .junk :: .junk :: .junk :: .junk :: .junk :: .junk :: .junk :: .junk :: .junk :: .junk :: .junk :: .junk :: .junk :: .junk :: .junk :: .junk :: .junk :: .junk :: .junk :: .junk :: .junk :: .junk :: .junk :: .junk :: .junk :: .junk :: .junk :: .junk :: .junk :: .junk :: .junk :: .junk :: .junk :: .junk :: .junk :: .junk :: .junk :: .junk :: .junk :: .junk :: .junk :: .junk :: .junk :: .junk :: .junk :: .junk :: .junk :: .junk :: .junk :: .junk :: .junk :: .junk :: .junk :: .junk :: .junk :: .junk :: .junk :: .junk :: .junk :: .junk :: .junk :: .junk :: .junk :: .junk :: .junk :: .junk :: .junk :: .junk :: .junk :: .junk :: .junk :: .junk :: .junk :: .junk :: .junk :: .junk :: .junk :: .junk :: .junk :: .junk :: .junk :: .junk :: .junk :: .junk :: .junk :: .junk :: .junk :: .junk :: .junk :: .junk :: .junk :: .junk :: .junk :: .junk :: .junk :: .junk :: .junk :: .junk :: .junk :: .junk :: .junk :: .junk :: .junk :: []) ∧ ∃ q, q = more loop m (k * loop.length) ∧ ((q = [] ∧ π = ⟨4, [(1, .cells [.lit (.slice none 0 0), .lit (.slice none 0 0)] 25 2 true false []), (0, .cells [.sz (L16 stem) stem.length, .sz (L16 loop) loop.length] 25 2 true false [])]⟩) ∨ (q ≠ [] ∧ π = ⟨4, [(3, .cells (L16 q) 54 1 false false []), (1, .cells [.lit (.slice none 0 0), .loc 3 0 q.length q.length] 25 2 true false []), (0, .cells [.sz (L16 stem) stem.length, .sz (L16 loop) loop.length] 25 2 true false [])]⟩))) ?_ ?_
    · repeat (refine PRun.wpn rfl ?_; simp only [wp, wo_nil, wo_p, onO_s, pv_int, put_some, pevP, setP])
      refine PRun.gh (Gh.mask (false :: false :: false :: true :: false :: false :: true :: true :: true :: true :: true :: false :: true :: false :: false :: false :: false :: false :: false :: false :: false :: false :: false :: false :: false :: false :: false :: false :: false :: false :: false :: false :: false :: false :: false :: false :: false :: false :: false :: false :: false :: false :: false :: false :: false :: false :: false :: false :: false :: false :: false :: false :: false :: false :: false :: false :: false :: false :: false :: false :: false :: false :: false :: false :: false :: false :: false :: false :: false :: false :: false :: false :: false :: false :: false :: false :: false :: false :: false :: false :: false :: false :: false :: false :: false :: false :: false :: false :: false :: false :: false :: false :: false :: false :: false :: false :: false :: false :: false :: false :: false :: false :: false :: false :: false :: false :: false :: false :: false :: false :: false :: false :: false :: false :: false :: false :: false :: false :: false :: false :: false :: false :: false :: false :: false :: false :: false :: []) ?_)
      refine PRun.loopG (fun n t π => ∃ i q, t = (.junk :: .junk :: .junk :: .ptr 0 0 :: .junk :: .junk :: .lit (.bool false) :: .lit (.bool true) :: .lit (.int .i64 (k : Nat)) :: .lit (.int .i64 (m : Nat)) :: .ptr 1 0 :: .junk :: .lit (.int .i64 (i : Nat)) :: .junk :: .junk :: .junk :: .junk :: .junk :: .junk :: .junk :: .junk :: .junk :: .junk :: .junk :: .junk :: .junk :: .junk :: .junk :: .junk :: .junk :: .junk :: .junk :: .junk :: .junk :: .junk :: .junk :: .junk :: .junk :: .junk :: .junk :: .junk :: .junk :: .junk :: .junk :: .junk :: .junk :: .junk :: .junk :: .junk :: .junk :: .junk :: .junk :: .junk :: .junk :: .junk :: .junk :: .junk :: .junk :: .junk :: .junk :: .junk :: .junk :: .junk :: .junk :: .junk :: .junk :: .junk :: .junk :: .junk :: .junk :: .junk :: .junk :: .junk :: .junk :: .junk :: .junk :: .junk :: .junk :: .junk :: .junk :: .junk :: .junk :: .junk :: .junk :: .junk :: .junk :: .junk :: .junk :: .junk :: .junk :: .junk :: .junk :: .junk :: .junk :: .junk :: .junk :: .junk :: .junk :: .junk :: .junk :: .junk :: .junk :: .junk :: .junk :: .junk :: .junk :: .junk :: .junk :: .junk :: .junk :: .junk :: .junk :: .junk :: .junk :: .junk :: .junk :: .junk :: .junk :: .junk :: .junk :: .junk :: .junk :: .junk :: .junk :: .junk :: .junk :: .junk :: []) ∧ i ≤ k * loop.length ∧ n = k * loop.length - i ∧ q = more loop m i ∧ ((q = [] ∧ π = ⟨4, [(1, .cells [.lit (.slice none 0 0), .lit (.slice none 0 0)] 25 2 true false []), (0, .cells [.sz (L16 stem) stem.length, .sz (L16 loop) loop.length] 25 2 true false [])]⟩) ∨ (q ≠ [] ∧ π = ⟨4, [(3, .cells (L16 q) 54 1 false false []), (1, .cells [.lit (.slice none 0 0), .loc 3 0 q.length q.length] 25 2 true false []), (0, .cells [.sz (L16 stem) stem.length, .sz (L16 loop) loop.length] 25 2 true false [])]⟩))) ?_ (k * loop.length) _ _ ⟨0, [], rfl, by omega, by omega, by simp [more], .inl ⟨rfl, rfl⟩⟩
      rintro n t π ⟨i, q, rfl, hi, rfl, hq, hqi⟩
      by_cases him : ((i : Nat) : Int) < ((k * loop.length : Nat) : Int)
      · have f2 : (m + i) % loop.length < loop.length := Nat.mod_lt _ hl0
        have f1 : (((m + i) % loop.length : Nat) : Int) < (loop.length : Nat) := by omega
        have e5 : IntKind.i64.wrap ((m : Nat) + (i : Nat)) = ((m + i : Nat) : Int) := by rw [wrap64 (by omega) (by omega)]; omega
        have hnext : q ++ [loop[(m + i) % loop.length]] = more loop m (i + 1) := by
          rw [hq, more_succ]
          simp [List.getD, List.getElem?_eq_getElem f2]
        have hqlen : q.length ≤ 20000 := by rw [hq, more_len]; omega
        rcases hqi with ⟨rfl, rfl⟩ | ⟨hq0, rfl⟩
        · repeat (refine PRun.wpn rfl ?_; simp only [wp, wo_nil, wo_p, wo_r, onO_s, pv_t, put_some, bi_mul, bi_lss, pevP, pevR, getP, setP, look, PW.cs?, nthP, Option.map_some, Option.bind_some, ↓reduceIte, reduceCtorEq, Nat.zero_add, ltB_iff, e4, him])
          refine PDraw.stage (Nat.zero_le _) rfl ?_
          try dsimp only
          simp only [beq_self_eq_true, onX_s, onXN_s, onXI_s, rdX_e, ltN, ltD_s, onD_s, wx_nil, wx_cons, wx_p, wx_r, wx_n, wd_cons, wd_e, pv_t, ov_nil, ov_cons, ov_int, put_some, bi_add, pevP, pevR, pevN, getP, setP, nthO, fillP, spliceP, overP, plainP, isCell, look, PW.cs?, PW.push, nthP, baseP, ROp.base, List.length_cons, List.length_nil, Option.map_some, Option.bind_some, Nat.mul_one, Int.natCast_nonneg, Int.toNat_natCast, and_self, Bool.and_true, ↓reduceIte, reduceCtorEq, ltL, lt, Nat.reduceAdd, Option.isSome_some, Nat.zero_add, List.length_cons, List.length_nil, e5, bi_rem hl, tmod_nat, f1, L16_drop f2]
          refine PDE.any (Nat.zero_le _) (PE.det (by simp only [pv_t, pevE, getP, lenP, srcP, appendP, plainP, isCell, look, PW.cs?, PW.push, cutP, List.length_cons, List.length_nil, List.drop_zero, List.take_zero, List.take_succ_cons, Option.bind_some, Nat.mul_one, Bool.and_true, ↓reduceIte, Nat.reduceAdd, Nat.reduceMul, Nat.reduceLeDiff, Nat.reduceLT, Nat.zero_add, allPlain, Bool.false_or, Bool.not_true, List.length_cons, List.length_nil, gt_iff_lt, Nat.le_refl]; rfl) ?_)
          refine PDraw.stage (Nat.zero_le _) rfl ?_
          try dsimp only
          simp only [onX_s, onXI_s, onD_s, wx_nil, wx_cons, wx_p, wd_cons, wd_e, pv_t, put_some, pevP, getP, setP, nthO, Nat.zero_add]
          refine PDE.any (Nat.zero_le _) (PE.det rfl ?_)
          refine PDraw.last (Nat.zero_le _) rfl ?_
          try dsimp only
          simp only [wx_nil, pv_t, put_none, getP, ↓reduceIte, Nat.reduceEqDiff, setO, killO]
          repeat (refine PRun.wpn rfl ?_; simp only [wp, wo_nil, wo_p, onO_s, pv_t, pv_int, put_some, bi_add, pevP, getP, setP, Option.map_some])
          rw [wrap64 (by omega) (by omega)]
          refine Gh.mr (false :: false :: false :: true :: false :: false :: true :: true :: true :: true :: true :: false :: true :: false :: false :: false :: false :: false :: false :: false :: false :: false :: false :: false :: false :: false :: false :: false :: false :: false :: false :: false :: false :: false :: false :: false :: false :: false :: false :: false :: false :: false :: false :: false :: false :: false :: false :: false :: false :: false :: false :: false :: false :: false :: false :: false :: false :: false :: false :: false :: false :: false :: false :: false :: false :: false :: false :: false :: false :: false :: false :: false :: false :: false :: false :: false :: false :: false :: false :: false :: false :: false :: false :: false :: false :: false :: false :: false :: false :: false :: false :: false :: false :: false :: false :: false :: false :: false :: false :: false :: false :: false :: false :: false :: false :: false :: false :: false :: false :: false :: false :: false :: false :: false :: false :: false :: false :: false :: false :: false :: false :: false :: false :: false :: false :: false :: false :: []) [(0, 0), (1, 1), (2, 2), (5, 3)] 4 rfl ?_
          exact ⟨k * loop.length - (i + 1), by omega, i + 1, [loop[(m + i) % loop.length]], rfl, by omega, rfl, hnext, .inr ⟨by simp, rfl⟩⟩
        · have q1 : ¬ q.length + 1 ≤ q.length := by omega
          have q2 : ¬ 140737488355328 < (2 * (q.length + 1) + 768) * 2 := by omega
          repeat (refine PRun.wpn rfl ?_; simp only [wp, wo_nil, wo_p, wo_r, onO_s, pv_t, put_some, bi_mul, bi_lss, pevP, pevR, getP, setP, look, PW.cs?, nthP, Option.map_some, Option.bind_some, ↓reduceIte, reduceCtorEq, Nat.zero_add, ltB_iff, e4, him])
          refine PDraw.stage (Nat.zero_le _) rfl ?_
          try dsimp only
          simp only [beq_self_eq_true, onX_s, onXN_s, onXI_s, rdX_e, ltN, ltD_s, onD_s, wx_nil, wx_cons, wx_p, wx_r, wx_n, wd_cons, wd_e, pv_t, ov_nil, ov_cons, ov_int, put_some, bi_add, pevP, pevR, pevN, getP, setP, nthO, fillP, spliceP, overP, plainP, isCell, look, PW.cs?, PW.push, nthP, baseP, ROp.base, List.length_cons, List.length_nil, Option.map_some, Option.bind_some, Nat.mul_one, Int.natCast_nonneg, Int.toNat_natCast, and_self, Bool.and_true, ↓reduceIte, reduceCtorEq, ltL, lt, Nat.reduceAdd, Nat.reduceEqDiff, Option.isSome_some, Nat.zero_add, List.length_cons, List.length_nil, e5, bi_rem hl, tmod_nat, f1, L16_drop f2]
          refine PDE.any (Nat.zero_le _) (PE.det (by simp only [pv_t, pevE, getP, lenP, srcP, appendP, plainP, isCell, look, PW.cs?, PW.push, cutP, List.length_cons, List.length_nil, List.drop_zero, List.take_zero, List.take_succ_cons, Option.bind_some, Nat.mul_one, Bool.and_true, ↓reduceIte, Nat.reduceAdd, Nat.reduceEqDiff, Bool.false_eq_true, Nat.zero_add, allPlain, setO, Bool.or_self, Bool.not_true, List.length_cons, List.length_nil, gt_iff_lt, Nat.le_refl, q1, q2, L16_len, L16_take, bne_self_eq_false]; rfl) ?_)
          refine PDraw.stage (Nat.zero_le _) rfl ?_
          try dsimp only
          simp only [onX_s, onXI_s, onD_s, wx_nil, wx_cons, wx_p, wd_cons, wd_e, pv_t, put_some, pevP, getP, setP, nthO, Nat.zero_add]
          refine PDE.any (Nat.zero_le _) (PE.det rfl ?_)
          refine PDraw.last (Nat.zero_le _) rfl ?_
          try dsimp only
          simp only [wx_nil, pv_t, put_none, getP, ↓reduceIte, Nat.reduceEqDiff, setO, killO]
          repeat (refine PRun.wpn rfl ?_; simp only [wp, wo_nil, wo_p, onO_s, pv_t, pv_int, put_some, bi_add, pevP, getP, setP, Option.map_some])
          rw [wrap64 (by omega) (by omega)]
          refine Gh.mr (false :: false :: false :: true :: false :: false :: true :: true :: true :: true :: true :: false :: true :: false :: false :: false :: false :: false :: false :: false :: false :: false :: false :: false :: false :: false :: false :: false :: false :: false :: false :: false :: false :: false :: false :: false :: false :: false :: false :: false :: false :: false :: false :: false :: false :: false :: false :: false :: false :: false :: false :: false :: false :: false :: false :: false :: false :: false :: false :: false :: false :: false :: false :: false :: false :: false :: false :: false :: false :: false :: false :: false :: false :: false :: false :: false :: false :: false :: false :: false :: false :: false :: false :: false :: false :: false :: false :: false :: false :: false :: false :: false :: false :: false :: false :: false :: false :: false :: false :: false :: false :: false :: false :: false :: false :: false :: false :: false :: false :: false :: false :: false :: false :: false :: false :: false :: false :: false :: false :: false :: false :: false :: false :: false :: false :: false :: false :: []) [(0, 0), (1, 1), (2, 2), (5, 3)] 4 rfl ?_
          simp only [↓reduceIte, reduceCtorEq, Nat.reduceEqDiff, Bool.false_eq_true, renL, renP, renO, renH, renA, lkN, maskP, renL_L16, L16_snoc]
          exact ⟨k * loop.length - (i + 1), by omega, i + 1, q ++ [loop[(m + i) % loop.length]], rfl, by omega, rfl, hnext, .inr ⟨by simp, by rw [List.length_append]; rfl⟩⟩
      · have him' : i = k * loop.length := by omega
        subst him'
        rcases hqi with ⟨hq1, rfl⟩ | ⟨hq0, rfl⟩
        · repeat (refine PRun.wpn rfl ?_; simp only [wp, wo_nil, wo_p, wo_r, onO_s, pv_t, put_some, bi_mul, bi_lss, pevP, pevR, getP, setP, look, PW.cs?, nthP, Option.map_some, Option.bind_some, ↓reduceIte, reduceCtorEq, Nat.zero_add, ltB_iff, e4, him])
          refine Gh.mask (false :: false :: false :: true :: false :: false :: true :: true :: true :: true :: true :: false :: false :: false :: false :: false :: false :: false :: false :: false :: false :: false :: false :: false :: false :: false :: false :: false :: false :: false :: false :: false :: false :: false :: false :: false :: false :: false :: false :: false :: false :: false :: false :: false :: false :: false :: false :: false :: false :: false :: false :: false :: false :: false :: false :: false :: false :: false :: false :: false :: false :: false :: false :: false :: false :: false :: false :: false :: false :: false :: false :: false :: false :: false :: false :: false :: false :: false :: false :: false :: false :: false :: false :: false :: false :: false :: false :: false :: false :: false :: false :: false :: false :: false :: false :: false :: false :: false :: false :: false :: false :: false :: false :: false :: false :: false :: false :: false :: false :: false :: false :: false :: false :: false :: false :: false :: false :: false :: false :: false :: false :: false :: false :: false :: false :: false :: false :: []) ?_
          exact ⟨rfl, q, hq, .inl ⟨hq1, rfl⟩⟩
        · repeat (refine PRun.wpn rfl ?_; simp only [wp, wo_nil, wo_p, wo_r, onO_s, pv_t, put_some, bi_mul, bi_lss, pevP, pevR, getP, setP, look, PW.cs?, nthP, Option.map_some, Option.bind_some, ↓reduceIte, reduceCtorEq, Nat.zero_add, ltB_iff, e4, him])
          refine Gh.mask (false :: false :: false :: true :: false :: false :: true :: true :: true :: true :: true :: false :: false :: false :: false :: false :: false :: false :: false :: false :: false :: false :: false :: false :: false :: false :: false :: false :: false :: false :: false :: false :: false :: false :: false :: false :: false :: false :: false :: false :: false :: false :: false :: false :: false :: false :: false :: false :: false :: false :: false :: false :: false :: false :: false :: false :: false :: false :: false :: false :: false :: false :: false :: false :: false :: false :: false :: false :: false :: false :: false :: false :: false :: false :: false :: false :: false :: false :: false :: false :: false :: false :: false :: false :: false :: false :: false :: false :: false :: false :: false :: false :: false :: false :: false :: false :: false :: false :: false :: false :: false :: false :: false :: false :: false :: false :: false :: false :: false :: false :: false :: false :: false :: false :: false :: false :: false :: false :: false :: false :: false :: false :: false :: false :: false :: false :: false :: []) ?_
          exact ⟨rfl, q, hq, .inr ⟨hq0, rfl⟩⟩
    rintro t π ⟨rfl, q, hq, hqi⟩
    have hqne : q ≠ [] := fun h => by have := more_len loop m (k * loop.length); rw [← hq, h] at this; simp at this; omega
    rcases hqi with ⟨rfl, _⟩ | ⟨_, rfl⟩
    · exact absurd rfl hqne
    refine PRun.gh (Gh.freeze 3 rfl (pureL_L16 q) rfl ?_)
    simp only [List.drop_zero, ↓reduceIte, reduceCtorEq, Nat.reduceEqDiff, frzL, frzP, frzO, frzH, Nat.le_refl]
    rw [← hp, ← hq] at n2 s1
    repeat (refine PRun.wpn rfl ?_; simp only [wp, wo_r, wo_call, onO_s, pv_t, put_some, pevR, getP, setP, evsP, look, PW.cs?, cutP, List.length_cons, List.length_nil, List.drop_zero, List.take_zero, List.take_succ_cons, Option.map_some, Option.bind_some, Nat.zero_le, true_and, ↓reduceIte, reduceCtorEq, Nat.reduceAdd, Nat.zero_add, List.length_cons, List.length_nil, Nat.le_refl])
    refine .refl (PFun.to (n1) rfl (POps.wp ?_))
    simp only [wo_nil, wo_n, wo_st, onN_s, onE_s, ble0, pv_t, ov_nil, ov_cons, ov_nilS, put_some, put_none, pevN, pevE, getP, setP, spliceP, overP, plainP, look, PW.push, List.length_cons, List.length_nil, Option.map_some, Bool.and_true, ↓reduceIte, ltL, lt, Nat.reduceAdd, Bool.false_eq_true, Nat.zero_add, allPlain, PW.wr, setO, killO, Bool.or_self, Bool.not_true, List.length_cons, List.length_nil]
    repeat (refine PRun.wpn rfl ?_; simp only [wp, wo_r, wo_call, onO_s, pv_t, put_some, pevR, getP, setP, evsP, look, PW.cs?, cutP, List.length_cons, List.length_nil, List.drop_zero, List.take_zero, List.take_succ_cons, Option.map_some, Option.bind_some, Nat.zero_le, true_and, ↓reduceIte, Nat.reduceAdd, Nat.reduceEqDiff, Nat.zero_add, List.length_cons, List.length_nil, Nat.le_refl])
    refine .refl (PFun.to (n2.args (.cons (.agg (.cons .nil_sz (.cons .sl_sz .nil))) .nil)) rfl (POps.wp ?_))
    simp only [wo_nil, wo_n, wo_st, onN_s, onE_s, ble0, pv_t, ov_nil, ov_cons, ov_nilS, put_some, put_none, pevN, pevE, getP, setP, spliceP, overP, plainP, look, PW.push, List.length_cons, List.length_nil, Option.map_some, Bool.and_true, ↓reduceIte, ltL, lt, Nat.reduceAdd, Bool.false_eq_true, Nat.zero_add, allPlain, PW.wr, setO, killO, Bool.or_self, Bool.not_true, List.length_cons, List.length_nil]
    repeat (refine PRun.wpn rfl ?_; simp only [wp, wo_r, wo_call, onO_s, pv_t, put_some, pevR, getP, setP, evsP, look, PW.cs?, cutP, List.length_cons, List.length_nil, List.drop_zero, List.take_zero, List.take_succ_cons, Option.map_some, Option.bind_some, Nat.zero_le, true_and, ↓reduceIte, Nat.reduceAdd, Nat.reduceEqDiff, Nat.zero_add, List.length_cons, List.length_nil, Nat.le_refl])
    refine .refl (PFun.to (n3) rfl (POps.wp ?_))
    simp only [wo_nil, wo_n, wo_st, onN_s, onE_s, ble0, pv_t, ov_nil, ov_cons, ov_nilS, put_some, put_none, pevN, pevE, getP, setP, spliceP, overP, plainP, look, PW.push, List.length_cons, List.length_nil, Option.map_some, Bool.and_true, ↓reduceIte, ltL, lt, Nat.reduceAdd, Bool.false_eq_true, Nat.zero_add, allPlain, PW.wr, setO, killO, Bool.or_self, Bool.not_true, List.length_cons, List.length_nil]
    repeat (refine PRun.wpn rfl ?_; simp only [wp, wo_r, wo_call, onO_s, pv_t, put_some, pevR, getP, setP, evsP, look, PW.cs?, cutP, List.length_cons, List.length_nil, List.drop_zero, List.take_zero, List.take_succ_cons, Option.map_some, Option.bind_some, Nat.zero_le, true_and, ↓reduceIte, Nat.reduceAdd, Nat.reduceEqDiff, Nat.zero_add, List.length_cons, List.length_nil, Nat.le_refl])
    refine .refl (PFun.to (c1) rfl (POps.wp ?_))
    simp only [wo_nil, wo_p, onO_s, pv_t, put_some, pevP, getP, setP]
    repeat (refine PRun.wpn rfl ?_; simp only [wp, wo_r, wo_call, onO_s, pv_t, put_some, pevR, getP, setP, evsP, look, PW.cs?, cutP, List.length_cons, List.length_nil, List.drop_zero, List.take_zero, List.take_succ_cons, Option.map_some, Option.bind_some, Nat.zero_le, true_and, ↓reduceIte, Nat.reduceAdd, Nat.reduceEqDiff, Nat.zero_add, List.length_cons, List.length_nil, Nat.le_refl])
    refine .refl (PFun.to (c1) rfl (POps.wp ?_))
    simp only [wo_nil, wo_p, onO_s, pv_t, put_some, pevP, getP, setP]
    repeat (refine PRun.wpn rfl ?_; simp only [wp, wo_r, wo_call, onO_s, pv_t, put_some, pevR, getP, setP, evsP, look, PW.cs?, cutP, List.length_cons, List.length_nil, List.drop_zero, List.take_zero, List.take_succ_cons, Option.map_some, Option.bind_some, Nat.zero_le, true_and, ↓reduceIte, reduceCtorEq, Nat.reduceAdd, Nat.reduceEqDiff, Nat.zero_add, List.length_cons, List.length_nil, Nat.le_refl])
    refine .refl (PFun.to (s1.args (.cons (.refl _) (.cons (.agg (.cons .nil_sz (.cons .sl_sz .nil))) .nil))) rfl (POps.wp ?_))
    simp only [wo_nil, wo_p, onO_s, pv_t, put_some, pevP, getP, setP]
    repeat (refine PRun.wpn rfl ?_; simp only [wp])
    refine PDraw.stage (Nat.zero_le _) rfl ?_
    try dsimp only
    simp only [beq_self_eq_true, wanted_g, onX_s, onXG_t, onXI_s, rdX_e, ltN, ltD_s, onD_s, onDG_t, wx_nil, wx_cons, wx_p, wx_r, wx_g, wd_cons, wd_e, wd_g, pv_t, put_some, pevP, pevR, getP, setP, nthO, look, PW.cs?, cutP, baseP, ROp.base, List.length_cons, List.length_nil, List.drop_zero, List.take_zero, List.take_succ_cons, Option.map_some, Option.bind_some, Bool.and_true, ↓reduceIte, reduceCtorEq, Nat.reduceAdd, Nat.reduceEqDiff, Option.isSome_some, Nat.zero_add, List.length_cons, List.length_nil, Nat.le_refl]
    refine PDE.pure v1 rfl ?_
    refine PDraw.stage (Nat.zero_le _) rfl ?_
    try dsimp only
    simp only [beq_self_eq_true, wanted_g, onD_s, onDG_t, wx_nil, wd_cons, wd_e, wd_g, put_some, getP, setP, nthO]
    refine PDE.pure v2 rfl ?_
    refine PDraw.last (Nat.zero_le _) rfl ?_
    try dsimp only
    simp only [beq_self_eq_true, wanted_g, onX_s, onXG_t, onXI_s, wx_nil, wx_cons, wx_p, wx_g, pv_t, put_some, bi_leq, pevP, getP, setP, nthO, Option.map_some, leB_t hPl]
    repeat (refine PRun.wpn rfl ?_; simp only [wp, or_true, true_and, reduceCtorEq])
    exact .refl ⟨_, rfl, .refl _⟩
  · refine PRun.seqc (fun t π => t = (.junk :: .junk :: .junk :: .ptr 0 0 :: .junk :: .junk :: .lit (.bool false) :: .lit (.bool true) :: .lit (.int .i64 (k : Nat)) :: .lit (.int .i64 (m : Nat)) :: .ptr 1 0 :: .junk :: .junk :: .junk :: .junk :: .junk :: .junk :: .junk :: .junk :: .junk :: .junk :: .junk :: .junk :: .junk :: .junk :: .junk :: .junk :: .junk :: .junk :: .junk :: .junk :: .junk :: .junk :: .junk :: .junk :: .junk :: .junk :: .junk :: .junk :: .junk :: .junk :: .junk :: .junk :: .junk :: .junk :: .junk :: .junk :: .junk :: .junk :: .junk :: .junk :: .junk :: .junk :: .junk :: .junk :: .junk :: .junk :: .junk :: .junk :: .junk :: .junk :: .junk :: .junk :: .junk :: .junk :: .junk :: .junk :: .junk :: .junk :: .junk :: .junk :: .junk :: .junk :: .junk :: .junk :: .junk :: .junk :: .junk :: .junk :: .junk :: .junk :: .junk :: .junk :: .junk :: .junk :: .junk :: .junk :: .junk :: .junk :: .junk :: .junk :: .junk :: .junk :: .junk :: .junk :: .junk :: .junk :: .junk :: .junk :: .junk :: .junk :: .junk :: .junk :: .junk :: .junk :: .junk :: .junk :: .junk :: .junk :: .junk :: .junk :: .junk :: .junk :: .junk :: .junk :: .junk :: .junk :: .junk :: .junk :: .junk :: .junk :: .junk :: .junk :: .junk :: .junk :: .junk :: .junk :: []) ∧ ∃ q, q = more loop m (k * loop.length) ∧ ((q = [] ∧ π = ⟨4, [(2, .cells (L16 p) 54 1 false false []), (1, .cells [.loc 2 0 p.length p.length, .lit (.slice none 0 0)] 25 2 true false []), (0, .cells [.sz (L16 stem) stem.length, .sz (L16 loop) loop.length] 25 2 true false [])]⟩) ∨ (q ≠ [] ∧ π = ⟨4, [(3, .cells (L16 q) 54 1 false false []), (2, .cells (L16 p) 54 1 false false []), (1, .cells [.loc 2 0 p.length p.length, .loc 3 0 q.length q.length] 25 2 true false []), (0, .cells [.sz (L16 stem) stem.length, .sz (L16 loop) loop.length] 25 2 true false [])]⟩))) ?_ ?_
    · repeat (refine PRun.wpn rfl ?_; simp only [wp, wo_nil, wo_p, onO_s, pv_int, put_some, pevP, setP])
      refine PRun.gh (Gh.mask (false :: false :: false :: true :: false :: false :: true :: true :: true :: true :: true :: false :: true :: false :: false :: false :: false :: false :: false :: false :: false :: false :: false :: false :: false :: false :: false :: false :: false :: false :: false :: false :: false :: false :: false :: false :: false :: false :: false :: false :: false :: false :: false :: false :: false :: false :: false :: false :: false :: false :: false :: false :: false :: false :: false :: false :: false :: false :: false :: false :: false :: false :: false :: false :: false :: false :: false :: false :: false :: false :: false :: false :: false :: false :: false :: false :: false :: false :: false :: false :: false :: false :: false :: false :: false :: false :: false :: false :: false :: false :: false :: false :: false :: false :: false :: false :: false :: false :: false :: false :: false :: false :: false :: false :: false :: false :: false :: false :: false :: false :: false :: false :: false :: false :: false :: false :: false :: false :: false :: false :: false :: false :: false :: false :: false :: false :: false :: []) ?_)
      refine PRun.loopG (fun n t π => ∃ i q, t = (.junk :: .junk :: .junk :: .ptr 0 0 :: .junk :: .junk :: .lit (.bool false) :: .lit (.bool true) :: .lit (.int .i64 (k : Nat)) :: .lit (.int .i64 (m : Nat)) :: .ptr 1 0 :: .junk :: .lit (.int .i64 (i : Nat)) :: .junk :: .junk :: .junk :: .junk :: .junk :: .junk :: .junk :: .junk :: .junk :: .junk :: .junk :: .junk :: .junk :: .junk :: .junk :: .junk :: .junk :: .junk :: .junk :: .junk :: .junk :: .junk :: .junk :: .junk :: .junk :: .junk :: .junk :: .junk :: .junk :: .junk :: .junk :: .junk :: .junk :: .junk :: .junk :: .junk :: .junk :: .junk :: .junk :: .junk :: .junk :: .junk :: .junk :: .junk :: .junk :: .junk :: .junk :: .junk :: .junk :: .junk :: .junk :: .junk :: .junk :: .junk :: .junk :: .junk :: .junk :: .junk :: .junk :: .junk :: .junk :: .junk :: .junk :: .junk :: .junk :: .junk :: .junk :: .junk :: .junk :: .junk :: .junk :: .junk :: .junk :: .junk :: .junk :: .junk :: .junk :: .junk :: .junk :: .junk :: .junk :: .junk :: .junk :: .junk :: .junk :: .junk :: .junk :: .junk :: .junk :: .junk :: .junk :: .junk :: .junk :: .junk :: .junk :: .junk :: .junk :: .junk :: .junk :: .junk :: .junk :: .junk :: .junk :: .junk :: .junk :: .junk :: .junk :: .junk :: .junk :: .junk :: .junk :: .junk :: .junk :: .junk :: []) ∧ i ≤ k * loop.length ∧ n = k * loop.length - i ∧ q = more loop m i ∧ ((q = [] ∧ π = ⟨4, [(2, .cells (L16 p) 54 1 false false []), (1, .cells [.loc 2 0 p.length p.length, .lit (.slice none 0 0)] 25 2 true false []), (0, .cells [.sz (L16 stem) stem.length, .sz (L16 loop) loop.length] 25 2 true false [])]⟩) ∨ (q ≠ [] ∧ π = ⟨4, [(3, .cells (L16 q) 54 1 false false []), (2, .cells (L16 p) 54 1 false false []), (1, .cells [.loc 2 0 p.length p.length, .loc 3 0 q.length q.length] 25 2 true false []), (0, .cells [.sz (L16 stem) stem.length, .sz (L16 loop) loop.length] 25 2 true false [])]⟩))) ?_ (k * loop.length) _ _ ⟨0, [], rfl, by omega, by omega, by simp [more], .inl ⟨rfl, rfl⟩⟩
      rintro n t π ⟨i, q, rfl, hi, rfl, hq, hqi⟩
      by_cases him : ((i : Nat) : Int) < ((k * loop.length : Nat) : Int)
      · have f2 : (m + i) % loop.length < loop.length := Nat.mod_lt _ hl0
        have f1 : (((m + i) % loop.length : Nat) : Int) < (loop.length : Nat) := by omega
        have e5 : IntKind.i64.wrap ((m : Nat) + (i : Nat)) = ((m + i : Nat) : Int) := by rw [wrap64 (by omega) (by omega)]; omega
        have hnext : q ++ [loop[(m + i) % loop.length]] = more loop m (i + 1) := by
          rw [hq, more_succ]
          simp [List.getD, List.getElem?_eq_getElem f2]
        have hqlen : q.length ≤ 20000 := by rw [hq, more_len]; omega
        rcases hqi with ⟨rfl, rfl⟩ | ⟨hq0, rfl⟩
        · repeat (refine PRun.wpn rfl ?_; simp only [wp, wo_nil, wo_p, wo_r, onO_s, pv_t, put_some, bi_mul, bi_lss, pevP, pevR, getP, setP, look, PW.cs?, nthP, Option.map_some, Option.bind_some, ↓reduceIte, reduceCtorEq, Nat.zero_add, ltB_iff, e4, him])
          refine PDraw.stage (Nat.zero_le _) rfl ?_
          try dsimp only
          simp only [beq_self_eq_true, onX_s, onXN_s, onXI_s, rdX_e, ltN, ltD_s, onD_s, wx_nil, wx_cons, wx_p, wx_r, wx_n, wd_cons, wd_e, pv_t, ov_nil, ov_cons, ov_int, put_some, bi_add, pevP, pevR, pevN, getP, setP, nthO, fillP, spliceP, overP, plainP, isCell, look, PW.cs?, PW.push, nthP, baseP, ROp.base, List.length_cons, List.length_nil, Option.map_some, Option.bind_some, Nat.mul_one, Int.natCast_nonneg, Int.toNat_natCast, and_self, Bool.and_true, ↓reduceIte, reduceCtorEq, ltL, lt, Nat.reduceAdd, Nat.reduceEqDiff, Option.isSome_some, Nat.zero_add, List.length_cons, List.length_nil, e5, bi_rem hl, tmod_nat, f1, L16_drop f2]
          refine PDE.any (Nat.zero_le _) (PE.det (by simp only [pv_t, pevE, getP, lenP, srcP, appendP, plainP, isCell, look, PW.cs?, PW.push, cutP, List.length_cons, List.length_nil, List.drop_zero, List.take_zero, List.take_succ_cons, Option.bind_some, Nat.mul_one, Bool.and_true, ↓reduceIte, Nat.reduceAdd, Nat.reduceMul, Nat.reduceLeDiff, Nat.reduceLT, Nat.zero_add, allPlain, Bool.false_or, Bool.not_true, List.length_cons, List.length_nil, gt_iff_lt, Nat.le_refl]; rfl) ?_)
          refine PDraw.stage (Nat.zero_le _) rfl ?_
          try dsimp only
          simp only [onX_s, onXI_s, onD_s, wx_nil, wx_cons, wx_p, wd_cons, wd_e, pv_t, put_some, pevP, getP, setP, nthO, Nat.zero_add]
          refine PDE.any (Nat.zero_le _) (PE.det rfl ?_)
          refine PDraw.last (Nat.zero_le _) rfl ?_
          try dsimp only
          simp only [wx_nil, pv_t, put_none, getP, ↓reduceIte, Nat.reduceEqDiff, setO, killO]
          repeat (refine PRun.wpn rfl ?_; simp only [wp, wo_nil, wo_p, onO_s, pv_t, pv_int, put_some, bi_add, pevP, getP, setP, Option.map_some])
          rw [wrap64 (by omega) (by omega)]
          refine Gh.mr (false :: false :: false :: true :: false :: false :: true :: true :: true :: true :: true :: false :: true :: false :: false :: false :: false :: false :: false :: false :: false :: false :: false :: false :: false :: false :: false :: false :: false :: false :: false :: false :: false :: false :: false :: false :: false :: false :: false :: false :: false :: false :: false :: false :: false :: false :: false :: false :: false :: false :: false :: false :: false :: false :: false :: false :: false :: false :: false :: false :: false :: false :: false :: false :: false :: false :: false :: false :: false :: false :: false :: false :: false :: false :: false :: false :: false :: false :: false :: false :: false :: false :: false :: false :: false :: false :: false :: false :: false :: false :: false :: false :: false :: false :: false :: false :: false :: false :: false :: false :: false :: false :: false :: false :: false :: false :: false :: false :: false :: false :: false :: false :: false :: false :: false :: false :: false :: false :: false :: false :: false :: false :: false :: false :: false :: false :: false :: []) [(0, 0), (1, 1), (2, 2), (5, 3)] 4 rfl ?_
          simp only [↓reduceIte, reduceCtorEq, Nat.reduceEqDiff, Bool.false_eq_true, renL, renP, renO, renH, renA, lkN, maskP, renL_L16]
          exact ⟨k * loop.length - (i + 1), by omega, i + 1, [loop[(m + i) % loop.length]], rfl, by omega, rfl, hnext, .inr ⟨by simp, rfl⟩⟩
        · have q1 : ¬ q.length + 1 ≤ q.length := by omega
          have q2 : ¬ 140737488355328 < (2 * (q.length + 1) + 768) * 2 := by omega
          repeat (refine PRun.wpn rfl ?_; simp only [wp, wo_nil, wo_p, wo_r, onO_s, pv_t, put_some, bi_mul, bi_lss, pevP, pevR, getP, setP, look, PW.cs?, nthP, Option.map_some, Option.bind_some, ↓reduceIte, reduceCtorEq, Nat.zero_add, ltB_iff, e4, him])
          refine PDraw.stage (Nat.zero_le _) rfl ?_
          try dsimp only
          simp only [beq_self_eq_true, onX_s, onXN_s, onXI_s, rdX_e, ltN, ltD_s, onD_s, wx_nil, wx_cons, wx_p, wx_r, wx_n, wd_cons, wd_e, pv_t, ov_nil, ov_cons, ov_int, put_some, bi_add, pevP, pevR, pevN, getP, setP, nthO, fillP, spliceP, overP, plainP, isCell, look, PW.cs?, PW.push, nthP, baseP, ROp.base, List.length_cons, List.length_nil, Option.map_some, Option.bind_some, Nat.mul_one, Int.natCast_nonneg, Int.toNat_natCast, and_self, Bool.and_true, ↓reduceIte, reduceCtorEq, ltL, lt, Nat.reduceAdd, Nat.reduceEqDiff, Option.isSome_some, Nat.zero_add, List.length_cons, List.length_nil, e5, bi_rem hl, tmod_nat, f1, L16_drop f2]
          refine PDE.any (Nat.zero_le _) (PE.det (by simp only [pv_t, pevE, getP, lenP, srcP, appendP, plainP, isCell, look, PW.cs?, PW.push, cutP, List.length_cons, List.length_nil, List.drop_zero, List.take_zero, List.take_succ_cons, Option.bind_some, Nat.mul_one, Bool.and_true, ↓reduceIte, Nat.reduceAdd, Nat.reduceEqDiff, Bool.false_eq_true, Nat.zero_add, allPlain, setO, Bool.or_self, Bool.not_true, List.length_cons, List.length_nil, gt_iff_lt, Nat.le_refl, q1, q2, L16_len, L16_take, bne_self_eq_false]; rfl) ?_)
          refine PDraw.stage (Nat.zero_le _) rfl ?_
          try dsimp only
          simp only [onX_s, onXI_s, onD_s, wx_nil, wx_cons, wx_p, wd_cons, wd_e, pv_t, put_some, pevP, getP, setP, nthO, Nat.zero_add]
          refine PDE.any (Nat.zero_le _) (PE.det rfl ?_)
          refine PDraw.last (Nat.zero_le _) rfl ?_
          try dsimp only
          simp only [wx_nil, pv_t, put_none, getP, ↓reduceIte, Nat.reduceEqDiff, setO, killO]
          repeat (refine PRun.wpn rfl ?_; simp only [wp, wo_nil, wo_p, onO_s, pv_t, pv_int, put_some, bi_add, pevP, getP, setP, Option.map_some])
          rw [wrap64 (by omega) (by omega)]
          refine Gh.mr (false :: false :: false :: true :: false :: false :: true :: true :: true :: true :: true :: false :: true :: false :: false :: false :: false :: false :: false :: false :: false :: false :: false :: false :: false :: false :: false :: false :: false :: false :: false :: false :: false :: false :: false :: false :: false :: false :: false :: false :: false :: false :: false :: false :: false :: false :: false :: false :: false :: false :: false :: false :: false :: false :: false :: false :: false :: false :: false :: false :: false :: false :: false :: false :: false :: false :: false :: false :: false :: false :: false :: false :: false :: false :: false :: false :: false :: false :: false :: false :: false :: false :: false :: false :: false :: false :: false :: false :: false :: false :: false :: false :: false :: false :: false :: false :: false :: false :: false :: false :: false :: false :: false :: false :: false :: false :: false :: false :: false :: false :: false :: false :: false :: false :: false :: false :: false :: false :: false :: false :: false :: false :: false :: false :: false :: false :: false :: []) [(0, 0), (1, 1), (2, 2), (5, 3)] 4 rfl ?_
          simp only [↓reduceIte, reduceCtorEq, Nat.reduceEqDiff, Bool.false_eq_true, renL, renP, renO, renH, renA, lkN, maskP, renL_L16, L16_snoc]
          exact ⟨k * loop.length - (i + 1), by omega, i + 1, q ++ [loop[(m + i) % loop.length]], rfl, by omega, rfl, hnext, .inr ⟨by simp, by rw [List.length_append]; rfl⟩⟩
      · have him' : i = k * loop.length := by omega
        subst him'
        rcases hqi with ⟨hq1, rfl⟩ | ⟨hq0, rfl⟩
        · repeat (refine PRun.wpn rfl ?_; simp only [wp, wo_nil, wo_p, wo_r, onO_s, pv_t, put_some, bi_mul, bi_lss, pevP, pevR, getP, setP, look, PW.cs?, nthP, Option.map_some, Option.bind_some, ↓reduceIte, reduceCtorEq, Nat.zero_add, ltB_iff, e4, him])
          refine Gh.mask (false :: false :: false :: true :: false :: false :: true :: true :: true :: true :: true :: false :: false :: false :: false :: false :: false :: false :: false :: false :: false :: false :: false :: false :: false :: false :: false :: false :: false :: false :: false :: false :: false :: false :: false :: false :: false :: false :: false :: false :: false :: false :: false :: false :: false :: false :: false :: false :: false :: false :: false :: false :: false :: false :: false :: false :: false :: false :: false :: false :: false :: false :: false :: false :: false :: false :: false :: false :: false :: false :: false :: false :: false :: false :: false :: false :: false :: false :: false :: false :: false :: false :: false :: false :: false :: false :: false :: false :: false :: false :: false :: false :: false :: false :: false :: false :: false :: false :: false :: false :: false :: false :: false :: false :: false :: false :: false :: false :: false :: false :: false :: false :: false :: false :: false :: false :: false :: false :: false :: false :: false :: false :: false :: false :: false :: false :: false :: []) ?_
          exact ⟨rfl, q, hq, .inl ⟨hq1, rfl⟩⟩
        · repeat (refine PRun.wpn rfl ?_; simp only [wp, wo_nil, wo_p, wo_r, onO_s, pv_t, put_some, bi_mul, bi_lss, pevP, pevR, getP, setP, look, PW.cs?, nthP, Option.map_some, Option.bind_some, ↓reduceIte, reduceCtorEq, Nat.zero_add, ltB_iff, e4, him])
          refine Gh.mask (false :: false :: false :: true :: false :: false :: true :: true :: true :: true :: true :: false :: false :: false :: false :: false :: false :: false :: false :: false :: false :: false :: false :: false :: false :: false :: false :: false :: false :: false :: false :: false :: false :: false :: false :: false :: false :: false :: false :: false :: false :: false :: false :: false :: false :: false :: false :: false :: false :: false :: false :: false :: false :: false :: false :: false :: false :: false :: false :: false :: false :: false :: false :: false :: false :: false :: false :: false :: false :: false :: false :: false :: false :: false :: false :: false :: false :: false :: false :: false :: false :: false :: false :: false :: false :: false :: false :: false :: false :: false :: false :: false :: false :: false :: false :: false :: false :: false :: false :: false :: false :: false :: false :: false :: false :: false :: false :: false :: false :: false :: false :: false :: false :: false :: false :: false :: false :: false :: false :: false :: false :: false :: false :: false :: false :: false :: false :: []) ?_
          exact ⟨rfl, q, hq, .inr ⟨hq0, rfl⟩⟩
    rintro t π ⟨rfl, q, hq, hqi⟩
    have hqne : q ≠ [] := fun h => by have := more_len loop m (k * loop.length); rw [← hq, h] at this; simp at this; omega
    rcases hqi with ⟨rfl, _⟩ | ⟨_, rfl⟩
    · exact absurd rfl hqne
    refine PRun.gh (Gh.freeze 3 rfl (pureL_L16 q) rfl ?_)
    simp only [List.drop_zero, ↓reduceIte, reduceCtorEq, Nat.reduceEqDiff, frzL, frzP, frzO, frzH, Nat.le_refl, frzL_L16]
    refine PRun.gh (Gh.freeze 2 rfl (pureL_L16 p) rfl ?_)
    simp only [List.drop_zero, ↓reduceIte, reduceCtorEq, Nat.reduceEqDiff, frzL, frzP, frzO, frzH, Nat.le_refl]
    rw [← hp, ← hq] at n2 s1
    repeat (refine PRun.wpn rfl ?_; simp only [wp, wo_r, wo_call, onO_s, pv_t, put_some, pevR, getP, setP, evsP, look, PW.cs?, cutP, List.length_cons, List.length_nil, List.drop_zero, List.take_zero, List.take_succ_cons, Option.map_some, Option.bind_some, Nat.zero_le, true_and, ↓reduceIte, reduceCtorEq, Nat.reduceAdd, Nat.zero_add, List.length_cons, List.length_nil, Nat.le_refl])
    refine .refl (PFun.to (n1) rfl (POps.wp ?_))
    simp only [wo_nil, wo_n, wo_st, onN_s, onE_s, ble0, pv_t, ov_nil, ov_cons, ov_nilS, put_some, put_none, pevN, pevE, getP, setP, spliceP, overP, plainP, look, PW.push, List.length_cons, List.length_nil, Option.map_some, Bool.and_true, ↓reduceIte, ltL, lt, Nat.reduceAdd, Bool.false_eq_true, Nat.zero_add, allPlain, PW.wr, setO, killO, Bool.or_self, Bool.not_true, List.length_cons, List.length_nil]
    repeat (refine PRun.wpn rfl ?_; simp only [wp, wo_r, wo_call, onO_s, pv_t, put_some, pevR, getP, setP, evsP, look, PW.cs?, cutP, List.length_cons, List.length_nil, List.drop_zero, List.take_zero, List.take_succ_cons, Option.map_some, Option.bind_some, Nat.zero_le, true_and, ↓reduceIte, Nat.reduceAdd, Nat.reduceEqDiff, Nat.zero_add, List.length_cons, List.length_nil, Nat.le_refl])
    refine .refl (PFun.to (n2.args (.cons (.agg (.cons .sl_sz (.cons .sl_sz .nil))) .nil)) rfl (POps.wp ?_))
    simp only [wo_nil, wo_n, wo_st, onN_s, onE_s, ble0, pv_t, ov_nil, ov_cons, ov_nilS, put_some, put_none, pevN, pevE, getP, setP, spliceP, overP, plainP, look, PW.push, List.length_cons, List.length_nil, Option.map_some, Bool.and_true, ↓reduceIte, ltL, lt, Nat.reduceAdd, Bool.false_eq_true, Nat.zero_add, allPlain, PW.wr, setO, killO, Bool.or_self, Bool.not_true, List.length_cons, List.length_nil]
    repeat (refine PRun.wpn rfl ?_; simp only [wp, wo_r, wo_call, onO_s, pv_t, put_some, pevR, getP, setP, evsP, look, PW.cs?, cutP, List.length_cons, List.length_nil, List.drop_zero, List.take_zero, List.take_succ_cons, Option.map_some, Option.bind_some, Nat.zero_le, true_and, ↓reduceIte, Nat.reduceAdd, Nat.reduceEqDiff, Nat.zero_add, List.length_cons, List.length_nil, Nat.le_refl])
    refine .refl (PFun.to (n3) rfl (POps.wp ?_))
    simp only [wo_nil, wo_n, wo_st, onN_s, onE_s, ble0, pv_t, ov_nil, ov_cons, ov_nilS, put_some, put_none, pevN, pevE, getP, setP, spliceP, overP, plainP, look, PW.push, List.length_cons, List.length_nil, Option.map_some, Bool.and_true, ↓reduceIte, ltL, lt, Nat.reduceAdd, Bool.false_eq_true, Nat.zero_add, allPlain, PW.wr, setO, killO, Bool.or_self, Bool.not_true, List.length_cons, List.length_nil]
    repeat (refine PRun.wpn rfl ?_; simp only [wp, wo_r, wo_call, onO_s, pv_t, put_some, pevR, getP, setP, evsP, look, PW.cs?, cutP, List.length_cons, List.length_nil, List.drop_zero, List.take_zero, List.take_succ_cons, Option.map_some, Option.bind_some, Nat.zero_le, true_and, ↓reduceIte, Nat.reduceAdd, Nat.reduceEqDiff, Nat.zero_add, List.length_cons, List.length_nil, Nat.le_refl])
    refine .refl (PFun.to (c1) rfl (POps.wp ?_))
    simp only [wo_nil, wo_p, onO_s, pv_t, put_some, pevP, getP, setP]
    repeat (refine PRun.wpn rfl ?_; simp only [wp, wo_r, wo_call, onO_s, pv_t, put_some, pevR, getP, setP, evsP, look, PW.cs?, cutP, List.length_cons, List.length_nil, List.drop_zero, List.take_zero, List.take_succ_cons, Option.map_some, Option.bind_some, Nat.zero_le, true_and, ↓reduceIte, Nat.reduceAdd, Nat.reduceEqDiff, Nat.zero_add, List.length_cons, List.length_nil, Nat.le_refl])
    refine .refl (PFun.to (c1) rfl (POps.wp ?_))
    simp only [wo_nil, wo_p, onO_s, pv_t, put_some, pevP, getP, setP]
    repeat (refine PRun.wpn rfl ?_; simp only [wp, wo_r, wo_call, onO_s, pv_t, put_some, pevR, getP, setP, evsP, look, PW.cs?, cutP, List.length_cons, List.length_nil, List.drop_zero, List.take_zero, List.take_succ_cons, Option.map_some, Option.bind_some, Nat.zero_le, true_and, ↓reduceIte, reduceCtorEq, Nat.reduceAdd, Nat.reduceEqDiff, Nat.zero_add, List.length_cons, List.length_nil, Nat.le_refl])
    refine .refl (PFun.to (s1.args (.cons (.refl _) (.cons (.agg (.cons .sl_sz (.cons .sl_sz .nil))) .nil))) rfl (POps.wp ?_))
    simp only [wo_nil, wo_p, onO_s, pv_t, put_some, pevP, getP, setP]
    repeat (refine PRun.wpn rfl ?_; simp only [wp])
    refine PDraw.stage (Nat.zero_le _) rfl ?_
    try dsimp only
    simp only [beq_self_eq_true, wanted_g, onX_s, onXG_t, onXI_s, rdX_e, ltN, ltD_s, onD_s, onDG_t, wx_nil, wx_cons, wx_p, wx_r, wx_g, wd_cons, wd_e, wd_g, pv_t, put_some, pevP, pevR, getP, setP, nthO, look, PW.cs?, cutP, baseP, ROp.base, List.length_cons, List.length_nil, List.drop_zero, List.take_zero, List.take_succ_cons, Option.map_some, Option.bind_some, Bool.and_true, ↓reduceIte, reduceCtorEq, Nat.reduceAdd, Nat.reduceEqDiff, Option.isSome_some, Nat.zero_add, List.length_cons, List.length_nil, Nat.le_refl]
    refine PDE.pure v1 rfl ?_
    refine PDraw.stage (Nat.zero_le _) rfl ?_
    try dsimp only
    simp only [beq_self_eq_true, wanted_g, onD_s, onDG_t, wx_nil, wd_cons, wd_e, wd_g, put_some, getP, setP, nthO]
    refine PDE.pure v2 rfl ?_
    refine PDraw.last (Nat.zero_le _) rfl ?_
    try dsimp only
    simp only [beq_self_eq_true, wanted_g, onX_s, onXG_t, onXI_s, wx_nil, wx_cons, wx_p, wx_g, pv_t, put_some, bi_leq, pevP, getP, setP, nthO, Option.map_some, leB_t hPl]
    repeat (refine PRun.wpn rfl ?_; simp only [wp, or_true, true_and, reduceCtorEq])
    exact .refl ⟨_, rfl, .refl _⟩
end
end Go.Proofs.YtkldgoapompinaaDoor.Ai

namespace Go.Proofs.YtkldgoapompinaaDoor.Ai
set_option linter.unusedSimpArgs false
set_option linter.unusedVariables false
theorem more_getD (loop : List Int) (m n j : Nat) (h : j < n) : (more loop m n).getD j 0 = loop.getD ((m + j) % loop.length) 0 := by
  simp [more, List.getD, h]
theorem law_N (w : Wd) (hl : 0 < w.loop.length) (k m : Nat) (hk : 0 < k) : normal ⟨w.stem ++ more w.loop 0 m, more w.loop m (k * w.loop.length)⟩ = normal w := by
  have hkl : 0 < k * w.loop.length := Nat.mul_pos hk hl
  refine normal_eq (by simp only [more_len]; exact hkl) hl fun i => ?_
  simp only [dn, List.length_append, more_len]
  by_cases h1 : i < w.stem.length
  · rw [if_pos (by omega), if_pos h1, getD_left _ _ _ h1]
  · rw [if_neg h1]
    by_cases h2 : i < w.stem.length + m
    · rw [if_pos h2, getD_right _ _ _ (by omega), more_getD _ _ _ _ (by omega), Nat.zero_add]
    · rw [if_neg h2, more_getD _ _ _ _ (Nat.mod_lt _ hkl)]
      congr 1
      rw [← Nat.add_mod_mod, Nat.mod_mod_of_dvd _ (Nat.dvd_mul_left _ _), Nat.add_mod_mod]
      congr 1; omega
theorem law_NN (w : Wd) (hl : 0 < w.loop.length) : normal (normal w) = normal w := by
  have h1 := normal_nf (normal w) (normal_pos w hl)
  have e : dn (normal w) = dn w := funext (normal_den w hl)
  rw [e] at h1
  exact h1.unique (normal_nf w hl)
theorem law_P (w : Wd) : places (normal w) ≤ places w := by
  have h1 := normal_stem w
  have h2 := normal_loop w
  unfold places
  split
  · omega
  · split <;> omega
section
open Go
variable {C : Ctx} (hm : C.P.follows .mixedOrders = true) (hC : TabOK C.P C.ng C.ts Tryd.tab)
include hm hC
theorem wnormal_top (hw : PFun C 12 [] (.lit (.bool true))) (w : Wd) (times mo : Int) (h0 : -9223372036854775808 ≤ times) (h0' : times < 9223372036854775808) (h9 : -9223372036854775808 ≤ mo) (h9' : mo < 9223372036854775808) (h1 : w.stem.length < 2 ^ 61) (h2 : w.loop.length < 2 ^ 61) :
    PTop C Tryd.tab 6 [wrdP w, .lit (.int .i64 times), .lit (.int .i64 mo)] (.lit (.bool true)) :=
  wnormal_ok hm hC hw w times mo h0 h0' h9 h9' h1 h2 (fun hl k m hk => law_N w hl k m hk) (fun hl => law_NN w hl) (law_P w)
end
end Go.Proofs.YtkldgoapompinaaDoor.Ai

namespace Go.Proofs.YtkldgoapompinaaDoor.Ai
open Go
set_option linter.unusedVariables false
set_option maxRecDepth 10000
theorem per_of_all {l : List Int} {n : Nat} (hd : l.length % n = 0) (h : ∀ j, n ≤ j → j < l.length → l.getD j 0 = l.getD (j - n) 0) : Per l n := by
  refine ⟨hd, ext_getD (by simp) fun i hi => ?_⟩
  simp at hi
  rw [getD_drop, getD_take _ _ _ (by omega), h (n + i) (by omega) (by omega)]
  congr 1; omega
theorem all_of_per {l : List Int} {n : Nat} (h : Per l n) (j : Nat) (h1 : n ≤ j) (h2 : j < l.length) : l.getD j 0 = l.getD (j - n) 0 := by
  have e1 := getD_drop l n (j - n)
  rw [show n + (j - n) = j by omega] at e1
  rw [← e1, h.2, getD_take _ _ _ (by omega)]
theorem getD_get {l : List Int} {i : Nat} (h : i < l.length) : l.getD i 0 = l[i] := by simp [List.getD, List.getElem?_eq_getElem h]
open Classical in
noncomputable def perB (l : List Int) (n : Nat) : Bool := decide (Per l n)
theorem perB_t {l : List Int} {n : Nat} (h : Per l n) : perB l n = true := by simp [perB, h]
theorem perB_f {l : List Int} {n : Nat} (h : ¬ Per l n) : perB l n = false := by simp [perB, h]
section
variable {C : Ctx} (hm : C.P.follows .mixedOrders = true) (hC : TabOK C.P C.ng C.ts Tryd.tab)
include hm hC
theorem again_ok (l : List Int) (n : Nat) (hn : 0 < n) (hl : l.length < 2 ^ 60) (hnl : n < 2 ^ 60) : PFun C 54 [szU l, .lit (.int .i64 (n : Nat))] (.lit (.bool (perB l n))) := by
  have hn0 : (n : Int) ≠ 0 := by omega
  refine PFun.body hm hC (show Tryd.tab.get 54 = some Tryd.c54 from rfl) rfl ?_
  simp only [Tryd.c54, startP, List.length_cons, List.length_nil, Nat.reduceAdd, Nat.reduceSub, List.replicate, List.cons_append, List.nil_append, szU]
  repeat (refine PRun.wpn rfl ?_; simp only [wp, wo_nil, wo_p, onO_s, pv_t, pv_int, pv_bool, put_some, bi_neq, pevP, getP, setP, PW.none, Option.map_some, resPs, resP, tupP, neB_iff, bi_rem hn0, tmod_nat])
  split
  · rename_i h
    repeat (refine PRun.wpn rfl ?_; simp only [wp, or_true, true_and, reduceCtorEq])
    rw [perB_f (fun hp : Per l n => h (by rw [hp.1]; rfl))]
    exact .refl ⟨_, rfl, .refl _⟩
  · rename_i h
    have hd : l.length % n = 0 := by omega
    repeat (refine PRun.wpn rfl ?_; simp only [wp, wo_nil, wo_p, onO_s, pv_t, put_some, pevP, getP, setP, reduceCtorEq])
    refine PRun.gh (Gh.mask (true :: true :: false :: false :: true :: true :: false :: false :: false :: false :: false :: false :: false :: false :: false :: false :: false :: false :: false :: false :: false :: false :: false :: false :: false :: false :: false :: false :: false :: []) ?_)
    by_cases hle : n ≤ l.length
    · refine PRun.loopG (fun k t π => ∃ i : Nat, t = (.sz (L16 l) l.length :: .lit (.int .i64 (n : Nat)) :: .junk :: .junk :: .lit (.bool false) :: .lit (.int .i64 (i : Nat)) :: .junk :: .junk :: .junk :: .junk :: .junk :: .junk :: .junk :: .junk :: .junk :: .junk :: .junk :: .junk :: .junk :: .junk :: .junk :: .junk :: .junk :: .junk :: .junk :: .junk :: .junk :: .junk :: .junk :: []) ∧ n ≤ i ∧ i ≤ l.length ∧ k = l.length - i ∧ π = ⟨0, []⟩ ∧ ∀ j, n ≤ j → j < i → l.getD j 0 = l.getD (j - n) 0) ?_ (l.length - n) _ _ ⟨n, rfl, by omega, hle, rfl, rfl, fun j h1 h2 => by omega⟩
      rintro k t π ⟨i, rfl, h1, h2, rfl, rfl, hp⟩
      repeat (refine PRun.wpn rfl ?_; simp only [wp, wo_nil, wo_p, onO_s, pv_t, put_some, bi_lss, pevP, getP, setP, Option.map_some, ↓reduceIte, ltB_iff])
      split
      · rename_i hlt
        have i1 : i < l.length := by omega
        have i2 : i - n < l.length := by omega
        have e1 : IntKind.i64.wrap ((i : Nat) - (n : Nat)) = ((i - n : Nat) : Int) := by rw [wrap64 (by omega) (by omega)]; omega
        have e2 : ((i - n : Nat) : Int) < (l.length : Nat) := by omega
        repeat (refine PRun.wpn rfl ?_; simp only [wp])
        refine PDraw.last (Nat.zero_le _) rfl ?_
        try dsimp only
        simp only [onX_s, onXI_s, rdX_e, ltN, ltD_s, wx_nil, wx_cons, wx_p, wx_r, pv_t, put_some, bi_sub, bi_neq, pevP, pevR, getP, setP, nthO, baseP, ROp.base, List.length_cons, List.length_nil, Option.map_some, Nat.mul_one, Int.natCast_nonneg, Int.toNat_natCast, and_self, Bool.and_true, ↓reduceIte, Nat.reduceAdd, Nat.zero_add, List.length_cons, List.length_nil, hlt, L16_drop i1, e1, e2, L16_drop i2]
        by_cases he : l[i] = l[i - n]
        · repeat (refine PRun.wpn rfl ?_; simp only [wp, wo_nil, wo_p, onO_s, pv_t, pv_int, put_some, bi_add, pevP, getP, setP, Option.map_some, ↓reduceIte, Bool.false_eq_true, neB_f he])
          rw [wrap64 (by omega) (by omega)]
          refine Gh.mask (true :: true :: false :: false :: true :: true :: false :: false :: false :: false :: false :: false :: false :: false :: false :: false :: false :: false :: false :: false :: false :: false :: false :: false :: false :: false :: false :: false :: false :: []) ?_
          refine ⟨l.length - (i + 1), by omega, i + 1, rfl, by omega, by omega, rfl, rfl, fun j h3 h4 => ?_⟩
          by_cases hj : j = i
          · subst hj; rw [getD_get i1, getD_get i2]; exact he
          · exact hp j h3 (by omega)
        · repeat (refine PRun.wpn rfl ?_; simp only [wp, wo_nil, wo_p, onO_s, pv_t, pv_bool, put_some, pevP, getP, setP, or_true, true_and, ↓reduceIte, reduceCtorEq, neB_t he])
          rw [perB_f (fun hp' : Per l n => he (by have := all_of_per hp' i h1 i1; rwa [getD_get i1, getD_get i2] at this))]
          exact .refl ⟨_, rfl, .refl _⟩
      · rename_i hge
        have hil : i = l.length := by omega
        subst hil
        repeat (refine PRun.wpn rfl ?_; simp only [wp, wo_nil, wo_p, onO_s, pv_bool, put_some, pevP, setP, or_true, true_and, reduceCtorEq])
        rw [perB_t (per_of_all hd fun j h3 h4 => hp j h3 h4)]
        exact .refl ⟨_, rfl, .refl _⟩
    · have hl0 : l.length = 0 := by
        rw [Nat.mod_eq_of_lt (by omega)] at hd; exact hd
      refine PRun.loopG (fun k t π => ∃ i : Nat, t = (.sz (L16 l) l.length :: .lit (.int .i64 (n : Nat)) :: .junk :: .junk :: .lit (.bool false) :: .lit (.int .i64 (i : Nat)) :: .junk :: .junk :: .junk :: .junk :: .junk :: .junk :: .junk :: .junk :: .junk :: .junk :: .junk :: .junk :: .junk :: .junk :: .junk :: .junk :: .junk :: .junk :: .junk :: .junk :: .junk :: .junk :: .junk :: []) ∧ i = n ∧ π = ⟨0, []⟩) ?_ 0 _ _ ⟨n, rfl, rfl, rfl⟩
      rintro k t π ⟨i, rfl, rfl, rfl⟩
      have hge : ¬ ((i : Nat) : Int) < (l.length : Nat) := by omega
      repeat (refine PRun.wpn rfl ?_; simp only [wp, wo_nil, wo_p, onO_s, pv_t, pv_bool, put_some, bi_lss, pevP, getP, setP, Option.map_some, or_true, true_and, ↓reduceIte, reduceCtorEq, ltB_iff, hge])
      rw [perB_t (per_of_all hd fun j h3 h4 => by omega)]
      exact .refl ⟨_, rfl, .refl _⟩
end
end Go.Proofs.YtkldgoapompinaaDoor.Ai

namespace Go.Proofs.YtkldgoapompinaaDoor.Ai
open Go
set_option linter.unusedVariables false
set_option maxRecDepth 10000
theorem L16_takeK (l : List Int) (k : Nat) : (L16 l).take k = L16 (l.take k) := by simp [L16, List.map_take]
theorem rot_take (l : List Int) (p u k : Nat) (hp : p ≤ l.length) (hu : u < p) (hk : k < p) : ((l.take p).drop u ++ l.take u).getD k 0 = l.getD ((u + k) % p) 0 := by
  by_cases hk2 : k < p - u
  · rw [getD_left _ _ _ (by simp; omega), getD_drop, getD_take _ _ _ (by omega), Nat.mod_eq_of_lt (by omega)]
  · have e : ((l.take p).drop u).length = p - u := by simp; omega
    rw [getD_right _ _ _ (by omega), e, getD_take _ _ _ (by omega)]
    congr 1
    rw [Nat.mod_eq_sub_mod (by omega), Nat.mod_eq_of_lt (by omega)]; omega
def rotR (loop : List Int) (p v n : Nat) : List Int := (List.range n).map fun j => loop.getD ((j + p - v % p) % p) 0
theorem rotR_succ (loop : List Int) (p v n : Nat) : rotR loop p v (n + 1) = rotR loop p v n ++ [loop.getD ((n + p - v % p) % p) 0] := by simp [rotR, List.range_succ]
theorem rotR_len (loop : List Int) (p v n : Nat) : (rotR loop p v n).length = n := by simp [rotR]
theorem roll_idx (p v i : Nat) (hp : 0 < p) : (i + p - v % p) % p = ((p - v % p) % p + i) % p := by
  have := Nat.mod_lt v hp
  rw [Nat.mod_add_mod]
  congr 1; omega
theorem roll_next (p v : Nat) (hp : 0 < p) : ((p - v % p) % p + p - 1) % p = (p - (v + 1) % p) % p := by
  have h := Nat.mod_lt v hp
  by_cases h1 : v % p + 1 = p
  · have e1 : (v + 1) % p = 0 := by rw [← Nat.mod_add_mod, h1, Nat.mod_self]
    rw [e1]
    by_cases hp1 : p = 1
    · subst hp1; simp [Nat.mod_one]
    · have e2 : (p - v % p) % p = 1 := by rw [Nat.mod_eq_of_lt (by omega)]; omega
      rw [e2, show 1 + p - 1 = p by omega, Nat.mod_self]; simp
  · have e1 : (v + 1) % p = v % p + 1 := by rw [← Nat.mod_add_mod]; exact Nat.mod_eq_of_lt (by omega)
    rw [e1]
    by_cases h0 : v % p = 0
    · rw [h0]; simp
    · rw [Nat.mod_eq_of_lt (show p - v % p < p by omega)]
      rw [show p - v % p + p - 1 = (p - (v % p + 1)) + p by omega, Nat.add_mod_right]
section
variable {C : Ctx} (hm : C.P.follows .mixedOrders = true) (hC : TabOK C.P C.ng C.ts Tryd.tab)
include hm hC
theorem sameLettersR_ok (l m : List Int) (hl : l.length < 2 ^ 62) : PFun C 88 [szU l, szU m] (.lit (.bool (decide (l = m)))) := by
  refine PFun.of_body hm hC (show Tryd.tab.get 88 = some Tryd.c88 from rfl) rfl ?_
  simp only [Tryd.c88, startP, szU, List.length_cons, List.length_nil, Nat.reduceAdd, Nat.reduceSub, List.replicate, List.cons_append, List.nil_append]
  repeat (refine PRun.wpn rfl ?_; simp only [wp, wo_nil, wo_p, onO_s, pv_t, pv_bool, put_some, bi_neq, pevP, getP, setP, PW.none, Option.map_some, resPs, resP, tupP, neB_iff])
  split
  · rename_i h
    repeat (refine PRun.wpn rfl ?_; simp only [wp, getP, or_true, true_and, reduceCtorEq])
    have h' : l ≠ m := by intro e; subst e; simp at h
    simp [h']
  rename_i h
  have hlm : l.length = m.length := by omega
  repeat (refine PRun.wpn rfl ?_; simp only [wp, wo_nil, wo_p, onO_s, pv_int, put_some, pevP, setP, reduceCtorEq])
  refine PRun.loopG (fun n t π => π = ⟨0, []⟩ ∧ ∃ (i : Nat) (x2 x3 x6 x7 x8 x9 x10 x11 x12 x13 x14 x15 x16 x17 x18 x19 x20 x21 x22 x23 x24 x25 : PV), t = (.sz (L16 l) l.length :: .sz (L16 m) m.length :: x2 :: x3 :: .lit (.bool false) :: .lit (.int .i64 (i : Nat)) :: x6 :: x7 :: x8 :: x9 :: x10 :: x11 :: x12 :: x13 :: x14 :: x15 :: x16 :: x17 :: x18 :: x19 :: x20 :: x21 :: x22 :: x23 :: x24 :: x25 :: []) ∧ i ≤ l.length ∧ n = l.length - i ∧ l.take i = m.take i) ?_ l.length _ _ ⟨rfl, 0, _, _, _, _, _, _, _, _, _, _, _, _, _, _, _, _, _, _, _, _, _, _, rfl, by omega, rfl, rfl⟩
  rintro n t π ⟨rfl, i, x2, x3, x6, x7, x8, x9, x10, x11, x12, x13, x14, x15, x16, x17, x18, x19, x20, x21, x22, x23, x24, x25, rfl, hi, rfl, hp⟩
  repeat (refine PRun.wpn rfl ?_; simp only [wp, wo_nil, wo_p, onO_s, pv_t, put_some, bi_lss, pevP, getP, setP, Option.map_some, ↓reduceIte, ltB_iff])
  split
  · rename_i hlt
    have h1 : i < l.length := by omega
    have h2 : i < m.length := by omega
    repeat (refine PRun.wpn rfl ?_; simp only [wp])
    refine PDraw.last (Nat.zero_le _) rfl ?_
    simp only [onX_s, onXI_s, rdX_e, ltN, ltD_s, wx_nil, wx_cons, wx_p, wx_r, pv_t, put_some, bi_neq, pevP, pevR, getP, setP, nthO, baseP, ROp.base, List.length_cons, List.length_nil, Option.map_some, Nat.mul_one, Int.natCast_nonneg, Int.toNat_natCast, and_self, Bool.and_true, ↓reduceIte, Nat.reduceAdd, Nat.zero_add, List.length_cons, List.length_nil, Int.natCast_nonneg, hlt, Int.toNat_natCast, Nat.mul_one, L16_drop h1, ← hlm, L16_drop h2]
    repeat (refine PRun.wpn rfl ?_; simp only [wp, wo_nil, wo_p, onO_s, pv_t, pv_bool, put_some, pevP, getP, setP, neB_iff])
    split
    · rename_i hne
      repeat (refine PRun.wpn rfl ?_; simp only [wp, getP, or_true, true_and, reduceCtorEq])
      have h' : l ≠ m := by intro e; subst e; simp at hne
      simp [h']
    · rename_i heq
      repeat (refine PRun.wpn rfl ?_; simp only [wp, wo_nil, wo_p, onO_s, pv_t, pv_int, put_some, bi_add, pevP, getP, setP, Option.map_some])
      rw [wrap64 (by omega) (by omega)]
      exact .refl ⟨l.length - (i + 1), by omega, rfl, i + 1, _, _, _, _, _, _, _, _, _, _, _, _, _, _, _, _, _, _, _, _, _, _, rfl, by omega, rfl, (take_next hp h1 h2).2 (by simpa using heq)⟩
  · rename_i hge
    have hil : i = l.length := by omega
    subst hil
    repeat (refine PRun.wpn rfl ?_; simp only [wp, wo_nil, wo_p, onO_s, pv_bool, put_some, pevP, getP, setP, or_true, true_and, reduceCtorEq])
    have h' : l = m := by rw [List.take_length, hlm, List.take_length] at hp; exact hp
    simp [h']
theorem sameWordR_ok (a b : Wd) (h1 : a.stem.length < 2 ^ 40) (h2 : a.loop.length < 2 ^ 40) : PFun C 76 [wrdP a, wrdP b] (.lit (.bool (decide (a.stem = b.stem ∧ a.loop = b.loop)))) := by
  obtain ⟨s, l⟩ := a
  obtain ⟨s', l'⟩ := b
  simp only at h1 h2
  refine PFun.body hm hC (show Tryd.tab.get 76 = some Tryd.c76 from rfl) rfl ?_
  simp only [Tryd.c76, startP, List.length_cons, List.length_nil, Nat.reduceAdd, Nat.reduceSub, List.replicate, List.cons_append, List.nil_append, wrdP, szU]
  repeat (refine PRun.wpn rfl ?_; simp only [wp, wo_nil, wo_p, wo_r, wo_n, wo_call, onO_s, onN_s, ble_self, ble_succ, pv_t, pv_bool, put_some, pevP, pevR, pevN, getP, setP, evsP, boxP, look, PW.cs?, PW.push, PW.none, nthP, Option.map_some, Option.bind_some, Nat.zero_le, true_and, ↓reduceIte, reduceCtorEq, Nat.reduceAdd, Nat.add_zero, Nat.zero_add, resPs, resP, tupP])
  refine .refl (PFun.to (sameLettersR_ok hm hC s s' (by omega)) rfl (POps.wp ?_))
  simp only [wo_p, wo_g, onO_s, wanted_g, pv_t, put_some, pevP, getP, setP]
  by_cases h : s = s'
  · simp only [decide_eq_true h, wo_p, wo_r, wo_call, wo_g, beq_self_eq_true, onO_s, onG_t, wanted_g, pv_t, put_some, pevP, pevR, getP, setP, evsP, look, PW.cs?, nthP, Option.bind_some, Nat.zero_le, true_and, ↓reduceIte, reduceCtorEq, Nat.zero_add]
    refine .refl (PFun.to (sameLettersR_ok hm hC l l' (by omega)) rfl (POps.wp ?_))
    simp only [wo_nil, wo_p, onO_s, pv_t, put_some, pevP, getP, setP]
    repeat (refine PRun.wpn rfl ?_; simp only [wp, or_true, true_and, reduceCtorEq])
    refine .refl ⟨_, rfl, ?_⟩
    simp only [h, true_and]
    exact .refl _
  · simp only [decide_eq_false h, wo_nil, wo_p, wo_g, onO_s, onG_f, wanted_g, b_ft, pv_t, pv_bool, put_some, pevP, getP, setP]
    repeat (refine PRun.wpn rfl ?_; simp only [wp, or_true, true_and, reduceCtorEq])
    refine .refl ⟨_, rfl, ?_⟩
    rw [decide_eq_false (fun hh : s = s' ∧ l = l' => h hh.1)]
    exact .refl _

theorem normalR_ok (w : Wd) (h1 : w.stem.length < 2 ^ 38) (h2 : w.loop.length < 2 ^ 38) : PFun C 21 [wrdP w] (wrdP (normal w)) := by
  obtain ⟨stem, loop⟩ := w
  simp only at h1 h2
  refine PFun.body hm hC (show Tryd.tab.get 21 = some Tryd.c21 from rfl) rfl ?_
  simp only [Tryd.c21, startP, List.length_cons, List.length_nil, Nat.reduceAdd, Nat.reduceSub, List.replicate, List.cons_append, List.nil_append, wrdP, szU]
  by_cases hl : ((loop.length : Nat) : Int) = 0
  · repeat (refine PRun.wpn rfl ?_; simp only [wp, wo_nil, wo_p, wo_r, wo_n, wo_st, onO_s, onN_s, onE_s, ble0, ble_self, ble_succ, pv_t, pv_int, ov_nil, ov_cons, ov_nilS, put_some, put_none, bi_eql, pevP, pevR, pevN, pevE, getP, setP, fillP, boxP, spliceP, overP, plainP, isCell, look, PW.cs?, PW.push, PW.none, nthP, cutP, List.length_cons, List.length_nil, Option.map_some, Option.bind_some, or_true, true_and, Bool.and_true, ↓reduceIte, reduceCtorEq, ltL, lt, Nat.reduceAdd, Bool.false_eq_true, Nat.zero_add, allPlain, PW.wr, setO, killO, Bool.or_self, Bool.not_true, resPs, resP, tupP, List.length_cons, List.length_nil, eqB_t hl])
    have e : normal ⟨stem, loop⟩ = ⟨[], []⟩ := by simp only [normal]; rw [if_pos (by omega)]
    simp only [hl]
    repeat (refine PRun.wpn rfl ?_; simp only [wp, wo_nil, wo_p, wo_r, wo_n, wo_call, wo_st, wo_append, wo_appendZ, wo_g, beq_self_eq_true, onO_s, onN_s, onE_s, onG_t, onG_f, wanted_g, b_tt, b_ff, b_tf, b_ft, onX_s, onXN_s, onXG_t, onXG_f, onXI_s, rdX_e, ltN, ble0, ble_self, ble_succ, and_tt, ltD_s, onD_s, onDG_t, onDG_f, wx_nil, wx_cons, wx_p, wx_r, wx_n, wx_g, wd_cons, wd_e, wd_g, pv_t, pv_int, pv_bool, pv_str, pv_nilS, pv_nilP, pv_nilI, pv_nilF, pv_nilM, ov_nil, ov_cons, ov_int, ov_bool, ov_str, ov_nilS, ov_nilP, ov_nilI, ov_nilF, ov_nilM, ov_agg, put_some, put_none, bi_add, bi_sub, bi_mul, bi_eql, bi_neq, bi_lss, bi_leq, bi_gtr, bi_geq, pevP, pevR, pevN, pevE, getP, setP, nthO, evsP, eqP, lenP, srcP, appendP, fillP, boxP, pcells, spliceP, overP, plainP, isCell, look, PW.cs?, PW.exactAt, PW.push, PW.none, nthP, cutP, partP, boundP, baseP, ROp.base, List.length_cons, List.length_nil, List.drop_zero, List.drop_succ_cons, List.take_zero, List.take_succ_cons, Option.map_some, Option.map_none, Option.bind_some, Option.bind_none, Nat.zero_le, Option.isNone_none, Option.isNone_some, true_or, or_true, Nat.mul_one, Nat.sub_zero, Int.natCast_nonneg, Int.toNat_natCast, nc0, nc1, nc2, tn0, tn1, tn2, Int.le_refl, Int.lt_irrefl, Nat.lt_irrefl, Int.sub_self, Int.sub_zero, and_self, flat_one, true_and, and_true, Bool.and_true, Bool.true_and, Bool.false_and, Bool.and_false, if_true, if_false, ↓reduceIte, reduceCtorEq, ltL, lt, ltFn, Nat.reduceAdd, Nat.reduceMul, Nat.reduceLeDiff, Nat.reduceLT, Nat.reduceEqDiff, Nat.reduceSub, Option.isSome_some, Option.isSome_none, Bool.false_eq_true, Nat.add_zero, Nat.zero_add, allPlain, PW.wr, setO, killO, Bool.or_self, Bool.or_false, Bool.false_or, Bool.not_true, Bool.not_false, Bool.true_bne, Bool.false_bne, Bool.bne_false, Bool.bne_true, resPs, resP, tupP, ltB_iff, leB_iff, eqB_iff, neB_iff, decide_eq_true_eq, frzL, frzP, frzO, frzE, frzH, noAlP, pureL, pureP, renL, renP, renO, renE, renH, renA, lkN, maskP, List.nil_append, List.append_nil, List.cons_append, List.length_cons, List.length_nil, Nat.not_lt, ge_iff_le, gt_iff_lt, Nat.le_refl])
    rw [e]
    exact .refl ⟨_, rfl, .agg (.cons .nil_sz (.cons .nil_sz .nil))⟩
  have hl0 : 0 < loop.length := by omega
  have p0 := per_pos loop hl0
  have p1 := per_le loop
  have p3 : ((per loop : Nat) : Int) ≠ 0 := by omega
  obtain ⟨hper, hmin⟩ := per_spec loop hl0
  repeat (refine PRun.wpn rfl ?_; simp only [wp, wo_nil, wo_p, wo_r, wo_n, onO_s, onN_s, ble_self, ble_succ, pv_t, pv_int, ov_nil, ov_cons, ov_nilS, put_some, bi_eql, pevP, pevR, pevN, getP, setP, boxP, look, PW.cs?, PW.push, PW.none, nthP, cutP, Option.map_some, Option.bind_some, Bool.and_true, ↓reduceIte, reduceCtorEq, ltL, lt, Nat.reduceAdd, Nat.zero_add, resPs, resP, tupP, eqB_iff, hl])
  -- the period
  refine PRun.cut (fun x t π => x = .exit 0 ∧ t = (.junk :: .ptr 0 0 :: .ptr 1 0 :: .lit (.int .i64 (per loop : Nat)) :: .junk :: .junk :: .junk :: .junk :: .junk :: .junk :: .junk :: .junk :: .junk :: .junk :: .junk :: .junk :: .junk :: .junk :: .junk :: .junk :: .junk :: .junk :: .junk :: .junk :: .junk :: .junk :: .junk :: .junk :: .junk :: .junk :: .junk :: .junk :: .junk :: .junk :: .junk :: .junk :: .junk :: .junk :: .junk :: .junk :: .junk :: .junk :: .junk :: .junk :: .junk :: .junk :: .junk :: .junk :: .junk :: .junk :: .junk :: .junk :: .junk :: .junk :: .junk :: .junk :: .junk :: .junk :: .junk :: .junk :: .junk :: .junk :: .junk :: .junk :: .junk :: .junk :: .junk :: .junk :: .junk :: .junk :: .junk :: .junk :: .junk :: .junk :: .junk :: .junk :: .junk :: .junk :: .junk :: .junk :: .junk :: .junk :: .junk :: .junk :: .junk :: []) ∧ π = ⟨2, [(1, .cells [.lit (.slice none 0 0), .lit (.slice none 0 0)] 25 2 true false []), (0, .cells [.sz (L16 stem) stem.length, .sz (L16 loop) loop.length] 25 2 true false [])]⟩) ?_ ?_
  · refine PRun.gh (Gh.mask (false :: true :: true :: true :: false :: false :: false :: false :: false :: false :: false :: false :: false :: false :: false :: false :: false :: false :: false :: false :: false :: false :: false :: false :: false :: false :: false :: false :: false :: false :: false :: false :: false :: false :: false :: false :: false :: false :: false :: false :: false :: false :: false :: false :: false :: false :: false :: false :: false :: false :: false :: false :: false :: false :: false :: false :: false :: false :: false :: false :: false :: false :: false :: false :: false :: false :: false :: false :: false :: false :: false :: false :: false :: false :: false :: false :: false :: false :: false :: false :: false :: false :: false :: false :: false :: []) ?_)
    refine PRun.loopG (fun m t π => ∃ n : Nat, t = (.junk :: .ptr 0 0 :: .ptr 1 0 :: .lit (.int .i64 (n : Nat)) :: .junk :: .junk :: .junk :: .junk :: .junk :: .junk :: .junk :: .junk :: .junk :: .junk :: .junk :: .junk :: .junk :: .junk :: .junk :: .junk :: .junk :: .junk :: .junk :: .junk :: .junk :: .junk :: .junk :: .junk :: .junk :: .junk :: .junk :: .junk :: .junk :: .junk :: .junk :: .junk :: .junk :: .junk :: .junk :: .junk :: .junk :: .junk :: .junk :: .junk :: .junk :: .junk :: .junk :: .junk :: .junk :: .junk :: .junk :: .junk :: .junk :: .junk :: .junk :: .junk :: .junk :: .junk :: .junk :: .junk :: .junk :: .junk :: .junk :: .junk :: .junk :: .junk :: .junk :: .junk :: .junk :: .junk :: .junk :: .junk :: .junk :: .junk :: .junk :: .junk :: .junk :: .junk :: .junk :: .junk :: .junk :: .junk :: .junk :: .junk :: .junk :: []) ∧ 1 ≤ n ∧ n ≤ per loop ∧ m = per loop - n ∧ π = ⟨2, [(1, .cells [.lit (.slice none 0 0), .lit (.slice none 0 0)] 25 2 true false []), (0, .cells [.sz (L16 stem) stem.length, .sz (L16 loop) loop.length] 25 2 true false [])]⟩) ?_ (per loop - 1) _ _ ⟨1, rfl, by omega, by omega, rfl, rfl⟩
    rintro m t π ⟨n, rfl, hn1, hn2, rfl, rfl⟩
    repeat (refine PRun.wpn rfl ?_; simp only [wp, wo_p, wo_r, wo_call, onO_s, pv_t, put_some, pevP, pevR, getP, setP, evsP, look, PW.cs?, nthP, Option.bind_some, Nat.zero_le, true_and, ↓reduceIte, reduceCtorEq, Nat.zero_add])
    refine .refl (PFun.to (again_ok hm hC loop n (by omega) (by omega) (by omega)) rfl (POps.wp ?_))
    simp only [wo_nil, wo_p, onO_s, pv_t, put_some, pevP, getP, setP]
    by_cases hnp : n = per loop
    · subst hnp
      simp only [perB_t hper]
      repeat (refine PRun.wpn rfl ?_; simp only [wp, wo_nil, wo_p, onO_s, pv_t, put_some, pevP, getP, setP, true_and, ↓reduceIte, reduceCtorEq])
      refine Gh.mask (false :: true :: true :: true :: false :: false :: false :: false :: false :: false :: false :: false :: false :: false :: false :: false :: false :: false :: false :: false :: false :: false :: false :: false :: false :: false :: false :: false :: false :: false :: false :: false :: false :: false :: false :: false :: false :: false :: false :: false :: false :: false :: false :: false :: false :: false :: false :: false :: false :: false :: false :: false :: false :: false :: false :: false :: false :: false :: false :: false :: false :: false :: false :: false :: false :: false :: false :: false :: false :: false :: false :: false :: false :: false :: false :: false :: false :: false :: false :: false :: false :: false :: false :: false :: false :: []) ?_
      exact ⟨rfl, rfl⟩
    · simp only [perB_f (hmin n (by omega) (by omega))]
      repeat (refine PRun.wpn rfl ?_; simp only [wp, wo_nil, wo_p, onO_s, pv_t, pv_int, put_some, bi_add, pevP, getP, setP, Option.map_some, ↓reduceIte, Bool.false_eq_true])
      rw [wrap64 (by omega) (by omega)]
      refine Gh.mask (false :: true :: true :: true :: false :: false :: false :: false :: false :: false :: false :: false :: false :: false :: false :: false :: false :: false :: false :: false :: false :: false :: false :: false :: false :: false :: false :: false :: false :: false :: false :: false :: false :: false :: false :: false :: false :: false :: false :: false :: false :: false :: false :: false :: false :: false :: false :: false :: false :: false :: false :: false :: false :: false :: false :: false :: false :: false :: false :: false :: false :: false :: false :: false :: false :: false :: false :: false :: false :: false :: false :: false :: false :: false :: false :: false :: false :: false :: false :: false :: false :: false :: false :: false :: false :: []) ?_
      exact ⟨per loop - (n + 1), by omega, n + 1, rfl, by omega, by omega, rfl, rfl⟩
  rintro x t π ⟨rfl, rfl, rfl⟩
  repeat (refine PRun.wpn rfl ?_; simp only [wp, wo_nil, wo_p, wo_r, onO_s, pv_t, pv_int, put_some, pevP, pevR, getP, setP, look, PW.cs?, nthP, Option.bind_some, ↓reduceIte, reduceCtorEq, Nat.add_zero])
  -- the loop turned back
  refine PRun.cut (fun x t π => x = .exit 2 ∧ ∃ s v : Nat, t = (.junk :: .ptr 0 0 :: .ptr 1 0 :: .lit (.int .i64 (per loop : Nat)) :: .junk :: .lit (.int .i64 (s : Nat)) :: .lit (.int .i64 (v : Nat)) :: .junk :: .junk :: .junk :: .junk :: .junk :: .junk :: .junk :: .junk :: .junk :: .junk :: .junk :: .junk :: .junk :: .junk :: .junk :: .junk :: .junk :: .junk :: .junk :: .junk :: .junk :: .junk :: .junk :: .junk :: .junk :: .junk :: .junk :: .junk :: .junk :: .junk :: .junk :: .junk :: .junk :: .junk :: .junk :: .junk :: .junk :: .junk :: .junk :: .junk :: .junk :: .junk :: .junk :: .junk :: .junk :: .junk :: .junk :: .junk :: .junk :: .junk :: .junk :: .junk :: .junk :: .junk :: .junk :: .junk :: .junk :: .junk :: .junk :: .junk :: .junk :: .junk :: .junk :: .junk :: .junk :: .junk :: .junk :: .junk :: .junk :: .junk :: .junk :: .junk :: .junk :: .junk :: .junk :: .junk :: .junk :: .junk :: []) ∧ s ≤ stem.length ∧ v ≤ stem.length ∧ rollF stem loop (per loop) stem.length 0 = (s, (per loop - v % per loop) % per loop) ∧ π = ⟨2, [(1, .cells [.lit (.slice none 0 0), .lit (.slice none 0 0)] 25 2 true false []), (0, .cells [.sz (L16 stem) stem.length, .sz (L16 loop) loop.length] 25 2 true false [])]⟩) ?_ ?_
  · refine PRun.gh (Gh.mask (false :: true :: true :: true :: false :: true :: true :: false :: false :: false :: false :: false :: false :: false :: false :: false :: false :: false :: false :: false :: false :: false :: false :: false :: false :: false :: false :: false :: false :: false :: false :: false :: false :: false :: false :: false :: false :: false :: false :: false :: false :: false :: false :: false :: false :: false :: false :: false :: false :: false :: false :: false :: false :: false :: false :: false :: false :: false :: false :: false :: false :: false :: false :: false :: false :: false :: false :: false :: false :: false :: false :: false :: false :: false :: false :: false :: false :: false :: false :: false :: false :: false :: false :: false :: false :: []) ?_)
    refine PRun.loopG (fun m t π => ∃ s v : Nat, t = (.junk :: .ptr 0 0 :: .ptr 1 0 :: .lit (.int .i64 (per loop : Nat)) :: .junk :: .lit (.int .i64 (s : Nat)) :: .lit (.int .i64 (v : Nat)) :: .junk :: .junk :: .junk :: .junk :: .junk :: .junk :: .junk :: .junk :: .junk :: .junk :: .junk :: .junk :: .junk :: .junk :: .junk :: .junk :: .junk :: .junk :: .junk :: .junk :: .junk :: .junk :: .junk :: .junk :: .junk :: .junk :: .junk :: .junk :: .junk :: .junk :: .junk :: .junk :: .junk :: .junk :: .junk :: .junk :: .junk :: .junk :: .junk :: .junk :: .junk :: .junk :: .junk :: .junk :: .junk :: .junk :: .junk :: .junk :: .junk :: .junk :: .junk :: .junk :: .junk :: .junk :: .junk :: .junk :: .junk :: .junk :: .junk :: .junk :: .junk :: .junk :: .junk :: .junk :: .junk :: .junk :: .junk :: .junk :: .junk :: .junk :: .junk :: .junk :: .junk :: .junk :: .junk :: .junk :: .junk :: .junk :: []) ∧ s + v = stem.length ∧ m = s ∧ rollF stem loop (per loop) s ((per loop - v % per loop) % per loop) = rollF stem loop (per loop) stem.length 0 ∧ π = ⟨2, [(1, .cells [.lit (.slice none 0 0), .lit (.slice none 0 0)] 25 2 true false []), (0, .cells [.sz (L16 stem) stem.length, .sz (L16 loop) loop.length] 25 2 true false [])]⟩) ?_ stem.length _ _ ⟨stem.length, 0, rfl, by omega, rfl, by simp, rfl⟩
    rintro m t π ⟨s, v, rfl, hsv, hn, hr, rfl⟩
    repeat (refine PRun.wpn rfl ?_; simp only [wp])
    refine PDraw.last (Nat.zero_le _) rfl ?_
    cases s with
    | zero =>
      have e0 : ¬ (0 : Int) < 0 := by omega
      try dsimp only
      simp only [wanted_g, b_ft, onX_s, onXG_f, onXI_s, wx_nil, wx_cons, wx_p, wx_g, pv_t, pv_int, pv_bool, put_some, bi_gtr, pevP, getP, setP, nthO, Option.map_some, nc0, ltB_f e0]
      repeat (refine PRun.wpn rfl ?_; simp only [wp, pv_t, getP, true_and, ↓reduceIte, Bool.false_eq_true])
      refine Gh.mask (false :: true :: true :: true :: false :: true :: true :: false :: false :: false :: false :: false :: false :: false :: false :: false :: false :: false :: false :: false :: false :: false :: false :: false :: false :: false :: false :: false :: false :: false :: false :: false :: false :: false :: false :: false :: false :: false :: false :: false :: false :: false :: false :: false :: false :: false :: false :: false :: false :: false :: false :: false :: false :: false :: false :: false :: false :: false :: false :: false :: false :: false :: false :: false :: false :: false :: false :: false :: false :: false :: false :: false :: false :: false :: false :: false :: false :: false :: false :: false :: false :: false :: false :: false :: false :: []) ?_
      exact ⟨0, v, rfl, by omega, by omega, hr.symm, rfl⟩
    | succ s =>
      have vm := Nat.mod_lt v p0
      have e0 : (0 : Int) < ((s + 1 : Nat) : Int) := by omega
      have e1 : IntKind.i64.wrap (((s + 1 : Nat) : Int) - 1) = (s : Nat) := by rw [wrap64 (by omega) (by omega)]; omega
      have e2 : (s : Int) < (stem.length : Nat) := by omega
      have e3 : IntKind.i64.wrap ((per loop : Nat) - 1) = ((per loop : Nat) : Int) - 1 := wrap64 (by omega) (by omega)
      have e4 : IntKind.i64.wrap (((per loop : Nat) : Int) - 1 - ((v % per loop : Nat) : Int)) = ((per loop : Nat) : Int) - 1 - ((v % per loop : Nat) : Int) := wrap64 (by omega) (by omega)
      have e5 : IntKind.i64.wrap (((per loop : Nat) : Int) - 1 - ((v % per loop : Nat) : Int) + (per loop : Nat)) = ((per loop - 1 - v % per loop + per loop : Nat) : Int) := by rw [wrap64 (by omega) (by omega)]; omega
      have e6 : (per loop - 1 - v % per loop + per loop) % per loop < per loop := Nat.mod_lt _ p0
      have e7 : s < stem.length := by omega
      have e8 : (per loop - 1 - v % per loop + per loop) % per loop < loop.length := by omega
      have e9 : (((per loop - 1 - v % per loop + per loop) % per loop : Nat) : Int) < (loop.length : Nat) := by omega
      have e10 : ((per loop - v % per loop) % per loop + per loop - 1) % per loop = (per loop - 1 - v % per loop + per loop) % per loop := by
        rw [roll_next _ _ p0, Nat.add_mod_right]
        by_cases h1 : v % per loop + 1 = per loop
        · have : (v + 1) % per loop = 0 := by rw [← Nat.mod_add_mod, h1, Nat.mod_self]
          rw [this, show per loop - 1 - v % per loop = 0 by omega]; simp
        · have : (v + 1) % per loop = v % per loop + 1 := by rw [← Nat.mod_add_mod]; exact Nat.mod_eq_of_lt (by omega)
          rw [this]; congr 1; omega
      have e11 : stem[s]? = loop[((per loop - v % per loop) % per loop + per loop - 1) % per loop]? ↔ stem[s] = loop[(per loop - 1 - v % per loop + per loop) % per loop] := by
        rw [e10, List.getElem?_eq_getElem e7, List.getElem?_eq_getElem e8]; simp
      simp only [rollF] at hr
      try dsimp only
      simp only [beq_self_eq_true, wanted_g, onX_s, onXG_t, onXI_s, rdX_e, ltN, ltD_s, wx_nil, wx_cons, wx_p, wx_r, wx_g, pv_t, pv_int, put_some, bi_add, bi_sub, bi_eql, bi_gtr, pevP, pevR, getP, setP, nthO, look, PW.cs?, nthP, baseP, ROp.base, List.length_cons, List.length_nil, Option.map_some, Option.bind_some, Nat.mul_one, Int.natCast_nonneg, Int.toNat_natCast, and_self, Bool.and_true, ↓reduceIte, reduceCtorEq, Nat.reduceAdd, Option.isSome_some, Nat.add_zero, Nat.zero_add, List.length_cons, List.length_nil, ltB_t e0, e1, e2, L16_drop e7, e3, e4, e5, bi_rem p3, tmod_nat, e9, L16_drop e8]
      by_cases he : stem[s] = loop[(per loop - 1 - v % per loop + per loop) % per loop]
      · repeat (refine PRun.wpn rfl ?_; simp only [wp, wo_nil, wo_p, onO_s, pv_t, pv_int, put_some, bi_add, bi_sub, pevP, getP, setP, Option.map_some, ↓reduceIte, eqB_t he, e1])
        have e12 : IntKind.i64.wrap ((v : Nat) + 1) = ((v + 1 : Nat) : Int) := by rw [wrap64 (by omega) (by omega)]; omega
        rw [if_pos (e11.2 he), roll_next _ _ p0] at hr
        try rw [e12]
        refine Gh.mask (false :: true :: true :: true :: false :: true :: true :: false :: false :: false :: false :: false :: false :: false :: false :: false :: false :: false :: false :: false :: false :: false :: false :: false :: false :: false :: false :: false :: false :: false :: false :: false :: false :: false :: false :: false :: false :: false :: false :: false :: false :: false :: false :: false :: false :: false :: false :: false :: false :: false :: false :: false :: false :: false :: false :: false :: false :: false :: false :: false :: false :: false :: false :: false :: false :: false :: false :: false :: false :: false :: false :: false :: false :: false :: false :: false :: false :: false :: false :: false :: false :: false :: false :: false :: false :: []) ?_
        exact ⟨s, by omega, s, v + 1, rfl, by omega, rfl, hr, rfl⟩
      · repeat (refine PRun.wpn rfl ?_; simp only [wp, pv_t, getP, true_and, ↓reduceIte, Bool.false_eq_true, eqB_f he])
        rw [if_neg (fun h => he (e11.1 h))] at hr
        refine Gh.mask (false :: true :: true :: true :: false :: true :: true :: false :: false :: false :: false :: false :: false :: false :: false :: false :: false :: false :: false :: false :: false :: false :: false :: false :: false :: false :: false :: false :: false :: false :: false :: false :: false :: false :: false :: false :: false :: false :: false :: false :: false :: false :: false :: false :: false :: false :: false :: false :: false :: false :: false :: false :: false :: false :: false :: false :: false :: false :: false :: false :: false :: false :: false :: false :: false :: false :: false :: false :: false :: false :: false :: false :: false :: false :: false :: false :: false :: false :: false :: false :: false :: false :: false :: false :: false :: []) ?_
        exact ⟨s + 1, v, rfl, by omega, by omega, hr.symm, rfl⟩
  rintro x t π ⟨rfl, s, v, rfl, hs, hv, hr, rfl⟩
  have fin : normal ⟨stem, loop⟩ = ⟨stem.take s, rotR loop (per loop) v (per loop)⟩ := by
    simp only [normal]
    rw [if_neg (by omega), hr]
    simp only [Wd.mk.injEq, true_and]
    have hu : (per loop - v % per loop) % per loop < per loop := Nat.mod_lt _ p0
    refine ext_getD (by rw [rotR_len]; simp; omega) fun k hk => ?_
    have hk' : k < per loop := by simp at hk; omega
    rw [rot_take _ _ _ _ p1 hu hk', ← roll_idx _ _ _ p0]
    simp [rotR, List.getD, hk']
  have hs9 : ((s : Nat) : Int) ≤ (stem.length : Nat) := by omega
  have htl : (stem.take s).length = s := by simp; omega
  simp only [↓reduceIte]
  refine PRun.wpn rfl ?_
  simp only [wp, wo_nil, wo_n, onN_s, ble0, ov_nil, ov_cons, ov_nilS, put_some, pevN, setP, PW.push, Bool.and_true, ↓reduceIte, ltL, lt, Nat.reduceAdd]
  refine PRun.seqc (fun t π => t = (.junk :: .ptr 0 0 :: .ptr 1 0 :: .lit (.int .i64 (per loop : Nat)) :: .junk :: .junk :: .lit (.int .i64 (v : Nat)) :: .ptr 2 0 :: .junk :: .junk :: .junk :: .junk :: .junk :: .junk :: .junk :: .junk :: .junk :: .junk :: .junk :: .junk :: .junk :: .junk :: .junk :: .junk :: .junk :: .junk :: .junk :: .junk :: .junk :: .junk :: .junk :: .junk :: .junk :: .junk :: .junk :: .junk :: .junk :: .junk :: .junk :: .junk :: .junk :: .junk :: .junk :: .junk :: .junk :: .junk :: .junk :: .junk :: .junk :: .junk :: .junk :: .junk :: .junk :: .junk :: .junk :: .junk :: .junk :: .junk :: .junk :: .junk :: .junk :: .junk :: .junk :: .junk :: .junk :: .junk :: .junk :: .junk :: .junk :: .junk :: .junk :: .junk :: .junk :: .junk :: .junk :: .junk :: .junk :: .junk :: .junk :: .junk :: .junk :: .junk :: .junk :: .junk :: .junk :: []) ∧ ∃ p, p = stem.take s ∧ ((p = [] ∧ π = ⟨5, [(2, .cells [.lit (.slice none 0 0), .lit (.slice none 0 0)] 25 2 true false []), (1, .cells [.lit (.slice none 0 0), .lit (.slice none 0 0)] 25 2 true false []), (0, .cells [.sz (L16 stem) stem.length, .sz (L16 loop) loop.length] 25 2 true false [])]⟩) ∨ (p ≠ [] ∧ π = ⟨5, [(3, .cells (L16 p) 54 1 false false []), (2, .cells [.loc 3 0 p.length p.length, .lit (.slice none 0 0)] 25 2 true false []), (1, .cells [.lit (.slice none 0 0), .lit (.slice none 0 0)] 25 2 true false []), (0, .cells [.sz (L16 stem) stem.length, .sz (L16 loop) loop.length] 25 2 true false [])]⟩))) ?_ ?_
  · repeat (refine PRun.wpn rfl ?_; simp only [wp])
    refine PDraw.stage (Nat.zero_le _) rfl ?_
    try dsimp only
    simp only [onX_s, onXI_s, rdX_e, ltN, ltD_s, onD_s, wx_nil, wx_cons, wx_p, wx_r, wd_cons, wd_e, pv_t, put_some, pevP, pevR, getP, setP, nthO, look, PW.cs?, nthP, boundP, baseP, ROp.base, List.length_cons, List.length_nil, List.drop_zero, Option.bind_some, Option.isNone_none, true_or, Nat.mul_one, Nat.sub_zero, Int.natCast_nonneg, Int.toNat_natCast, and_self, Bool.and_true, ↓reduceIte, reduceCtorEq, Nat.reduceAdd, Option.isSome_some, Nat.add_zero, Nat.zero_add, List.length_cons, List.length_nil, hs9]
    by_cases hs0 : s = 0
    · subst hs0
      refine PDE.any (Nat.zero_le _) (PE.det (by simp only [pv_t, pevE, getP, lenP, srcP, appendP, cutP, List.take_zero, Option.bind_some, Nat.zero_le, Nat.mul_one, nc0, ↓reduceIte, Nat.add_zero, Nat.le_refl, L16_len]; rfl) ?_)
      refine PDraw.stage (Nat.zero_le _) rfl ?_
      try dsimp only
      simp only [onX_s, onXI_s, onD_s, wx_nil, wx_cons, wx_p, wd_cons, wd_e, pv_t, put_some, pevP, getP, setP, nthO, List.take_zero, nc0, Nat.add_zero]
      refine PDE.any (Nat.zero_le _) (PE.det rfl ?_)
      refine PDraw.last (Nat.zero_le _) rfl ?_
      try dsimp only
      simp only [wx_nil, pv_t, put_none, getP, ↓reduceIte, setO, killO]
      refine Gh.mr (false :: true :: true :: true :: false :: false :: true :: true :: false :: false :: false :: false :: false :: false :: false :: false :: false :: false :: false :: false :: false :: false :: false :: false :: false :: false :: false :: false :: false :: false :: false :: false :: false :: false :: false :: false :: false :: false :: false :: false :: false :: false :: false :: false :: false :: false :: false :: false :: false :: false :: false :: false :: false :: false :: false :: false :: false :: false :: false :: false :: false :: false :: false :: false :: false :: false :: false :: false :: false :: false :: false :: false :: false :: false :: false :: false :: false :: false :: false :: false :: false :: false :: false :: false :: false :: []) [(0, 0), (1, 1), (2, 2)] 5 rfl ?_
      exact ⟨rfl, [], rfl, .inl ⟨rfl, rfl⟩⟩
    · have hs1 : ¬ s ≤ 0 := by omega
      have hs2 : ¬ 140737488355328 < (2 * s + 768) * 2 := by omega
      refine PDE.any (Nat.zero_le _) (PE.det (by simp only [pv_t, pevE, getP, lenP, srcP, appendP, PW.push, cutP, Option.bind_some, Nat.mul_one, ↓reduceIte, Nat.reduceAdd, Nat.zero_add, Bool.false_or, Bool.not_true, gt_iff_lt, Nat.le_refl, hs1, hs2, hs, L16_len, L16_takeK, allPlain_L16]; rfl) ?_)
      refine PDraw.stage (Nat.zero_le _) rfl ?_
      try dsimp only
      simp only [onX_s, onXI_s, onD_s, wx_nil, wx_cons, wx_p, wd_cons, wd_e, pv_t, put_some, pevP, getP, setP, nthO, Nat.add_zero]
      refine PDE.any (Nat.zero_le _) (PE.det rfl ?_)
      refine PDraw.last (Nat.zero_le _) rfl ?_
      try dsimp only
      simp only [wx_nil, pv_t, put_none, getP, ↓reduceIte, Nat.reduceEqDiff, setO, killO]
      refine Gh.mr (false :: true :: true :: true :: false :: false :: true :: true :: false :: false :: false :: false :: false :: false :: false :: false :: false :: false :: false :: false :: false :: false :: false :: false :: false :: false :: false :: false :: false :: false :: false :: false :: false :: false :: false :: false :: false :: false :: false :: false :: false :: false :: false :: false :: false :: false :: false :: false :: false :: false :: false :: false :: false :: false :: false :: false :: false :: false :: false :: false :: false :: false :: false :: false :: false :: false :: false :: false :: false :: false :: false :: false :: false :: false :: false :: false :: false :: false :: false :: false :: false :: false :: false :: false :: false :: []) [(0, 0), (1, 1), (2, 2), (3, 3)] 5 rfl ?_
      simp only [true_and, ↓reduceIte, reduceCtorEq, Nat.reduceEqDiff, Bool.false_eq_true, renL, renP, renO, renH, renA, lkN, maskP, renL_L16]
      exact ⟨stem.take s, rfl, .inr ⟨fun h => by rw [h] at htl; simp at htl; omega, by rw [htl]⟩⟩
  rintro t π ⟨rfl, p, hp, ⟨rfl, rfl⟩ | ⟨hp0, rfl⟩⟩
  · refine PRun.seqc (fun t π => t = (.junk :: .ptr 0 0 :: .ptr 1 0 :: .lit (.int .i64 (per loop : Nat)) :: .junk :: .junk :: .lit (.int .i64 (v : Nat)) :: .ptr 2 0 :: .junk :: .junk :: .junk :: .junk :: .junk :: .junk :: .junk :: .junk :: .junk :: .junk :: .junk :: .junk :: .junk :: .junk :: .junk :: .junk :: .junk :: .junk :: .junk :: .junk :: .junk :: .junk :: .junk :: .junk :: .junk :: .junk :: .junk :: .junk :: .junk :: .junk :: .junk :: .junk :: .junk :: .junk :: .junk :: .junk :: .junk :: .junk :: .junk :: .junk :: .junk :: .junk :: .junk :: .junk :: .junk :: .junk :: .junk :: .junk :: .junk :: .junk :: .junk :: .junk :: .junk :: .junk :: .junk :: .junk :: .junk :: .junk :: .junk :: .junk :: .junk :: .junk :: .junk :: .junk :: .junk :: .junk :: .junk :: .junk :: .junk :: .junk :: .junk :: .junk :: .junk :: .junk :: .junk :: .junk :: .junk :: []) ∧ ∃ q, q = rotR loop (per loop) v (per loop) ∧ ((q = [] ∧ π = ⟨5, [(2, .cells [.lit (.slice none 0 0), .lit (.slice none 0 0)] 25 2 true false []), (1, .cells [.lit (.slice none 0 0), .lit (.slice none 0 0)] 25 2 true false []), (0, .cells [.sz (L16 stem) stem.length, .sz (L16 loop) loop.length] 25 2 true false [])]⟩) ∨ (q ≠ [] ∧ π = ⟨5, [(4, .cells (L16 q) 54 1 false false []), (2, .cells [.lit (.slice none 0 0), .loc 4 0 q.length q.length] 25 2 true false []), (1, .cells [.lit (.slice none 0 0), .lit (.slice none 0 0)] 25 2 true false []), (0, .cells [.sz (L16 stem) stem.length, .sz (L16 loop) loop.length] 25 2 true false [])]⟩))) ?_ ?_
    · repeat (refine PRun.wpn rfl ?_; simp only [wp, wo_nil, wo_p, onO_s, pv_int, put_some, pevP, setP])
      refine PRun.gh (Gh.mask (false :: true :: true :: true :: false :: false :: true :: true :: true :: false :: false :: false :: false :: false :: false :: false :: false :: false :: false :: false :: false :: false :: false :: false :: false :: false :: false :: false :: false :: false :: false :: false :: false :: false :: false :: false :: false :: false :: false :: false :: false :: false :: false :: false :: false :: false :: false :: false :: false :: false :: false :: false :: false :: false :: false :: false :: false :: false :: false :: false :: false :: false :: false :: false :: false :: false :: false :: false :: false :: false :: false :: false :: false :: false :: false :: false :: false :: false :: false :: false :: false :: false :: false :: false :: false :: []) ?_)
      refine PRun.loopG (fun n t π => ∃ i q, t = (.junk :: .ptr 0 0 :: .ptr 1 0 :: .lit (.int .i64 (per loop : Nat)) :: .junk :: .junk :: .lit (.int .i64 (v : Nat)) :: .ptr 2 0 :: .lit (.int .i64 (i : Nat)) :: .junk :: .junk :: .junk :: .junk :: .junk :: .junk :: .junk :: .junk :: .junk :: .junk :: .junk :: .junk :: .junk :: .junk :: .junk :: .junk :: .junk :: .junk :: .junk :: .junk :: .junk :: .junk :: .junk :: .junk :: .junk :: .junk :: .junk :: .junk :: .junk :: .junk :: .junk :: .junk :: .junk :: .junk :: .junk :: .junk :: .junk :: .junk :: .junk :: .junk :: .junk :: .junk :: .junk :: .junk :: .junk :: .junk :: .junk :: .junk :: .junk :: .junk :: .junk :: .junk :: .junk :: .junk :: .junk :: .junk :: .junk :: .junk :: .junk :: .junk :: .junk :: .junk :: .junk :: .junk :: .junk :: .junk :: .junk :: .junk :: .junk :: .junk :: .junk :: .junk :: .junk :: .junk :: .junk :: .junk :: []) ∧ i ≤ per loop ∧ n = per loop - i ∧ q = rotR loop (per loop) v i ∧ ((q = [] ∧ π = ⟨5, [(2, .cells [.lit (.slice none 0 0), .lit (.slice none 0 0)] 25 2 true false []), (1, .cells [.lit (.slice none 0 0), .lit (.slice none 0 0)] 25 2 true false []), (0, .cells [.sz (L16 stem) stem.length, .sz (L16 loop) loop.length] 25 2 true false [])]⟩) ∨ (q ≠ [] ∧ π = ⟨5, [(4, .cells (L16 q) 54 1 false false []), (2, .cells [.lit (.slice none 0 0), .loc 4 0 q.length q.length] 25 2 true false []), (1, .cells [.lit (.slice none 0 0), .lit (.slice none 0 0)] 25 2 true false []), (0, .cells [.sz (L16 stem) stem.length, .sz (L16 loop) loop.length] 25 2 true false [])]⟩))) ?_ (per loop) _ _ ⟨0, [], rfl, by omega, by omega, rfl, .inl ⟨rfl, rfl⟩⟩
      rintro n t π ⟨i, q, rfl, hi, rfl, hq, hqi⟩
      by_cases him : ((i : Nat) : Int) < (per loop : Nat)
      · have vm := Nat.mod_lt v p0
        have f2 : (i + per loop - v % per loop) % per loop < loop.length := Nat.lt_of_lt_of_le (Nat.mod_lt _ p0) p1
        have f1 : (((i + per loop - v % per loop) % per loop : Nat) : Int) < (loop.length : Nat) := by omega
        have k1 : IntKind.i64.wrap ((i : Nat) - ((v % per loop : Nat) : Int)) = ((i : Nat) : Int) - ((v % per loop : Nat) : Int) := wrap64 (by omega) (by omega)
        have k2 : IntKind.i64.wrap (((i : Nat) : Int) - ((v % per loop : Nat) : Int) + (per loop : Nat)) = ((i + per loop - v % per loop : Nat) : Int) := by rw [wrap64 (by omega) (by omega)]; omega
        have hnext : q ++ [loop[(i + per loop - v % per loop) % per loop]] = rotR loop (per loop) v (i + 1) := by
          rw [hq, rotR_succ, getD_get f2]
        have hqlen : q.length = i := by rw [hq, rotR_len]
        rcases hqi with ⟨rfl, rfl⟩ | ⟨hq0, rfl⟩
        · repeat (refine PRun.wpn rfl ?_; simp only [wp, wo_nil, wo_p, onO_s, pv_t, put_some, bi_lss, pevP, getP, setP, Option.map_some, ↓reduceIte, ltB_iff, him])
          refine PDraw.stage (Nat.zero_le _) rfl ?_
          try dsimp only
          simp only [beq_self_eq_true, onX_s, onXN_s, onXI_s, rdX_e, ltN, ltD_s, onD_s, wx_nil, wx_cons, wx_p, wx_r, wx_n, wd_cons, wd_e, pv_t, ov_nil, ov_cons, ov_int, put_some, bi_add, bi_sub, pevP, pevR, pevN, getP, setP, nthO, fillP, spliceP, overP, plainP, isCell, look, PW.cs?, PW.push, nthP, baseP, ROp.base, List.length_cons, List.length_nil, Option.map_some, Option.bind_some, Nat.mul_one, Int.natCast_nonneg, Int.toNat_natCast, and_self, Bool.and_true, ↓reduceIte, reduceCtorEq, ltL, lt, Nat.reduceAdd, Option.isSome_some, Nat.zero_add, List.length_cons, List.length_nil, bi_rem p3, tmod_nat, k1, k2, f1, L16_drop f2]
          refine PDE.any (Nat.zero_le _) (PE.det (by simp only [pv_t, pevE, getP, lenP, srcP, appendP, plainP, isCell, look, PW.cs?, PW.push, cutP, List.length_cons, List.length_nil, List.drop_zero, List.take_zero, List.take_succ_cons, Option.bind_some, Nat.mul_one, Bool.and_true, ↓reduceIte, Nat.reduceAdd, Nat.reduceMul, Nat.reduceLeDiff, Nat.reduceLT, Nat.zero_add, allPlain, Bool.false_or, Bool.not_true, List.length_cons, List.length_nil, gt_iff_lt, Nat.le_refl]; rfl) ?_)
          refine PDraw.stage (Nat.zero_le _) rfl ?_
          try dsimp only
          simp only [onX_s, onXI_s, onD_s, wx_nil, wx_cons, wx_p, wd_cons, wd_e, pv_t, put_some, pevP, getP, setP, nthO, Nat.zero_add]
          refine PDE.any (Nat.zero_le _) (PE.det rfl ?_)
          refine PDraw.last (Nat.zero_le _) rfl ?_
          try dsimp only
          simp only [wx_nil, pv_t, put_none, getP, ↓reduceIte, Nat.reduceEqDiff, setO, killO]
          repeat (refine PRun.wpn rfl ?_; simp only [wp, wo_nil, wo_p, onO_s, pv_t, pv_int, put_some, bi_add, pevP, getP, setP, Option.map_some])
          rw [wrap64 (by omega) (by omega)]
          refine Gh.mr (false :: true :: true :: true :: false :: false :: true :: true :: true :: false :: false :: false :: false :: false :: false :: false :: false :: false :: false :: false :: false :: false :: false :: false :: false :: false :: false :: false :: false :: false :: false :: false :: false :: false :: false :: false :: false :: false :: false :: false :: false :: false :: false :: false :: false :: false :: false :: false :: false :: false :: false :: false :: false :: false :: false :: false :: false :: false :: false :: false :: false :: false :: false :: false :: false :: false :: false :: false :: false :: false :: false :: false :: false :: false :: false :: false :: false :: false :: false :: false :: false :: false :: false :: false :: false :: []) [(0, 0), (1, 1), (2, 2), (3, 3), (6, 4)] 5 rfl ?_
          try simp only [↓reduceIte, reduceCtorEq, Nat.reduceEqDiff, Bool.false_eq_true, renL, renP, renO, renH, renA, lkN, maskP]
          exact ⟨per loop - (i + 1), by omega, i + 1, [loop[(i + per loop - v % per loop) % per loop]], rfl, by omega, rfl, hnext, .inr ⟨by simp, rfl⟩⟩
        · have q1 : ¬ q.length + 1 ≤ q.length := by omega
          have q2 : ¬ 140737488355328 < (2 * (q.length + 1) + 768) * 2 := by omega
          repeat (refine PRun.wpn rfl ?_; simp only [wp, wo_nil, wo_p, onO_s, pv_t, put_some, bi_lss, pevP, getP, setP, Option.map_some, ↓reduceIte, ltB_iff, him])
          refine PDraw.stage (Nat.zero_le _) rfl ?_
          try dsimp only
          simp only [beq_self_eq_true, onX_s, onXN_s, onXI_s, rdX_e, ltN, ltD_s, onD_s, wx_nil, wx_cons, wx_p, wx_r, wx_n, wd_cons, wd_e, pv_t, ov_nil, ov_cons, ov_int, put_some, bi_add, bi_sub, pevP, pevR, pevN, getP, setP, nthO, fillP, spliceP, overP, plainP, isCell, look, PW.cs?, PW.push, nthP, baseP, ROp.base, List.length_cons, List.length_nil, Option.map_some, Option.bind_some, Nat.mul_one, Int.natCast_nonneg, Int.toNat_natCast, and_self, Bool.and_true, ↓reduceIte, reduceCtorEq, ltL, lt, Nat.reduceAdd, Nat.reduceEqDiff, Option.isSome_some, Nat.zero_add, List.length_cons, List.length_nil, bi_rem p3, tmod_nat, k1, k2, f1, L16_drop f2]
          refine PDE.any (Nat.zero_le _) (PE.det (by simp only [pv_t, pevE, getP, lenP, srcP, appendP, plainP, isCell, look, PW.cs?, PW.push, cutP, List.length_cons, List.length_nil, List.drop_zero, List.take_zero, List.take_succ_cons, Option.bind_some, Nat.mul_one, Bool.and_true, ↓reduceIte, Nat.reduceAdd, Nat.reduceEqDiff, Bool.false_eq_true, Nat.zero_add, allPlain, setO, Bool.or_self, Bool.not_true, List.length_cons, List.length_nil, gt_iff_lt, Nat.le_refl, q1, q2, L16_len, L16_take, bne_self_eq_false]; rfl) ?_)
          refine PDraw.stage (Nat.zero_le _) rfl ?_
          try dsimp only
          simp only [onX_s, onXI_s, onD_s, wx_nil, wx_cons, wx_p, wd_cons, wd_e, pv_t, put_some, pevP, getP, setP, nthO, Nat.zero_add]
          refine PDE.any (Nat.zero_le _) (PE.det rfl ?_)
          refine PDraw.last (Nat.zero_le _) rfl ?_
          try dsimp only
          simp only [wx_nil, pv_t, put_none, getP, ↓reduceIte, Nat.reduceEqDiff, setO, killO]
          repeat (refine PRun.wpn rfl ?_; simp only [wp, wo_nil, wo_p, onO_s, pv_t, pv_int, put_some, bi_add, pevP, getP, setP, Option.map_some])
          rw [wrap64 (by omega) (by omega)]
          refine Gh.mr (false :: true :: true :: true :: false :: false :: true :: true :: true :: false :: false :: false :: false :: false :: false :: false :: false :: false :: false :: false :: false :: false :: false :: false :: false :: false :: false :: false :: false :: false :: false :: false :: false :: false :: false :: false :: false :: false :: false :: false :: false :: false :: false :: false :: false :: false :: false :: false :: false :: false :: false :: false :: false :: false :: false :: false :: false :: false :: false :: false :: false :: false :: false :: false :: false :: false :: false :: false :: false :: false :: false :: false :: false :: false :: false :: false :: false :: false :: false :: false :: false :: false :: false :: false :: false :: []) [(0, 0), (1, 1), (2, 2), (3, 3), (6, 4)] 5 rfl ?_
          simp only [↓reduceIte, reduceCtorEq, Nat.reduceEqDiff, Bool.false_eq_true, renL, renP, renO, renH, renA, lkN, maskP, renL_L16, L16_snoc]
          exact ⟨per loop - (i + 1), by omega, i + 1, q ++ [loop[(i + per loop - v % per loop) % per loop]], rfl, by omega, rfl, hnext, .inr ⟨by simp, by rw [List.length_append]; rfl⟩⟩
      · have him' : i = per loop := by omega
        subst him'
        rcases hqi with ⟨hq1, rfl⟩ | ⟨hq0, rfl⟩
        · repeat (refine PRun.wpn rfl ?_; simp only [wp, wo_nil, wo_p, onO_s, pv_t, put_some, bi_lss, pevP, getP, setP, Option.map_some, ↓reduceIte, ltB_iff, him])
          refine Gh.mask (false :: true :: true :: true :: false :: false :: true :: true :: false :: false :: false :: false :: false :: false :: false :: false :: false :: false :: false :: false :: false :: false :: false :: false :: false :: false :: false :: false :: false :: false :: false :: false :: false :: false :: false :: false :: false :: false :: false :: false :: false :: false :: false :: false :: false :: false :: false :: false :: false :: false :: false :: false :: false :: false :: false :: false :: false :: false :: false :: false :: false :: false :: false :: false :: false :: false :: false :: false :: false :: false :: false :: false :: false :: false :: false :: false :: false :: false :: false :: false :: false :: false :: false :: false :: false :: []) ?_
          exact ⟨rfl, q, hq, .inl ⟨hq1, rfl⟩⟩
        · repeat (refine PRun.wpn rfl ?_; simp only [wp, wo_nil, wo_p, onO_s, pv_t, put_some, bi_lss, pevP, getP, setP, Option.map_some, ↓reduceIte, ltB_iff, him])
          refine Gh.mask (false :: true :: true :: true :: false :: false :: true :: true :: false :: false :: false :: false :: false :: false :: false :: false :: false :: false :: false :: false :: false :: false :: false :: false :: false :: false :: false :: false :: false :: false :: false :: false :: false :: false :: false :: false :: false :: false :: false :: false :: false :: false :: false :: false :: false :: false :: false :: false :: false :: false :: false :: false :: false :: false :: false :: false :: false :: false :: false :: false :: false :: false :: false :: false :: false :: false :: false :: false :: false :: false :: false :: false :: false :: false :: false :: false :: false :: false :: false :: false :: false :: false :: false :: false :: false :: []) ?_
          exact ⟨rfl, q, hq, .inr ⟨hq0, rfl⟩⟩
    rintro t π ⟨rfl, q, hq, hqi⟩
    have hqne : q ≠ [] := fun h => by have := rotR_len loop (per loop) v (per loop); rw [← hq, h] at this; simp at this; omega
    rcases hqi with ⟨rfl, _⟩ | ⟨_, rfl⟩
    · exact absurd rfl hqne
    refine PRun.gh (Gh.freeze 4 rfl (pureL_L16 q) rfl ?_)
    simp only [List.drop_zero, ↓reduceIte, reduceCtorEq, Nat.reduceEqDiff, frzL, frzP, frzO, frzH, Nat.le_refl]
    repeat (refine PRun.wpn rfl ?_; simp only [wp, wo_nil, wo_r, wo_st, onO_s, onE_s, ble0, pv_t, put_some, put_none, pevR, pevE, getP, setP, spliceP, overP, plainP, isCell, look, PW.cs?, cutP, List.length_cons, List.length_nil, List.drop_zero, List.take_zero, List.take_succ_cons, Option.map_some, Option.bind_some, or_true, true_and, Bool.and_true, ↓reduceIte, reduceCtorEq, Nat.reduceAdd, Nat.reduceEqDiff, Bool.false_eq_true, Nat.zero_add, allPlain, PW.wr, setO, killO, Bool.or_self, Bool.not_true, List.length_cons, List.length_nil, Nat.le_refl])
    rw [fin, ← hp, ← hq]
    exact .refl ⟨_, rfl, .agg (.cons .nil_sz (.cons .sl_sz .nil))⟩
  · refine PRun.seqc (fun t π => t = (.junk :: .ptr 0 0 :: .ptr 1 0 :: .lit (.int .i64 (per loop : Nat)) :: .junk :: .junk :: .lit (.int .i64 (v : Nat)) :: .ptr 2 0 :: .junk :: .junk :: .junk :: .junk :: .junk :: .junk :: .junk :: .junk :: .junk :: .junk :: .junk :: .junk :: .junk :: .junk :: .junk :: .junk :: .junk :: .junk :: .junk :: .junk :: .junk :: .junk :: .junk :: .junk :: .junk :: .junk :: .junk :: .junk :: .junk :: .junk :: .junk :: .junk :: .junk :: .junk :: .junk :: .junk :: .junk :: .junk :: .junk :: .junk :: .junk :: .junk :: .junk :: .junk :: .junk :: .junk :: .junk :: .junk :: .junk :: .junk :: .junk :: .junk :: .junk :: .junk :: .junk :: .junk :: .junk :: .junk :: .junk :: .junk :: .junk :: .junk :: .junk :: .junk :: .junk :: .junk :: .junk :: .junk :: .junk :: .junk :: .junk :: .junk :: .junk :: .junk :: .junk :: .junk :: .junk :: []) ∧ ∃ q, q = rotR loop (per loop) v (per loop) ∧ ((q = [] ∧ π = ⟨5, [(3, .cells (L16 p) 54 1 false false []), (2, .cells [.loc 3 0 p.length p.length, .lit (.slice none 0 0)] 25 2 true false []), (1, .cells [.lit (.slice none 0 0), .lit (.slice none 0 0)] 25 2 true false []), (0, .cells [.sz (L16 stem) stem.length, .sz (L16 loop) loop.length] 25 2 true false [])]⟩) ∨ (q ≠ [] ∧ π = ⟨5, [(4, .cells (L16 q) 54 1 false false []), (3, .cells (L16 p) 54 1 false false []), (2, .cells [.loc 3 0 p.length p.length, .loc 4 0 q.length q.length] 25 2 true false []), (1, .cells [.lit (.slice none 0 0), .lit (.slice none 0 0)] 25 2 true false []), (0, .cells [.sz (L16 stem) stem.length, .sz (L16 loop) loop.length] 25 2 true false [])]⟩))) ?_ ?_
    · repeat (refine PRun.wpn rfl ?_; simp only [wp, wo_nil, wo_p, onO_s, pv_int, put_some, pevP, setP])
      refine PRun.gh (Gh.mask (false :: true :: true :: true :: false :: false :: true :: true :: true :: false :: false :: false :: false :: false :: false :: false :: false :: false :: false :: false :: false :: false :: false :: false :: false :: false :: false :: false :: false :: false :: false :: false :: false :: false :: false :: false :: false :: false :: false :: false :: false :: false :: false :: false :: false :: false :: false :: false :: false :: false :: false :: false :: false :: false :: false :: false :: false :: false :: false :: false :: false :: false :: false :: false :: false :: false :: false :: false :: false :: false :: false :: false :: false :: false :: false :: false :: false :: false :: false :: false :: false :: false :: false :: false :: false :: []) ?_)
      refine PRun.loopG (fun n t π => ∃ i q, t = (.junk :: .ptr 0 0 :: .ptr 1 0 :: .lit (.int .i64 (per loop : Nat)) :: .junk :: .junk :: .lit (.int .i64 (v : Nat)) :: .ptr 2 0 :: .lit (.int .i64 (i : Nat)) :: .junk :: .junk :: .junk :: .junk :: .junk :: .junk :: .junk :: .junk :: .junk :: .junk :: .junk :: .junk :: .junk :: .junk :: .junk :: .junk :: .junk :: .junk :: .junk :: .junk :: .junk :: .junk :: .junk :: .junk :: .junk :: .junk :: .junk :: .junk :: .junk :: .junk :: .junk :: .junk :: .junk :: .junk :: .junk :: .junk :: .junk :: .junk :: .junk :: .junk :: .junk :: .junk :: .junk :: .junk :: .junk :: .junk :: .junk :: .junk :: .junk :: .junk :: .junk :: .junk :: .junk :: .junk :: .junk :: .junk :: .junk :: .junk :: .junk :: .junk :: .junk :: .junk :: .junk :: .junk :: .junk :: .junk :: .junk :: .junk :: .junk :: .junk :: .junk :: .junk :: .junk :: .junk :: .junk :: .junk :: []) ∧ i ≤ per loop ∧ n = per loop - i ∧ q = rotR loop (per loop) v i ∧ ((q = [] ∧ π = ⟨5, [(3, .cells (L16 p) 54 1 false false []), (2, .cells [.loc 3 0 p.length p.length, .lit (.slice none 0 0)] 25 2 true false []), (1, .cells [.lit (.slice none 0 0), .lit (.slice none 0 0)] 25 2 true false []), (0, .cells [.sz (L16 stem) stem.length, .sz (L16 loop) loop.length] 25 2 true false [])]⟩) ∨ (q ≠ [] ∧ π = ⟨5, [(4, .cells (L16 q) 54 1 false false []), (3, .cells (L16 p) 54 1 false false []), (2, .cells [.loc 3 0 p.length p.length, .loc 4 0 q.length q.length] 25 2 true false []), (1, .cells [.lit (.slice none 0 0), .lit (.slice none 0 0)] 25 2 true false []), (0, .cells [.sz (L16 stem) stem.length, .sz (L16 loop) loop.length] 25 2 true false [])]⟩))) ?_ (per loop) _ _ ⟨0, [], rfl, by omega, by omega, rfl, .inl ⟨rfl, rfl⟩⟩
      rintro n t π ⟨i, q, rfl, hi, rfl, hq, hqi⟩
      by_cases him : ((i : Nat) : Int) < (per loop : Nat)
      · have vm := Nat.mod_lt v p0
        have f2 : (i + per loop - v % per loop) % per loop < loop.length := Nat.lt_of_lt_of_le (Nat.mod_lt _ p0) p1
        have f1 : (((i + per loop - v % per loop) % per loop : Nat) : Int) < (loop.length : Nat) := by omega
        have k1 : IntKind.i64.wrap ((i : Nat) - ((v % per loop : Nat) : Int)) = ((i : Nat) : Int) - ((v % per loop : Nat) : Int) := wrap64 (by omega) (by omega)
        have k2 : IntKind.i64.wrap (((i : Nat) : Int) - ((v % per loop : Nat) : Int) + (per loop : Nat)) = ((i + per loop - v % per loop : Nat) : Int) := by rw [wrap64 (by omega) (by omega)]; omega
        have hnext : q ++ [loop[(i + per loop - v % per loop) % per loop]] = rotR loop (per loop) v (i + 1) := by
          rw [hq, rotR_succ, getD_get f2]
        have hqlen : q.length = i := by rw [hq, rotR_len]
        rcases hqi with ⟨rfl, rfl⟩ | ⟨hq0, rfl⟩
        · repeat (refine PRun.wpn rfl ?_; simp only [wp, wo_nil, wo_p, onO_s, pv_t, put_some, bi_lss, pevP, getP, setP, Option.map_some, ↓reduceIte, ltB_iff, him])
          refine PDraw.stage (Nat.zero_le _) rfl ?_
          try dsimp only
          simp only [beq_self_eq_true, onX_s, onXN_s, onXI_s, rdX_e, ltN, ltD_s, onD_s, wx_nil, wx_cons, wx_p, wx_r, wx_n, wd_cons, wd_e, pv_t, ov_nil, ov_cons, ov_int, put_some, bi_add, bi_sub, pevP, pevR, pevN, getP, setP, nthO, fillP, spliceP, overP, plainP, isCell, look, PW.cs?, PW.push, nthP, baseP, ROp.base, List.length_cons, List.length_nil, Option.map_some, Option.bind_some, Nat.mul_one, Int.natCast_nonneg, Int.toNat_natCast, and_self, Bool.and_true, ↓reduceIte, reduceCtorEq, ltL, lt, Nat.reduceAdd, Nat.reduceEqDiff, Option.isSome_some, Nat.zero_add, List.length_cons, List.length_nil, bi_rem p3, tmod_nat, k1, k2, f1, L16_drop f2]
          refine PDE.any (Nat.zero_le _) (PE.det (by simp only [pv_t, pevE, getP, lenP, srcP, appendP, plainP, isCell, look, PW.cs?, PW.push, cutP, List.length_cons, List.length_nil, List.drop_zero, List.take_zero, List.take_succ_cons, Option.bind_some, Nat.mul_one, Bool.and_true, ↓reduceIte, Nat.reduceAdd, Nat.reduceMul, Nat.reduceLeDiff, Nat.reduceLT, Nat.zero_add, allPlain, Bool.false_or, Bool.not_true, List.length_cons, List.length_nil, gt_iff_lt, Nat.le_refl]; rfl) ?_)
          refine PDraw.stage (Nat.zero_le _) rfl ?_
          try dsimp only
          simp only [onX_s, onXI_s, onD_s, wx_nil, wx_cons, wx_p, wd_cons, wd_e, pv_t, put_some, pevP, getP, setP, nthO, Nat.zero_add]
          refine PDE.any (Nat.zero_le _) (PE.det rfl ?_)
          refine PDraw.last (Nat.zero_le _) rfl ?_
          try dsimp only
          simp only [wx_nil, pv_t, put_none, getP, ↓reduceIte, Nat.reduceEqDiff, setO, killO]
          repeat (refine PRun.wpn rfl ?_; simp only [wp, wo_nil, wo_p, onO_s, pv_t, pv_int, put_some, bi_add, pevP, getP, setP, Option.map_some])
          rw [wrap64 (by omega) (by omega)]
          refine Gh.mr (false :: true :: true :: true :: false :: false :: true :: true :: true :: false :: false :: false :: false :: false :: false :: false :: false :: false :: false :: false :: false :: false :: false :: false :: false :: false :: false :: false :: false :: false :: false :: false :: false :: false :: false :: false :: false :: false :: false :: false :: false :: false :: false :: false :: false :: false :: false :: false :: false :: false :: false :: false :: false :: false :: false :: false :: false :: false :: false :: false :: false :: false :: false :: false :: false :: false :: false :: false :: false :: false :: false :: false :: false :: false :: false :: false :: false :: false :: false :: false :: false :: false :: false :: false :: false :: []) [(0, 0), (1, 1), (2, 2), (3, 3), (6, 4)] 5 rfl ?_
          try simp only [↓reduceIte, reduceCtorEq, Nat.reduceEqDiff, Bool.false_eq_true, renL, renP, renO, renH, renA, lkN, maskP, renL_L16]
          exact ⟨per loop - (i + 1), by omega, i + 1, [loop[(i + per loop - v % per loop) % per loop]], rfl, by omega, rfl, hnext, .inr ⟨by simp, rfl⟩⟩
        · have q1 : ¬ q.length + 1 ≤ q.length := by omega
          have q2 : ¬ 140737488355328 < (2 * (q.length + 1) + 768) * 2 := by omega
          repeat (refine PRun.wpn rfl ?_; simp only [wp, wo_nil, wo_p, onO_s, pv_t, put_some, bi_lss, pevP, getP, setP, Option.map_some, ↓reduceIte, ltB_iff, him])
          refine PDraw.stage (Nat.zero_le _) rfl ?_
          try dsimp only
          simp only [beq_self_eq_true, onX_s, onXN_s, onXI_s, rdX_e, ltN, ltD_s, onD_s, wx_nil, wx_cons, wx_p, wx_r, wx_n, wd_cons, wd_e, pv_t, ov_nil, ov_cons, ov_int, put_some, bi_add, bi_sub, pevP, pevR, pevN, getP, setP, nthO, fillP, spliceP, overP, plainP, isCell, look, PW.cs?, PW.push, nthP, baseP, ROp.base, List.length_cons, List.length_nil, Option.map_some, Option.bind_some, Nat.mul_one, Int.natCast_nonneg, Int.toNat_natCast, and_self, Bool.and_true, ↓reduceIte, reduceCtorEq, ltL, lt, Nat.reduceAdd, Nat.reduceEqDiff, Option.isSome_some, Nat.zero_add, List.length_cons, List.length_nil, bi_rem p3, tmod_nat, k1, k2, f1, L16_drop f2]
          refine PDE.any (Nat.zero_le _) (PE.det (by simp only [pv_t, pevE, getP, lenP, srcP, appendP, plainP, isCell, look, PW.cs?, PW.push, cutP, List.length_cons, List.length_nil, List.drop_zero, List.take_zero, List.take_succ_cons, Option.bind_some, Nat.mul_one, Bool.and_true, ↓reduceIte, Nat.reduceAdd, Nat.reduceEqDiff, Bool.false_eq_true, Nat.zero_add, allPlain, setO, Bool.or_self, Bool.not_true, List.length_cons, List.length_nil, gt_iff_lt, Nat.le_refl, q1, q2, L16_len, L16_take, bne_self_eq_false]; rfl) ?_)
          refine PDraw.stage (Nat.zero_le _) rfl ?_
          try dsimp only
          simp only [onX_s, onXI_s, onD_s, wx_nil, wx_cons, wx_p, wd_cons, wd_e, pv_t, put_some, pevP, getP, setP, nthO, Nat.zero_add]
          refine PDE.any (Nat.zero_le _) (PE.det rfl ?_)
          refine PDraw.last (Nat.zero_le _) rfl ?_
          try dsimp only
          simp only [wx_nil, pv_t, put_none, getP, ↓reduceIte, Nat.reduceEqDiff, setO, killO]
          repeat (refine PRun.wpn rfl ?_; simp only [wp, wo_nil, wo_p, onO_s, pv_t, pv_int, put_some, bi_add, pevP, getP, setP, Option.map_some])
          rw [wrap64 (by omega) (by omega)]
          refine Gh.mr (false :: true :: true :: true :: false :: false :: true :: true :: true :: false :: false :: false :: false :: false :: false :: false :: false :: false :: false :: false :: false :: false :: false :: false :: false :: false :: false :: false :: false :: false :: false :: false :: false :: false :: false :: false :: false :: false :: false :: false :: false :: false :: false :: false :: false :: false :: false :: false :: false :: false :: false :: false :: false :: false :: false :: false :: false :: false :: false :: false :: false :: false :: false :: false :: false :: false :: false :: false :: false :: false :: false :: false :: false :: false :: false :: false :: false :: false :: false :: false :: false :: false :: false :: false :: false :: []) [(0, 0), (1, 1), (2, 2), (3, 3), (6, 4)] 5 rfl ?_
          simp only [↓reduceIte, reduceCtorEq, Nat.reduceEqDiff, Bool.false_eq_true, renL, renP, renO, renH, renA, lkN, maskP, renL_L16, L16_snoc]
          exact ⟨per loop - (i + 1), by omega, i + 1, q ++ [loop[(i + per loop - v % per loop) % per loop]], rfl, by omega, rfl, hnext, .inr ⟨by simp, by rw [List.length_append]; rfl⟩⟩
      · have him' : i = per loop := by omega
        subst him'
        rcases hqi with ⟨hq1, rfl⟩ | ⟨hq0, rfl⟩
        · repeat (refine PRun.wpn rfl ?_; simp only [wp, wo_nil, wo_p, onO_s, pv_t, put_some, bi_lss, pevP, getP, setP, Option.map_some, ↓reduceIte, ltB_iff, him])
          refine Gh.mask (false :: true :: true :: true :: false :: false :: true :: true :: false :: false :: false :: false :: false :: false :: false :: false :: false :: false :: false :: false :: false :: false :: false :: false :: false :: false :: false :: false :: false :: false :: false :: false :: false :: false :: false :: false :: false :: false :: false :: false :: false :: false :: false :: false :: false :: false :: false :: false :: false :: false :: false :: false :: false :: false :: false :: false :: false :: false :: false :: false :: false :: false :: false :: false :: false :: false :: false :: false :: false :: false :: false :: false :: false :: false :: false :: false :: false :: false :: false :: false :: false :: false :: false :: false :: false :: []) ?_
          exact ⟨rfl, q, hq, .inl ⟨hq1, rfl⟩⟩
        · repeat (refine PRun.wpn rfl ?_; simp only [wp, wo_nil, wo_p, onO_s, pv_t, put_some, bi_lss, pevP, getP, setP, Option.map_some, ↓reduceIte, ltB_iff, him])
          refine Gh.mask (false :: true :: true :: true :: false :: false :: true :: true :: false :: false :: false :: false :: false :: false :: false :: false :: false :: false :: false :: false :: false :: false :: false :: false :: false :: false :: false :: false :: false :: false :: false :: false :: false :: false :: false :: false :: false :: false :: false :: false :: false :: false :: false :: false :: false :: false :: false :: false :: false :: false :: false :: false :: false :: false :: false :: false :: false :: false :: false :: false :: false :: false :: false :: false :: false :: false :: false :: false :: false :: false :: false :: false :: false :: false :: false :: false :: false :: false :: false :: false :: false :: false :: false :: false :: false :: []) ?_
          exact ⟨rfl, q, hq, .inr ⟨hq0, rfl⟩⟩
    rintro t π ⟨rfl, q, hq, hqi⟩
    have hqne : q ≠ [] := fun h => by have := rotR_len loop (per loop) v (per loop); rw [← hq, h] at this; simp at this; omega
    rcases hqi with ⟨rfl, _⟩ | ⟨_, rfl⟩
    · exact absurd rfl hqne
    refine PRun.gh (Gh.freeze 4 rfl (pureL_L16 q) rfl ?_)
    simp only [List.drop_zero, ↓reduceIte, reduceCtorEq, Nat.reduceEqDiff, frzL, frzP, frzO, frzH, Nat.le_refl, frzL_L16]
    refine PRun.gh (Gh.freeze 3 rfl (pureL_L16 p) rfl ?_)
    simp only [List.drop_zero, ↓reduceIte, reduceCtorEq, Nat.reduceEqDiff, frzL, frzP, frzO, frzH, Nat.le_refl]
    repeat (refine PRun.wpn rfl ?_; simp only [wp, wo_nil, wo_r, wo_st, onO_s, onE_s, ble0, pv_t, put_some, put_none, pevR, pevE, getP, setP, spliceP, overP, plainP, look, PW.cs?, cutP, List.length_cons, List.length_nil, List.drop_zero, List.take_zero, List.take_succ_cons, Option.map_some, Option.bind_some, or_true, true_and, Bool.and_true, ↓reduceIte, reduceCtorEq, Nat.reduceAdd, Nat.reduceEqDiff, Bool.false_eq_true, Nat.zero_add, allPlain, PW.wr, setO, killO, Bool.or_self, Bool.not_true, List.length_cons, List.length_nil, Nat.le_refl])
    rw [fin, ← hp, ← hq]
    exact .refl ⟨_, rfl, .agg (.cons .sl_sz (.cons .sl_sz .nil))⟩
end
end Go.Proofs.YtkldgoapompinaaDoor.Ai

namespace Go.Proofs.YtkldgoapompinaaDoor.Ai
open Go
set_option linter.unusedVariables false
set_option maxRecDepth 10000
theorem ble_s2 {n : Nat} : Nat.ble n (n + 1 + 1) = true := by simp; omega
theorem overL (l : List Int) (z : PV) : overP (List.replicate (l.length + 2) z) (L16 l) = some (L16 l ++ [z, z]) := by
  rw [overP_eq _ _ (by simp [L16_len]), L16_len, List.drop_replicate]
  rw [show l.length + 2 - l.length = 2 by omega]; rfl
theorem spliceL (l : List Int) (z a b : PV) : spliceP (L16 l ++ [z, z]) l.length [a, b] = some (L16 l ++ [a, b]) := by
  rw [spliceP_eq _ _ _ (by simp [L16_len])]
  have e : (L16 l ++ [z, z]).take l.length = L16 l := by rw [← L16_len l, List.take_left]
  have e2 : (L16 l ++ [z, z]).drop (l.length + 2) = [] := by rw [List.drop_eq_nil_of_le]; simp [L16_len]
  rw [e]
  simp only [List.length_cons, List.length_nil, Nat.zero_add, Nat.reduceAdd, e2, List.append_nil]
section
variable {C : Ctx} (hm : C.P.follows .mixedOrders = true) (hC : TabOK C.P C.ng C.ts Tryd.tab)
include hm hC
theorem sameR_ok (a b : Wd) (h1 : a.stem.length < 2 ^ 38) (h2 : a.loop.length < 2 ^ 38) (h3 : b.stem.length < 2 ^ 38) (h4 : b.loop.length < 2 ^ 38) : PFun C 44 [wrdP a, wrdP b] (.lit (.bool (same a b))) := by
  have n1 := normalR_ok hm hC a h1 h2
  have n2 := normalR_ok hm hC b h3 h4
  have q1 := normal_stem a
  have q2 := normal_loop a
  have c1 := sameWordR_ok hm hC (normal a) (normal b) (by omega) (by omega)
  unfold same
  generalize normal a = na at *
  generalize normal b = nb at *
  obtain ⟨s, l⟩ := a
  obtain ⟨s', l'⟩ := b
  obtain ⟨ns, nl⟩ := na
  obtain ⟨ns', nl'⟩ := nb
  simp only at h1 h2 h3 h4 q1 q2 c1
  simp only [wrdP, szU] at n1 n2 c1
  refine PFun.body hm hC (show Tryd.tab.get 44 = some Tryd.c44 from rfl) rfl ?_
  simp only [Tryd.c44, startP, List.length_cons, List.length_nil, Nat.reduceAdd, Nat.reduceSub, List.replicate, List.cons_append, List.nil_append, wrdP, szU]
  repeat (refine PRun.wpn rfl ?_; simp only [wp, wo_nil, wo_p, wo_n, onO_s, onN_s, ble_self, ble_succ, pv_t, pv_bool, put_some, pevP, pevN, getP, setP, boxP, PW.push, PW.none, Option.map_some, Nat.reduceAdd, Nat.zero_add, resPs, resP, tupP])
  refine PDraw.stage (Nat.zero_le _) rfl ?_
  by_cases hl : (0 : Int) < (l.length : Nat)
  · by_cases hl' : (0 : Int) < (l'.length : Nat)
    · try dsimp only
      simp only [beq_self_eq_true, wanted_g, onX_s, onXG_t, onXI_s, rdX_e, ltN, ltD_s, onD_s, onDG_t, wx_nil, wx_cons, wx_p, wx_r, wx_g, wd_cons, wd_e, wd_g, pv_t, pv_int, put_some, bi_gtr, pevP, pevR, getP, setP, nthO, look, PW.cs?, nthP, cutP, baseP, ROp.base, List.length_cons, List.length_nil, List.drop_zero, List.take_zero, List.take_succ_cons, Option.map_some, Option.bind_some, Bool.and_true, ↓reduceIte, reduceCtorEq, Nat.reduceAdd, Option.isSome_some, Nat.zero_add, List.length_cons, List.length_nil, Nat.le_refl, ltB_t hl, ltB_t hl']
      refine PDE.pure n1 rfl ?_
      refine PDraw.stage (Nat.zero_le _) rfl ?_
      try dsimp only
      simp only [beq_self_eq_true, wanted_g, onD_s, onDG_t, wx_nil, wd_cons, wd_e, wd_g, put_some, getP, setP, nthO]
      refine PDE.pure n2 rfl ?_
      refine PDraw.stage (Nat.zero_le _) rfl ?_
      try dsimp only
      simp only [beq_self_eq_true, wanted_g, onD_s, onDG_t, wx_nil, wd_cons, wd_e, wd_g, put_some, getP, setP, nthO]
      refine PDE.pure c1 rfl ?_
      refine PDraw.last (Nat.zero_le _) rfl ?_
      try dsimp only
      simp only [onX_s, onXI_s, wx_nil, wx_cons, wx_p, pv_t, put_some, pevP, getP, setP, nthO]
      repeat (refine PRun.wpn rfl ?_; simp only [wp, or_true, true_and, reduceCtorEq])
      refine .refl ⟨_, rfl, ?_⟩
      have : decide (ns = ns' ∧ nl = nl') = decide (l.length ≠ 0 ∧ l'.length ≠ 0 ∧ ns = ns' ∧ nl = nl') := by
        have g1 : l.length ≠ 0 := by omega
        have g2 : l'.length ≠ 0 := by omega
        simp [g1, g2]
      rw [← this]
      exact .refl _
    · try dsimp only
      simp only [beq_self_eq_true, wanted_g, b_ft, onX_s, onXG_t, onXG_f, onXI_s, rdX_e, ltN, ltD_s, onD_s, onDG_f, wx_nil, wx_cons, wx_p, wx_r, wx_g, wd_cons, wd_g, pv_t, pv_int, put_some, bi_gtr, pevP, pevR, getP, setP, nthO, look, PW.cs?, nthP, baseP, ROp.base, List.length_cons, List.length_nil, Option.map_some, Option.bind_some, Bool.and_true, ↓reduceIte, reduceCtorEq, Nat.reduceAdd, Option.isSome_some, Nat.zero_add, List.length_cons, List.length_nil, ltB_t hl, ltB_f hl']
      refine PDraw.stage (Nat.zero_le _) rfl ?_
      try dsimp only
      simp only [wanted_g, b_ft, onD_s, onDG_f, wx_nil, wd_cons, wd_g, put_some, getP, setP, nthO]
      refine PDraw.stage (Nat.zero_le _) rfl ?_
      try dsimp only
      simp only [wanted_g, b_ft, onD_s, onDG_f, wx_nil, wd_cons, wd_g, put_some, getP, setP, nthO]
      refine PDraw.last (Nat.zero_le _) rfl ?_
      try dsimp only
      simp only [onX_s, onXI_s, wx_nil, wx_cons, wx_p, pv_t, pv_bool, put_some, pevP, getP, setP, nthO]
      repeat (refine PRun.wpn rfl ?_; simp only [wp, or_true, true_and, reduceCtorEq])
      refine .refl ⟨_, rfl, ?_⟩
      rw [decide_eq_false (fun h => h.2.1 (by omega))]
      exact .refl _
  · try dsimp only
    simp only [wanted_g, b_ft, onX_s, onXG_f, onXI_s, rdX_e, ltN, ltD_s, onD_s, onDG_f, wx_nil, wx_cons, wx_p, wx_r, wx_g, wd_cons, wd_g, pv_t, pv_int, pv_bool, put_some, bi_gtr, pevP, pevR, getP, setP, nthO, look, PW.cs?, nthP, baseP, ROp.base, List.length_cons, List.length_nil, Option.map_some, Option.bind_some, Bool.and_true, ↓reduceIte, reduceCtorEq, Nat.reduceAdd, Option.isSome_some, Nat.zero_add, List.length_cons, List.length_nil, ltB_f hl]
    refine PDraw.stage (Nat.zero_le _) rfl ?_
    try dsimp only
    simp only [wanted_g, b_ft, onD_s, onDG_f, wx_nil, wd_cons, wd_g, put_some, getP, setP, nthO]
    refine PDraw.stage (Nat.zero_le _) rfl ?_
    try dsimp only
    simp only [wanted_g, b_ft, onD_s, onDG_f, wx_nil, wd_cons, wd_g, put_some, getP, setP, nthO]
    refine PDraw.last (Nat.zero_le _) rfl ?_
    try dsimp only
    simp only [onX_s, onXI_s, wx_nil, wx_cons, wx_p, pv_t, pv_bool, put_some, pevP, getP, setP, nthO]
    repeat (refine PRun.wpn rfl ?_; simp only [wp, or_true, true_and, reduceCtorEq])
    refine .refl ⟨_, rfl, ?_⟩
    rw [decide_eq_false (fun h => h.1 (by omega))]
    exact .refl _
/-- a list lent: a copy, with two of room behind that have marks -/
theorem lentLetters_ok (l : List Int) (hl : l.length < 2 ^ 45) (π : PW) : PTo C 15 [szU l] π fun r π' => r = .loc π.next 0 l.length (l.length + 2) ∧ ∃ x, π' = (π.push (.cells (L16 (l ++ [60001, 60002])) 54 1 true false [])).push x := by
  refine PTo.of_body hm hC (show Tryd.tab.get 15 = some Tryd.c15 from rfl) ?_
  simp only [Tryd.c15, startP, szU, List.length_cons, List.length_nil, Nat.reduceAdd, Nat.reduceSub, List.replicate, List.cons_append, List.nil_append]
  have e0 : IntKind.i64.wrap ((l.length : Nat) + 2) = ((l.length + 2 : Nat) : Int) := by rw [wrap64 (by omega) (by omega)]; omega
  have e1 : ((l.length + 2 : Nat) : Int) * 2 ≤ 140737488355328 := by omega
  have e2 : ((l.length + 2 : Nat) : Int) ≤ 140737488355328 := by omega
  have g1 : ¬ π.next = π.next + 1 := by omega
  have g2 : ¬ π.next + 1 = π.next := by omega
  have g3 : ¬ l.length + 2 = 0 := by omega
  have g4 : l.length ≤ l.length + 2 := by omega
  have g5 : ((l.length : Nat) : Int) ≤ ((l.length + 2 : Nat) : Int) := by omega
  have ee : L16 l ++ [PV.lit (.int .u16 60001), PV.lit (.int .u16 60002)] = L16 (l ++ [60001, 60002]) := by simp [L16]
  by_cases h0 : l.length = 0
  · have h1 : l = [] := List.length_eq_zero_iff.1 h0
    subst h1
    have w2 : IntKind.i64.wrap (0 + 2) = 2 := by rw [wrap64 (by omega) (by omega)]; rfl
    have w3 : (0 : Int) ≤ 2 ∧ (2 : Int) * 2 ≤ 140737488355328 ∧ (2 : Int) ≤ 140737488355328 := by omega
    have w4 : L16 [] = [] := rfl
    have w5 : ¬ π.next + 1 = π.next := by omega
    have w6 : L16 [60001, 60002] = [PV.lit (.int .u16 60001), PV.lit (.int .u16 60002)] := rfl
    repeat (refine PRun.wpn rfl ?_; simp only [wp, wo_nil, wo_p, wo_r, wo_n, wo_append, beq_self_eq_true, onO_s, onN_s, onE_s, ble_self, ble_succ, pv_t, pv_int, pv_nilS, ov_nil, ov_cons, ov_int, put_some, bi_add, pevP, pevR, pevN, pevE, getP, setP, lenP, srcP, appendP, fillP, spliceP, overP, plainP, isCell, look, PW.cs?, PW.exactAt, PW.push, cutP, boundP, List.length_cons, List.length_nil, List.drop_zero, List.take_zero, List.take_succ_cons, Option.map_some, Option.bind_some, Nat.zero_le, Option.isNone_none, or_true, Nat.mul_one, Nat.sub_zero, Int.natCast_nonneg, nc0, nc2, tn0, tn2, Int.le_refl, and_self, true_and, Bool.and_true, Bool.true_and, ↓reduceIte, reduceCtorEq, ltL, lt, Nat.reduceAdd, Bool.false_eq_true, Nat.add_zero, Nat.zero_add, allPlain, PW.wr, setO, killO, Bool.false_or, Bool.not_true, resPs, resP, tupP, List.nil_append, List.length_cons, List.length_nil, Nat.le_refl, w2, w3, w4, w6, g1, ble_s2, List.replicate])
    try simp only [wp, wo_nil, wo_p, wo_r, wo_n, wo_call, wo_st, wo_append, wo_appendZ, wo_g, beq_self_eq_true, onO_s, onN_s, onE_s, onG_t, onG_f, wanted_g, b_tt, b_ff, b_tf, b_ft, onX_s, onXN_s, onXG_t, onXG_f, onXI_s, rdX_e, ltN, ble0, ble_self, ble_succ, and_tt, ltD_s, onD_s, onDG_t, onDG_f, wx_nil, wx_cons, wx_p, wx_r, wx_n, wx_g, wd_cons, wd_e, wd_g, pv_t, pv_int, pv_bool, pv_str, pv_nilS, pv_nilP, pv_nilI, pv_nilF, pv_nilM, ov_nil, ov_cons, ov_int, ov_bool, ov_str, ov_nilS, ov_nilP, ov_nilI, ov_nilF, ov_nilM, ov_agg, put_some, put_none, bi_add, bi_sub, bi_mul, bi_eql, bi_neq, bi_lss, bi_leq, bi_gtr, bi_geq, pevP, pevR, pevN, pevE, getP, setP, nthO, evsP, eqP, lenP, srcP, appendP, fillP, boxP, pcells, spliceP, overP, plainP, isCell, look, PW.cs?, PW.exactAt, PW.push, PW.none, nthP, cutP, partP, boundP, baseP, ROp.base, List.length_cons, List.length_nil, List.drop_zero, List.drop_succ_cons, List.take_zero, List.take_succ_cons, Option.map_some, Option.map_none, Option.bind_some, Option.bind_none, Nat.zero_le, Option.isNone_none, Option.isNone_some, true_or, or_true, Nat.mul_one, Nat.sub_zero, Int.natCast_nonneg, Int.toNat_natCast, nc0, nc1, nc2, tn0, tn1, tn2, Int.le_refl, Int.lt_irrefl, Nat.lt_irrefl, Int.sub_self, Int.sub_zero, and_self, flat_one, true_and, and_true, Bool.and_true, Bool.true_and, Bool.false_and, Bool.and_false, if_true, if_false, ↓reduceIte, reduceCtorEq, ltL, lt, ltFn, Nat.reduceAdd, Nat.reduceMul, Nat.reduceLeDiff, Nat.reduceLT, Nat.reduceEqDiff, Nat.reduceSub, Option.isSome_some, Option.isSome_none, Bool.false_eq_true, Nat.add_zero, Nat.zero_add, allPlain, PW.wr, setO, killO, Bool.or_self, Bool.or_false, Bool.false_or, Bool.not_true, Bool.not_false, Bool.true_bne, Bool.false_bne, Bool.bne_false, Bool.bne_true, resPs, resP, tupP, ltB_iff, leB_iff, eqB_iff, neB_iff, decide_eq_true_eq, frzL, frzP, frzO, frzE, frzH, noAlP, pureL, pureP, renL, renP, renO, renE, renH, renA, lkN, maskP, List.nil_append, List.append_nil, List.cons_append, List.length_cons, List.length_nil, Nat.not_lt, ge_iff_le, gt_iff_lt, Nat.le_refl, w2, w3, w4, w6, g1, g2, ble_s2, List.replicate]
    repeat (refine PRun.wpn rfl ?_; simp only [wp, wo_nil, wo_p, wo_r, wo_n, wo_call, wo_st, wo_append, wo_appendZ, wo_g, beq_self_eq_true, onO_s, onN_s, onE_s, onG_t, onG_f, wanted_g, b_tt, b_ff, b_tf, b_ft, onX_s, onXN_s, onXG_t, onXG_f, onXI_s, rdX_e, ltN, ble0, ble_self, ble_succ, and_tt, ltD_s, onD_s, onDG_t, onDG_f, wx_nil, wx_cons, wx_p, wx_r, wx_n, wx_g, wd_cons, wd_e, wd_g, pv_t, pv_int, pv_bool, pv_str, pv_nilS, pv_nilP, pv_nilI, pv_nilF, pv_nilM, ov_nil, ov_cons, ov_int, ov_bool, ov_str, ov_nilS, ov_nilP, ov_nilI, ov_nilF, ov_nilM, ov_agg, put_some, put_none, bi_add, bi_sub, bi_mul, bi_eql, bi_neq, bi_lss, bi_leq, bi_gtr, bi_geq, pevP, pevR, pevN, pevE, getP, setP, nthO, evsP, eqP, lenP, srcP, appendP, fillP, boxP, pcells, spliceP, overP, plainP, isCell, look, PW.cs?, PW.exactAt, PW.push, PW.none, nthP, cutP, partP, boundP, baseP, ROp.base, List.length_cons, List.length_nil, List.drop_zero, List.drop_succ_cons, List.take_zero, List.take_succ_cons, Option.map_some, Option.map_none, Option.bind_some, Option.bind_none, Nat.zero_le, Option.isNone_none, Option.isNone_some, true_or, or_true, Nat.mul_one, Nat.sub_zero, Int.natCast_nonneg, Int.toNat_natCast, nc0, nc1, nc2, tn0, tn1, tn2, Int.le_refl, Int.lt_irrefl, Nat.lt_irrefl, Int.sub_self, Int.sub_zero, and_self, flat_one, true_and, and_true, Bool.and_true, Bool.true_and, Bool.false_and, Bool.and_false, if_true, if_false, ↓reduceIte, reduceCtorEq, ltL, lt, ltFn, Nat.reduceAdd, Nat.reduceMul, Nat.reduceLeDiff, Nat.reduceLT, Nat.reduceEqDiff, Nat.reduceSub, Option.isSome_some, Option.isSome_none, Bool.false_eq_true, Nat.add_zero, Nat.zero_add, allPlain, PW.wr, setO, killO, Bool.or_self, Bool.or_false, Bool.false_or, Bool.not_true, Bool.not_false, Bool.true_bne, Bool.false_bne, Bool.bne_false, Bool.bne_true, resPs, resP, tupP, ltB_iff, leB_iff, eqB_iff, neB_iff, decide_eq_true_eq, frzL, frzP, frzO, frzE, frzH, noAlP, pureL, pureP, renL, renP, renO, renE, renH, renA, lkN, maskP, List.nil_append, List.append_nil, List.cons_append, List.length_cons, List.length_nil, Nat.not_lt, ge_iff_le, gt_iff_lt, Nat.le_refl, w2, w3, w4, w6, g1, g2, ble_s2, List.replicate])
    try simp only [wp, wo_nil, wo_p, wo_r, wo_n, wo_call, wo_st, wo_append, wo_appendZ, wo_g, beq_self_eq_true, onO_s, onN_s, onE_s, onG_t, onG_f, wanted_g, b_tt, b_ff, b_tf, b_ft, onX_s, onXN_s, onXG_t, onXG_f, onXI_s, rdX_e, ltN, ble0, ble_self, ble_succ, and_tt, ltD_s, onD_s, onDG_t, onDG_f, wx_nil, wx_cons, wx_p, wx_r, wx_n, wx_g, wd_cons, wd_e, wd_g, pv_t, pv_int, pv_bool, pv_str, pv_nilS, pv_nilP, pv_nilI, pv_nilF, pv_nilM, ov_nil, ov_cons, ov_int, ov_bool, ov_str, ov_nilS, ov_nilP, ov_nilI, ov_nilF, ov_nilM, ov_agg, put_some, put_none, bi_add, bi_sub, bi_mul, bi_eql, bi_neq, bi_lss, bi_leq, bi_gtr, bi_geq, pevP, pevR, pevN, pevE, getP, setP, nthO, evsP, eqP, lenP, srcP, appendP, fillP, boxP, pcells, spliceP, overP, plainP, isCell, look, PW.cs?, PW.exactAt, PW.push, PW.none, nthP, cutP, partP, boundP, baseP, ROp.base, List.length_cons, List.length_nil, List.drop_zero, List.drop_succ_cons, List.take_zero, List.take_succ_cons, Option.map_some, Option.map_none, Option.bind_some, Option.bind_none, Nat.zero_le, Option.isNone_none, Option.isNone_some, true_or, or_true, Nat.mul_one, Nat.sub_zero, Int.natCast_nonneg, Int.toNat_natCast, nc0, nc1, nc2, tn0, tn1, tn2, Int.le_refl, Int.lt_irrefl, Nat.lt_irrefl, Int.sub_self, Int.sub_zero, and_self, flat_one, true_and, and_true, Bool.and_true, Bool.true_and, Bool.false_and, Bool.and_false, if_true, if_false, ↓reduceIte, reduceCtorEq, ltL, lt, ltFn, Nat.reduceAdd, Nat.reduceMul, Nat.reduceLeDiff, Nat.reduceLT, Nat.reduceEqDiff, Nat.reduceSub, Option.isSome_some, Option.isSome_none, Bool.false_eq_true, Nat.add_zero, Nat.zero_add, allPlain, PW.wr, setO, killO, Bool.or_self, Bool.or_false, Bool.false_or, Bool.not_true, Bool.not_false, Bool.true_bne, Bool.false_bne, Bool.bne_false, Bool.bne_true, resPs, resP, tupP, ltB_iff, leB_iff, eqB_iff, neB_iff, decide_eq_true_eq, frzL, frzP, frzO, frzE, frzH, noAlP, pureL, pureP, renL, renP, renO, renE, renH, renA, lkN, maskP, List.nil_append, List.append_nil, List.cons_append, List.length_cons, List.length_nil, Nat.not_lt, ge_iff_le, gt_iff_lt, Nat.le_refl, w2, w3, w4, w6, g1, g2, ble_s2, List.replicate]
    repeat (refine PRun.wpn rfl ?_; simp only [wp, wo_nil, wo_p, wo_r, wo_n, wo_call, wo_st, wo_append, wo_appendZ, wo_g, beq_self_eq_true, onO_s, onN_s, onE_s, onG_t, onG_f, wanted_g, b_tt, b_ff, b_tf, b_ft, onX_s, onXN_s, onXG_t, onXG_f, onXI_s, rdX_e, ltN, ble0, ble_self, ble_succ, and_tt, ltD_s, onD_s, onDG_t, onDG_f, wx_nil, wx_cons, wx_p, wx_r, wx_n, wx_g, wd_cons, wd_e, wd_g, pv_t, pv_int, pv_bool, pv_str, pv_nilS, pv_nilP, pv_nilI, pv_nilF, pv_nilM, ov_nil, ov_cons, ov_int, ov_bool, ov_str, ov_nilS, ov_nilP, ov_nilI, ov_nilF, ov_nilM, ov_agg, put_some, put_none, bi_add, bi_sub, bi_mul, bi_eql, bi_neq, bi_lss, bi_leq, bi_gtr, bi_geq, pevP, pevR, pevN, pevE, getP, setP, nthO, evsP, eqP, lenP, srcP, appendP, fillP, boxP, pcells, spliceP, overP, plainP, isCell, look, PW.cs?, PW.exactAt, PW.push, PW.none, nthP, cutP, partP, boundP, baseP, ROp.base, List.length_cons, List.length_nil, List.drop_zero, List.drop_succ_cons, List.take_zero, List.take_succ_cons, Option.map_some, Option.map_none, Option.bind_some, Option.bind_none, Nat.zero_le, Option.isNone_none, Option.isNone_some, true_or, or_true, Nat.mul_one, Nat.sub_zero, Int.natCast_nonneg, Int.toNat_natCast, nc0, nc1, nc2, tn0, tn1, tn2, Int.le_refl, Int.lt_irrefl, Nat.lt_irrefl, Int.sub_self, Int.sub_zero, and_self, flat_one, true_and, and_true, Bool.and_true, Bool.true_and, Bool.false_and, Bool.and_false, if_true, if_false, ↓reduceIte, reduceCtorEq, ltL, lt, ltFn, Nat.reduceAdd, Nat.reduceMul, Nat.reduceLeDiff, Nat.reduceLT, Nat.reduceEqDiff, Nat.reduceSub, Option.isSome_some, Option.isSome_none, Bool.false_eq_true, Nat.add_zero, Nat.zero_add, allPlain, PW.wr, setO, killO, Bool.or_self, Bool.or_false, Bool.false_or, Bool.not_true, Bool.not_false, Bool.true_bne, Bool.false_bne, Bool.bne_false, Bool.bne_true, resPs, resP, tupP, ltB_iff, leB_iff, eqB_iff, neB_iff, decide_eq_true_eq, frzL, frzP, frzO, frzE, frzH, noAlP, pureL, pureP, renL, renP, renO, renE, renH, renA, lkN, maskP, List.nil_append, List.append_nil, List.cons_append, List.length_cons, List.length_nil, Nat.not_lt, ge_iff_le, gt_iff_lt, Nat.le_refl, w2, w3, w4, w6, g1, g2, ble_s2, List.replicate])
    exact ⟨_, rfl, rfl, _, rfl⟩
  · repeat (refine PRun.wpn rfl ?_; simp only [wp, wo_nil, wo_p, wo_n, wo_append, onO_s, onN_s, ble_self, ble_succ, pv_t, pv_int, pv_nilS, ov_nil, ov_cons, ov_int, put_some, bi_add, pevP, pevN, pevE, getP, setP, lenP, srcP, appendP, spliceP, look, PW.push, cutP, List.drop_zero, List.take_zero, Option.map_some, Nat.zero_le, Nat.mul_one, Int.natCast_nonneg, Int.toNat_natCast, nc2, tn0, Int.le_refl, and_self, flat_one, Bool.and_true, ↓reduceIte, ltL, lt, Nat.add_zero, Nat.zero_add, PW.wr, setO, killO, Bool.false_or, resPs, resP, tupP, List.nil_append, gt_iff_lt, Nat.le_refl, e0, e1, e2])
    simp only [wo_nil, wo_p, onO_s, onE_s, pv_t, put_some, pevP, getP, setP, Option.map_some, Option.bind_some, ↓reduceIte, Bool.false_eq_true, Bool.not_true, Nat.le_refl, h0, g4, L16_len, L16_take, allPlain_L16, overL]
    repeat (refine PRun.wpn rfl ?_; simp only [wp, wo_p, wo_n, wo_append, beq_self_eq_true, onO_s, onN_s, ble_succ, pv_t, pv_int, ov_nil, ov_cons, ov_int, put_some, pevP, pevN, pevE, getP, setP, lenP, srcP, appendP, fillP, spliceP, overP, plainP, isCell, look, PW.cs?, PW.push, cutP, List.length_cons, List.length_nil, List.drop_zero, List.take_zero, List.take_succ_cons, Option.map_some, Option.bind_some, Nat.mul_one, Bool.and_true, ↓reduceIte, reduceCtorEq, ltL, lt, Nat.reduceAdd, Nat.zero_add, allPlain, PW.wr, Bool.or_false, Bool.not_true, List.length_cons, List.length_nil, Nat.le_refl])
    simp only [wo_nil, wo_p, onO_s, onE_s, pv_t, put_some, pevP, getP, setP, Option.map_some, ↓reduceIte, Bool.false_eq_true, setO, killO, spliceL, g1, ee, ble_s2]
    repeat (refine PRun.wpn rfl ?_; simp only [wp, wo_p, wo_r, beq_self_eq_true, onO_s, pv_t, put_some, pevP, pevR, getP, setP, look, PW.exactAt, boundP, Option.bind_some, Option.isNone_none, or_true, Nat.mul_one, Nat.sub_zero, Int.natCast_nonneg, Int.toNat_natCast, true_and, Bool.true_and, ↓reduceIte, reduceCtorEq, Nat.zero_add, Nat.le_refl, g3, g5])
    exact ⟨_, rfl, rfl, _, rfl⟩
end
end Go.Proofs.YtkldgoapompinaaDoor.Ai

namespace Go.Proofs.YtkldgoapompinaaDoor.Ai
open Go
set_option linter.unusedVariables false
set_option maxRecDepth 10000
theorem setO_setO (h : List (Nat × PObj)) (i : Nat) (x y : PObj) : setO (setO h i x) i y = setO h i y := by
  induction h with
  | nil => rfl
  | cons a l ih =>
    obtain ⟨j, o⟩ := a
    by_cases hi : i = j
    · simp [setO, hi]
    · simp [setO, hi, ih]
theorem setO_same {h : List (Nat × PObj)} {i : Nat} {x : PObj} (hl : look h i = some x) : setO h i x = h := by
  induction h with
  | nil => rfl
  | cons a l ih =>
    obtain ⟨j, o⟩ := a
    by_cases hi : i = j
    · simp [look, hi] at hl; simp [setO, hi, hl]
    · simp [look, hi] at hl; simp [setO, hi, ih hl]
theorem shL_L16 (k : Nat) (l : List Int) : shL k (L16 l) = L16 l := by
  induction l with
  | nil => rfl
  | cons a l ih => simp only [L16, List.map_cons, shL, shP] at ih ⊢; rw [ih]
theorem lent_wk (l e : List Int) : Wk (.sl (L16 (l ++ e)) l.length) (szU l) := by
  refine Wk.trans (Wk.sl (ds := L16 l) (ext := L16 e) ?_) Wk.sl_sz
  rw [show L16 (l ++ e) = L16 l ++ L16 e by simp [L16]]; exact WkL.refl _
theorem mark1 (l : List Int) : nthP (L16 (l ++ [60001, 60002])) l.length = some (.lit (.int .u16 60001)) := by
  rw [nthP_eq]; simp [L16]
theorem mark2 (l : List Int) : nthP (L16 (l ++ [60001, 60002])) (l.length + 1) = some (.lit (.int .u16 60002)) := by
  rw [nthP_eq]; simp [L16]
theorem PTo.is {C : Ctx} {f : FuncId} {args : List PV} {π : PW} {r0 : PV} {π0 : PW} {A : PV → PW → Prop} (h : PTo C f args π fun r π' => r = r0 ∧ π' = π0) (hA : A r0 π0) : PTo C f args π A := by
  intro F I η σ vargs hG hs hr
  obtain ⟨v, σ', I', η', r', π', h1, h2, h3, h4, h5, h6, h7, h8⟩ := h F I η σ vargs hG hs hr
  subst h7 h8
  exact ⟨v, σ', I', η', _, _, h1, h2, h3, h4, h5, h6, hA⟩
section
variable {C : Ctx} (hm : C.P.follows .mixedOrders = true) (hC : TabOK C.P C.ng C.ts Tryd.tab)
include hm hC
theorem lentGen_ok (l : List Int) (hl : l.length < 2 ^ 45) : PGen C 15 [szU l] (.loc 0 0 l.length (l.length + 2)) ⟨1, [(0, .cells (L16 (l ++ [60001, 60002])) 54 1 true false [])]⟩ := by
  refine PGen.body hm hC (show Tryd.tab.get 15 = some Tryd.c15 from rfl) ?_
  simp only [Tryd.c15, startP, szU, List.length_cons, List.length_nil, Nat.reduceAdd, Nat.reduceSub, List.replicate, List.cons_append, List.nil_append]
  have e0 : IntKind.i64.wrap ((l.length : Nat) + 2) = ((l.length + 2 : Nat) : Int) := by rw [wrap64 (by omega) (by omega)]; omega
  have e1 : ((l.length + 2 : Nat) : Int) * 2 ≤ 140737488355328 := by omega
  have e2 : ((l.length + 2 : Nat) : Int) ≤ 140737488355328 := by omega
  have g3 : ¬ l.length + 2 = 0 := by omega
  have g4 : l.length ≤ l.length + 2 := by omega
  have g5 : ((l.length : Nat) : Int) ≤ ((l.length + 2 : Nat) : Int) := by omega
  have ee : L16 l ++ [PV.lit (.int .u16 60001), PV.lit (.int .u16 60002)] = L16 (l ++ [60001, 60002]) := by simp [L16]
  by_cases h0 : l.length = 0
  · have h1 : l = [] := List.length_eq_zero_iff.1 h0
    subst h1
    have w2 : IntKind.i64.wrap (0 + 2) = 2 := by rw [wrap64 (by omega) (by omega)]; rfl
    have w3 : (0 : Int) ≤ 2 ∧ (2 : Int) * 2 ≤ 140737488355328 ∧ (2 : Int) ≤ 140737488355328 := by omega
    have w4 : L16 [] = [] := rfl
    have w6 : L16 [60001, 60002] = [PV.lit (.int .u16 60001), PV.lit (.int .u16 60002)] := rfl
    repeat (refine PRun.wpn rfl ?_; simp only [wp, wo_nil, wo_p, wo_r, wo_n, wo_append, beq_self_eq_true, onO_s, onN_s, onE_s, ble_self, ble_succ, pv_t, pv_int, pv_nilS, ov_nil, ov_cons, ov_int, put_some, bi_add, pevP, pevR, pevN, pevE, getP, setP, lenP, srcP, appendP, fillP, spliceP, overP, plainP, isCell, look, PW.cs?, PW.exactAt, PW.push, PW.none, cutP, boundP, List.length_cons, List.length_nil, List.drop_zero, List.take_zero, List.take_succ_cons, Option.map_some, Option.bind_some, Nat.zero_le, Option.isNone_none, or_true, Nat.mul_one, Nat.sub_zero, Int.natCast_nonneg, nc0, nc2, tn0, tn2, Int.le_refl, and_self, true_and, Bool.and_true, Bool.true_and, ↓reduceIte, reduceCtorEq, ltL, lt, Nat.reduceAdd, Bool.false_eq_true, Nat.add_zero, Nat.zero_add, allPlain, PW.wr, setO, killO, Bool.false_or, Bool.not_true, resPs, resP, tupP, List.nil_append, List.length_cons, List.length_nil, Nat.le_refl, w2, w3, w4, w6, ble_s2, List.replicate])
    refine Gh.mr [] [(0, 0)] 1 rfl ?_
    exact ⟨_, rfl, .refl _, rfl⟩
  · repeat (refine PRun.wpn rfl ?_; simp only [wp, wo_nil, wo_p, wo_n, wo_append, onO_s, onN_s, ble_self, ble_succ, pv_t, pv_int, pv_nilS, ov_nil, ov_cons, ov_int, put_some, bi_add, pevP, pevN, pevE, getP, setP, lenP, srcP, appendP, spliceP, look, PW.push, PW.none, cutP, List.drop_zero, List.take_zero, Option.map_some, Nat.zero_le, Nat.mul_one, Int.natCast_nonneg, Int.toNat_natCast, nc2, tn0, Int.le_refl, and_self, flat_one, Bool.and_true, ↓reduceIte, ltL, lt, Nat.reduceAdd, Nat.add_zero, Nat.zero_add, PW.wr, setO, killO, Bool.false_or, resPs, resP, tupP, List.nil_append, gt_iff_lt, Nat.le_refl, e0, e1, e2])
    simp only [wo_nil, wo_p, onO_s, onE_s, pv_t, put_some, pevP, getP, setP, Option.map_some, Option.bind_some, ↓reduceIte, Bool.false_eq_true, Bool.not_true, Nat.le_refl, h0, g4, L16_len, L16_take, allPlain_L16, overL]
    repeat (refine PRun.wpn rfl ?_; simp only [wp, wo_p, wo_n, wo_append, beq_self_eq_true, onO_s, onN_s, ble0, ble_succ, pv_t, pv_int, ov_nil, ov_cons, ov_int, put_some, pevP, pevN, pevE, getP, setP, lenP, srcP, appendP, fillP, spliceP, overP, plainP, isCell, look, PW.cs?, PW.push, cutP, List.length_cons, List.length_nil, List.drop_zero, List.take_zero, List.take_succ_cons, Option.map_some, Option.bind_some, Nat.mul_one, Bool.and_true, ↓reduceIte, reduceCtorEq, ltL, lt, Nat.reduceAdd, Bool.false_eq_true, Nat.zero_add, allPlain, PW.wr, setO, killO, Bool.false_or, Bool.not_true, List.length_cons, List.length_nil, Nat.le_refl])
    simp only [wo_nil, wo_p, onO_s, onE_s, pv_t, put_some, pevP, getP, setP, Option.map_some, spliceL, ee]
    repeat (refine PRun.wpn rfl ?_; simp only [wp, wo_p, wo_r, beq_self_eq_true, onO_s, pv_t, put_some, pevP, pevR, getP, setP, look, PW.exactAt, boundP, Option.bind_some, Option.isNone_none, or_true, Nat.mul_one, Nat.sub_zero, Int.natCast_nonneg, Int.toNat_natCast, true_and, Bool.true_and, ↓reduceIte, reduceCtorEq, Nat.zero_add, Nat.le_refl, g3, g5])
    refine Gh.mr [] [(0, 0)] 1 rfl ?_
    simp only [getP, and_true, ↓reduceIte, reduceCtorEq, renL, renP, renO, renH, renA, lkN, maskP, renL_L16]
    exact ⟨_, rfl, .refl _⟩
theorem lentWord_ok (w : Wd) (h1 : w.stem.length < 2 ^ 45) (h2 : w.loop.length < 2 ^ 45) : PGen C 14 [wrdP w] (.agg [.loc 1 0 w.stem.length (w.stem.length + 2), .loc 2 0 w.loop.length (w.loop.length + 2)])
    ⟨3, [(2, .cells (L16 (w.loop ++ [60001, 60002])) 54 1 true false []), (1, .cells (L16 (w.stem ++ [60001, 60002])) 54 1 true false []), (0, .cells [.loc 1 0 w.stem.length (w.stem.length + 2), .loc 2 0 w.loop.length (w.loop.length + 2)] 25 2 true false [])]⟩ := by
  have c1 := lentGen_ok hm hC w.stem h1
  have c2 := lentGen_ok hm hC w.loop h2
  obtain ⟨stem, loop⟩ := w
  simp only at h1 h2 c1 c2
  simp only [szU] at c1 c2
  refine PGen.body hm hC (show Tryd.tab.get 14 = some Tryd.c14 from rfl) ?_
  simp only [Tryd.c14, startP, wrdP, szU, List.length_cons, List.length_nil, Nat.reduceAdd, Nat.reduceSub, List.replicate, List.cons_append, List.nil_append]
  repeat (refine PRun.wpn rfl ?_; simp only [wp, wo_nil, wo_n, onN_s, ble_self, ble_succ, pv_t, ov_nil, ov_cons, ov_nilS, put_some, pevR, pevN, getP, setP, boxP, PW.cs?, PW.push, PW.none, cutP, Option.map_some, Bool.and_true, ↓reduceIte, ltL, lt, Nat.reduceAdd, Nat.zero_add, resPs, resP, tupP])
  refine PDraw.stage (Nat.zero_le _) rfl ?_
  try dsimp only
  simp only [onX_s, onXI_s, rdX_e, ltN, ltD_s, onD_s, wx_nil, wx_cons, wx_p, wx_r, wd_cons, wd_e, pv_t, put_some, pevP, pevR, getP, setP, nthO, look, PW.cs?, nthP, baseP, ROp.base, List.length_cons, List.length_nil, Option.bind_some, Bool.and_true, ↓reduceIte, reduceCtorEq, Nat.reduceAdd, Option.isSome_some, Nat.add_zero, Nat.zero_add, List.length_cons, List.length_nil]
  refine PDE.gen (Nat.zero_le _) c1 rfl ?_
  refine PDraw.stage (Nat.zero_le _) rfl ?_
  try dsimp only
  simp only [onD_s, wx_nil, wd_cons, wd_e, put_some, setP, nthO]
  refine PDE.gen (Nat.zero_le _) c2 rfl ?_
  refine PDraw.stage (Nat.zero_le _) rfl ?_
  try dsimp only
  simp only [beq_self_eq_true, onX_s, onXI_s, onD_s, wx_nil, wx_cons, wx_p, wd_cons, wd_e, pv_t, ov_nil, ov_cons, ov_nilS, put_some, pevP, getP, setP, nthO, fillP, spliceP, overP, plainP, Option.map_some, Option.bind_some, Bool.and_true, ↓reduceIte, ltL, lt, Nat.reduceAdd, Nat.zero_add, PW.with, shP, shO, shH, shA, shL_L16]
  refine PDE.any (Nat.zero_le _) (PE.det rfl ?_)
  refine PDraw.last (Nat.zero_le _) rfl ?_
  try dsimp only
  simp only [wx_nil, put_none, ↓reduceIte, Nat.reduceEqDiff, setO, killO]
  repeat (refine PRun.wpn rfl ?_; simp only [wp, or_true, true_and, reduceCtorEq])
  refine Gh.mr [] [(1, 0), (2, 1), (3, 2)] 3 rfl ?_
  simp only [getP, look, List.length_cons, List.length_nil, List.drop_zero, List.take_zero, List.take_succ_cons, Option.map_some, Option.bind_some, and_true, ↓reduceIte, reduceCtorEq, Nat.reduceAdd, Nat.reduceEqDiff, Nat.zero_add, renL, renP, renO, renH, renA, lkN, maskP, List.length_cons, List.length_nil, Nat.le_refl, renL_L16]
  exact ⟨_, rfl, .refl _⟩
/-- a list that was lent is whole still -/
theorem wholeLetters_ok (l : List Int) (hl : l.length < 2 ^ 45) (π : PW) (i : Nat) (hi : look π.heap i = some (.cells (L16 (l ++ [60001, 60002])) 54 1 true false [])) (hn : noAlP i π.heap = true) :
    PTo C 39 [.loc i 0 l.length (l.length + 2), szU l] π fun r π' => r = .lit (.bool true) ∧ π' = π := by
  refine PTo.of_body hm hC (show Tryd.tab.get 39 = some Tryd.c39 from rfl) ?_
  simp only [Tryd.c39, startP, szU, List.length_cons, List.length_nil, Nat.reduceAdd, Nat.reduceSub, List.replicate, List.cons_append, List.nil_append]
  have e0 : IntKind.i64.wrap ((l.length : Nat) + 2) = ((l.length + 2 : Nat) : Int) := by rw [wrap64 (by omega) (by omega)]; omega
  have e1 : IntKind.i64.wrap ((l.length : Nat) + 1) = ((l.length + 1 : Nat) : Int) := by rw [wrap64 (by omega) (by omega)]; omega
  have g1 : ¬ ((l.length + 2 : Nat) : Int) < ((l.length + 2 : Nat) : Int) := by omega
  have g2 : ((l.length : Nat) : Int) < ((l.length + 2 : Nat) : Int) := by omega
  have g3 : ((l.length + 1 : Nat) : Int) < ((l.length + 2 : Nat) : Int) := by omega
  have g4 : l.length ≤ l.length + 2 := by omega
  have s1 := (sameLetters_ok hm hC l l (by omega)).args (args' := [.sl (L16 (l ++ [60001, 60002])) l.length, szU l]) (.cons (lent_wk l _) (.cons (.refl _) .nil))
  rw [decide_eq_true rfl] at s1
  repeat (refine PRun.wpn rfl ?_; simp only [wp, wo_nil, wo_p, wo_r, wo_call, wo_g, beq_self_eq_true, onO_s, onG_t, wanted_g, pv_t, pv_int, pv_bool, put_some, bi_add, bi_eql, bi_lss, pevP, pevR, getP, setP, evsP, PW.cs?, PW.exactAt, boundP, Option.map_some, Option.bind_some, Option.isNone_none, Nat.mul_one, Nat.sub_zero, Int.natCast_nonneg, Int.toNat_natCast, Int.le_refl, and_self, true_and, Bool.true_and, ↓reduceIte, reduceCtorEq, Bool.false_eq_true, Nat.add_zero, resPs, resP, tupP, hi, e0, e1, g2, g3, g4, mark1, mark2, ltB_f g1, eqB_t (rfl : (60001 : Int) = 60001), eqB_t (rfl : (60002 : Int) = 60002), Nat.add_comm 0])
  refine .refl ⟨Nat.le_refl _, PFun.lent s1 (by simp only [pureL, pureP, szU]; rfl) ?_ (POps.wp ?_)⟩
  · refine Gh.freeze i hi (pureL_L16 _) hn ?_
    simp only [getP, List.drop_zero, ↓reduceIte, frzL, frzP, g4, szU]
  repeat (refine PRun.wpn rfl ?_; simp only [wp, pv_t, put_some, getP, setP, or_true, true_and, and_true, reduceCtorEq])
  exact ⟨_, rfl, rfl⟩
/-- what was lent, where it lies -/
def lentP (i j : Nat) (w : Wd) : PV := .agg [.loc i 0 w.stem.length (w.stem.length + 2), .loc j 0 w.loop.length (w.loop.length + 2)]
theorem wholeWord_ok (w : Wd) (h1 : w.stem.length < 2 ^ 45) (h2 : w.loop.length < 2 ^ 45) (π : PW) (i j : Nat) (hi : look π.heap i = some (.cells (L16 (w.stem ++ [60001, 60002])) 54 1 true false [])) (hn : noAlP i π.heap = true)
    (hj : look π.heap j = some (.cells (L16 (w.loop ++ [60001, 60002])) 54 1 true false [])) (hnj : noAlP j π.heap = true) (hil : i < π.next) (hjl : j < π.next) :
    PTo C 38 [lentP i j w, wrdP w] π fun r π' => r = .lit (.bool true) ∧ π' = (π.push (.cells [.loc i 0 w.stem.length (w.stem.length + 2), .loc j 0 w.loop.length (w.loop.length + 2)] 25 2 true false [])).push (.cells [szU w.stem, szU w.loop] 25 2 true false []) := by
  obtain ⟨stem, loop⟩ := w
  simp only at h1 h2 hi hj
  refine PTo.of_body hm hC (show Tryd.tab.get 38 = some Tryd.c38 from rfl) ?_
  simp only [Tryd.c38, startP, lentP, wrdP, szU, List.length_cons, List.length_nil, Nat.reduceAdd, Nat.reduceSub, List.replicate, List.cons_append, List.nil_append]
  have c1 := wholeLetters_ok hm hC stem h1
  have c2 := wholeLetters_ok hm hC loop h2
  simp only [szU] at c1 c2
  have g1 : ¬ i = π.next := by omega
  have g2 : ¬ j = π.next := by omega
  have g3 : ¬ i = π.next + 1 := by omega
  have g4 : ¬ j = π.next + 1 := by omega
  have g5 : ¬ π.next = π.next + 1 := by omega
  repeat (refine PRun.wpn rfl ?_; simp only [wp, wo_nil, wo_p, wo_r, wo_n, wo_call, onO_s, onN_s, ble_self, ble_succ, pv_t, pv_bool, put_some, pevP, pevR, pevN, getP, setP, evsP, boxP, look, PW.cs?, PW.push, nthP, Option.map_some, Option.bind_some, ↓reduceIte, Nat.add_zero, resPs, resP, tupP, g5])
  refine .refl ⟨by simp only []; omega, (c1 _ i (by simp only [look, g1, g3, if_false]; exact hi) (by simp [noAlP, hn])).is (POps.wp ?_)⟩
  try dsimp only
  simp only [wo_p, wo_r, wo_call, wo_g, beq_self_eq_true, onO_s, onG_t, wanted_g, pv_t, put_some, pevP, pevR, getP, setP, evsP, look, PW.cs?, nthP, Option.bind_some, ↓reduceIte, Nat.zero_add, g5]
  refine .refl ⟨by show π.next ≤ π.next + 1 + 1; omega, (c2 _ j (by simp only [look, g2, g4, if_false]; exact hj) (by simp [noAlP, hnj])).is (POps.wp ?_)⟩
  try dsimp only
  simp only [wo_nil, wo_p, onO_s, pv_t, put_some, pevP, getP, setP]
  repeat (refine PRun.wpn rfl ?_; simp only [wp, getP, or_true, true_and, and_true, reduceCtorEq])
  exact ⟨_, rfl, rfl⟩
/-- a list that is spoilt, with its room behind -/
theorem spoilLetters_ok (l : List Int) (n c : Nat) (hnc : n ≤ c) (hc : c < 2 ^ 46) (hlc : l.length = c) (hc0 : 0 < c) (π : PW) (i : Nat) (hi : look π.heap i = some (.cells (L16 l) 54 1 true false [])) (hil : i < π.next) :
    PTo C 41 [.loc i 0 n c] π fun r π' => r = .tup [] ∧ π' = ⟨π.next, setO π.heap i (.cells (L16 (List.replicate c 60003)) 54 1 true false [])⟩ := by
  refine PTo.of_body hm hC (show Tryd.tab.get 41 = some Tryd.c41 from rfl) ?_
  simp only [Tryd.c41, startP, List.length_cons, List.length_nil, Nat.reduceAdd, Nat.reduceSub, List.replicate, List.cons_append, List.nil_append]
  have e2 : c ≤ c := Nat.le_refl _
  repeat (refine PRun.wpn rfl ?_; simp only [wp, wo_nil, wo_p, wo_r, beq_self_eq_true, onO_s, pv_t, pv_int, put_some, pevP, pevR, getP, setP, PW.exactAt, boundP, Option.bind_some, Option.isNone_none, true_or, Nat.mul_one, Nat.sub_zero, Int.natCast_nonneg, Int.toNat_natCast, Int.le_refl, true_and, Bool.true_and, ↓reduceIte, reduceCtorEq, Nat.zero_add, resPs, tupP, hi, hnc, ite_self])
  refine PRun.gh (Gh.mask (false :: false :: true :: true :: false :: false :: false :: false :: false :: false :: false :: false :: false :: false :: false :: false :: false :: []) ?_)
  refine PRun.loopG (fun n t π' => ∃ k, t = (.junk :: .junk :: .loc i 0 c c :: .lit (.int .i64 (k : Nat)) :: .junk :: .junk :: .junk :: .junk :: .junk :: .junk :: .junk :: .junk :: .junk :: .junk :: .junk :: .junk :: .junk :: []) ∧ k ≤ c ∧ n = c - k ∧ π' = ⟨π.next, setO π.heap i (.cells (L16 (List.replicate k 60003 ++ l.drop k)) 54 1 true false [])⟩) ?_ c _ _ ⟨0, rfl, by omega, by omega, by simp [setO_same hi]⟩
  rintro n t π' ⟨k, rfl, hk, rfl, rfl⟩
  by_cases hkc : ((k : Nat) : Int) < (c : Nat)
  · have hl : ∀ x, look (setO π.heap i x) i = some x := fun x => by rw [look_setO]; simp [hi]
    have e0 : IntKind.i64.wrap ((k : Nat) + 1) = ((k + 1 : Nat) : Int) := by rw [wrap64 (by omega) (by omega)]; omega
    have e1 : spliceP (L16 (List.replicate k 60003 ++ l.drop k)) k [.lit (.int .u16 60003)] = some (L16 (List.replicate (k + 1) 60003 ++ l.drop (k + 1))) := by
      have q1 : (List.replicate k (60003 : Int) ++ l.drop k).length = c := by simp; omega
      rw [spliceP_eq _ _ _ (by rw [L16_len, q1]; simp; omega)]
      have q2 : (List.replicate k (60003 : Int) ++ l.drop k).take k = List.replicate k 60003 := by rw [List.take_append_of_le_length (by simp)]; simp
      have q3 : (List.replicate k (60003 : Int) ++ l.drop k).drop (k + 1) = l.drop (k + 1) := by
        rw [List.drop_append]; simp
      rw [L16_takeK, q2]
      have q4 : (L16 (List.replicate k 60003 ++ l.drop k)).drop (k + 1) = L16 (l.drop (k + 1)) := by rw [← q3]; simp [L16]
      simp only [List.length_cons, List.length_nil, Nat.zero_add, q4]
      rw [List.replicate_succ']
      simp [L16]
    repeat (refine PRun.wpn rfl ?_; simp only [wp, wo_nil, wo_p, wo_st, beq_self_eq_true, onO_s, onE_s, ble_self, pv_t, pv_int, put_some, put_none, bi_add, bi_lss, pevP, pevE, getP, setP, plainP, isCell, Option.map_some, Nat.mul_one, Int.natCast_nonneg, Int.toNat_natCast, and_self, Bool.and_true, ↓reduceIte, Bool.false_eq_true, Nat.zero_add, allPlain, PW.wr, killO, Bool.or_self, Bool.not_true, hkc, ltB_t hkc, hl, e1, Nat.zero_add, setO_setO])
    rw [e0]
    refine Gh.mask (false :: false :: true :: true :: false :: false :: false :: false :: false :: false :: false :: false :: false :: false :: false :: false :: false :: []) ?_
    exact ⟨c - (k + 1), by omega, k + 1, rfl, by omega, rfl, rfl⟩
  · have : k = c := by omega
    subst this
    repeat (refine PRun.wpn rfl ?_; simp only [wp, wo_nil, wo_p, onO_s, pv_t, put_some, bi_lss, pevP, getP, setP, Option.map_some, ↓reduceIte, Bool.false_eq_true, ltB_f hkc])
    refine ⟨_, rfl, rfl, ?_⟩
    rw [List.drop_eq_nil_of_le (by omega), List.append_nil]
theorem spoilWord_ok (a b : List Int) (n m : Nat) (ha : a.length < 2 ^ 46) (hb : b.length < 2 ^ 46) (hna : n ≤ a.length) (hmb : m ≤ b.length) (ha0 : 0 < a.length) (hb0 : 0 < b.length) (π : PW) (i j : Nat) (hi : look π.heap i = some (.cells (L16 a) 54 1 true false []))
    (hj : look π.heap j = some (.cells (L16 b) 54 1 true false [])) (hij : i ≠ j) (hil : i < π.next) (hjl : j < π.next) :
    PTo C 40 [.agg [.loc i 0 n a.length, .loc j 0 m b.length]] π fun r π' => r = .tup [] ∧ π' = ⟨π.next + 1, (π.next, .cells [.loc i 0 n a.length, .loc j 0 m b.length] 25 2 true false []) :: setO (setO π.heap i (.cells (L16 (List.replicate a.length 60003)) 54 1 true false [])) j (.cells (L16 (List.replicate b.length 60003)) 54 1 true false [])⟩ := by
  refine PTo.of_body hm hC (show Tryd.tab.get 40 = some Tryd.c40 from rfl) ?_
  simp only [Tryd.c40, startP, List.length_cons, List.length_nil, Nat.reduceAdd, Nat.reduceSub, List.replicate, List.cons_append, List.nil_append]
  have c1 := spoilLetters_ok hm hC a n _ hna ha rfl ha0
  have c2 := spoilLetters_ok hm hC b m _ hmb hb rfl hb0
  have g1 : ¬ i = π.next := by omega
  have g2 : ¬ j = π.next := by omega
  repeat (refine PRun.wpn rfl ?_; simp only [wp, wo_nil, wo_p, wo_r, wo_n, wo_call, onO_s, onN_s, ble_self, pv_t, put_some, pevP, pevR, pevN, getP, setP, evsP, boxP, look, PW.cs?, PW.push, nthP, Option.map_some, Option.bind_some, ↓reduceIte, Nat.add_zero, resPs, tupP])
  refine .refl ⟨by simp only []; omega, (c1 _ i (by simp only [look, g1, if_false]; exact hi) (by simp only []; omega)).is (POps.wp ?_)⟩
  try dsimp only
  simp only [wo_nil, setP, ↓reduceIte, setO, setO, g1]
  repeat (refine PRun.wpn rfl ?_; simp only [wp, wo_p, wo_r, wo_call, onO_s, pv_t, put_some, pevP, pevR, getP, setP, evsP, look, PW.cs?, nthP, Option.bind_some, true_or, true_and, ↓reduceIte, reduceCtorEq, Nat.zero_add])
  refine .refl ⟨by show π.next ≤ π.next + 1; omega, (c2 _ j (by simp only [look, g2, if_false]; rw [look_setO, if_neg (by omega)]; exact hj) (by show j < π.next + 1; omega)).is (POps.wp ?_)⟩
  try dsimp only
  simp only [wo_nil, setP, and_true, ↓reduceIte, setO, setO, g2]
  repeat (refine PRun.wpn rfl ?_; simp only [wp, wo_nil, wo_p, wo_r, wo_n, wo_call, wo_st, wo_append, wo_appendZ, wo_g, beq_self_eq_true, onO_s, onN_s, onE_s, onG_t, onG_f, wanted_g, b_tt, b_ff, b_tf, b_ft, onX_s, onXN_s, onXG_t, onXG_f, onXI_s, rdX_e, ltN, ble0, ble_self, ble_succ, and_tt, ltD_s, onD_s, onDG_t, onDG_f, wx_nil, wx_cons, wx_p, wx_r, wx_n, wx_g, wd_cons, wd_e, wd_g, pv_t, pv_int, pv_bool, pv_str, pv_nilS, pv_nilP, pv_nilI, pv_nilF, pv_nilM, ov_nil, ov_cons, ov_int, ov_bool, ov_str, ov_nilS, ov_nilP, ov_nilI, ov_nilF, ov_nilM, ov_agg, put_some, put_none, bi_add, bi_sub, bi_mul, bi_eql, bi_neq, bi_lss, bi_leq, bi_gtr, bi_geq, pevP, pevR, pevN, pevE, getP, setP, nthO, evsP, eqP, lenP, srcP, appendP, fillP, boxP, pcells, spliceP, overP, plainP, isCell, look, PW.cs?, PW.exactAt, PW.push, PW.none, nthP, cutP, partP, boundP, baseP, ROp.base, List.length_cons, List.length_nil, List.drop_zero, List.drop_succ_cons, List.take_zero, List.take_succ_cons, Option.map_some, Option.map_none, Option.bind_some, Option.bind_none, Nat.zero_le, Option.isNone_none, Option.isNone_some, true_or, or_true, Nat.mul_one, Nat.sub_zero, Int.natCast_nonneg, Int.toNat_natCast, nc0, nc1, nc2, tn0, tn1, tn2, Int.le_refl, Int.lt_irrefl, Nat.lt_irrefl, Int.sub_self, Int.sub_zero, and_self, flat_one, true_and, and_true, Bool.and_true, Bool.true_and, Bool.false_and, Bool.and_false, if_true, if_false, ↓reduceIte, reduceCtorEq, ltL, lt, ltFn, Nat.reduceAdd, Nat.reduceMul, Nat.reduceLeDiff, Nat.reduceLT, Nat.reduceEqDiff, Nat.reduceSub, Option.isSome_some, Option.isSome_none, Bool.false_eq_true, Nat.add_zero, Nat.zero_add, allPlain, PW.wr, setO, killO, Bool.or_self, Bool.or_false, Bool.false_or, Bool.not_true, Bool.not_false, Bool.true_bne, Bool.false_bne, Bool.bne_false, Bool.bne_true, resPs, resP, tupP, ltB_iff, leB_iff, eqB_iff, neB_iff, decide_eq_true_eq, frzL, frzP, frzO, frzE, frzH, noAlP, pureL, pureP, renL, renP, renO, renE, renH, renA, lkN, maskP, List.nil_append, List.append_nil, List.cons_append, List.length_cons, List.length_nil, Nat.not_lt, ge_iff_le, gt_iff_lt, Nat.le_refl])
  exact ⟨_, rfl, rfl⟩
end
end Go.Proofs.YtkldgoapompinaaDoor.Ai
