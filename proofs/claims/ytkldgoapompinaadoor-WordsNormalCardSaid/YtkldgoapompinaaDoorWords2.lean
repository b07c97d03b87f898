/- A PART OF THE PROOF: a step of the proof that the law's code does what its contracts say, by an interpreter of the program's functions that is proved to be sound. -/
import Derived.Test.YtkldgoapompinaaDoorPv2
import Derived.Test.YtkldgoapompinaaDoorWordsN
namespace Go.Proofs.YtkldgoapompinaaDoor.Ai
open Go
set_option linter.unusedSimpArgs false
set_option linter.unusedVariables false
/-- a statement and the rest, with what stands between -/
theorem PRun.seqc {C : Ctx} {b : Nat} {a c : ICode} {t : List PV} {π : PW} {Q : IExit → List PV → PW → Prop} (R : List PV → PW → Prop) (h1 : PRun C b a t π fun x t π => match x with | .normal => Gh C b t π R | _ => False) (h2 : ∀ t π, R t π → PRun C b c t π Q) : PRun C b (.seq a c) t π Q :=
  .seq (h1.mono fun x t π hx => match x, hx with
    | .normal, hx => PRun.gh (hx.mono fun t π hr => h2 t π hr))
end Go.Proofs.YtkldgoapompinaaDoor.Ai

namespace Go.Proofs.YtkldgoapompinaaDoor.Ai
open Go
set_option linter.unusedVariables false
set_option maxRecDepth 10000
theorem L16_snoc (p : List Int) (x : Int) : L16 p ++ [PV.lit (.int .u16 x)] = L16 (p ++ [x]) := by simp [L16]
/-- the letters behind: so many of the loop, from its place m on -/
def more (loop : List Int) (m n : Nat) : List Int := (List.range n).map fun i => loop.getD ((m + i) % loop.length) 0
theorem more_succ (loop : List Int) (m n : Nat) : more loop m (n + 1) = more loop m n ++ [loop.getD ((m + n) % loop.length) 0] := by simp [more, List.range_succ]
theorem more_len (loop : List Int) (m n : Nat) : (more loop m n).length = n := by simp [more]
section
variable {C : Ctx} (hm : C.P.follows .mixedOrders = true) (hC : TabOK C.P C.ng C.ts Tryd.tab)
include hm hC
theorem wnormal_ok (hw : PFun C 12 [] (.lit (.bool true))) (w : Wd) (times mo : Int) (h0 : -9223372036854775808 ≤ times) (h0' : times < 9223372036854775808) (h9 : -9223372036854775808 ≤ mo) (h9' : mo < 9223372036854775808) (h1 : w.stem.length < 2 ^ 61) (h2 : w.loop.length < 2 ^ 61)
    (hN : 0 < w.loop.length → ∀ k m : Nat, 0 < k → normal ⟨w.stem ++ more w.loop 0 m, more w.loop m (k * w.loop.length)⟩ = normal w) (hNN : 0 < w.loop.length → normal (normal w) = normal w) (hP : places (normal w) ≤ places w) :
    PTop C Tryd.tab 6 [wrdP w, .lit (.int .i64 times), .lit (.int .i64 mo)] (.lit (.bool true)) := by
  by_cases hl : ((w.loop.length : Nat) : Int) = 0
  · obtain ⟨stem, loop⟩ := w
    simp only at h1 h2 hl
    refine PTop.body (show Tryd.tab.get 6 = some Tryd.c6 from rfl) ?_
    simp only [Tryd.c6, startP, List.length_cons, List.length_nil, Nat.reduceAdd, Nat.reduceSub, List.replicate, List.cons_append, List.nil_append, wrdP, szU]
    repeat (refine PRun.wpn rfl ?_; simp only [wp, wo_nil, wo_p, wo_n, wo_call, onO_s, onN_s, ble_self, pv_t, pv_bool, put_some, pevP, pevN, getP, setP, evsP, boxP, PW.push, PW.none, Option.map_some, Nat.zero_le, true_and, Nat.zero_add, resPs, resP, tupP])
    refine .refl (PFun.to (hw) rfl (POps.wp ?_))
    simp only [wo_nil, wo_p, onO_s, pv_t, put_some, pevP, getP, setP]
    repeat (refine PRun.wpn rfl ?_; simp only [wp, wo_nil, wo_p, wo_r, wo_g, onO_s, onG_f, wanted_g, b_tf, pv_t, pv_int, pv_bool, put_some, bi_eql, pevP, pevR, getP, setP, look, PW.cs?, nthP, Option.map_some, Option.bind_some, or_true, true_and, ↓reduceIte, reduceCtorEq, Nat.zero_add, eqB_t hl])
    exact .refl ⟨_, rfl, .refl _⟩
  have e0 : IntKind.i64.wrap ((w.stem.length : Nat) + (w.loop.length : Nat)) = ((w.stem.length + w.loop.length : Nat) : Int) := by rw [wrap64 (by omega) (by omega)]; omega
  by_cases hbig : (3000 : Int) < ((w.stem.length + w.loop.length : Nat) : Int)
  · obtain ⟨stem, loop⟩ := w
    simp only at h1 h2 hl e0 hbig
    refine PTop.body (show Tryd.tab.get 6 = some Tryd.c6 from rfl) ?_
    simp only [Tryd.c6, startP, List.length_cons, List.length_nil, Nat.reduceAdd, Nat.reduceSub, List.replicate, List.cons_append, List.nil_append, wrdP, szU]
    repeat (refine PRun.wpn rfl ?_; simp only [wp, wo_nil, wo_p, wo_n, wo_call, onO_s, onN_s, ble_self, pv_t, pv_bool, put_some, pevP, pevN, getP, setP, evsP, boxP, PW.push, PW.none, Option.map_some, Nat.zero_le, true_and, Nat.zero_add, resPs, resP, tupP])
    refine .refl (PFun.to (hw) rfl (POps.wp ?_))
    simp only [wo_nil, wo_p, onO_s, pv_t, put_some, pevP, getP, setP]
    repeat (refine PRun.wpn rfl ?_; simp only [wp, wo_nil, wo_p, wo_r, wo_g, beq_self_eq_true, onO_s, onG_t, wanted_g, pv_t, pv_int, put_some, bi_add, bi_eql, bi_gtr, pevP, pevR, getP, setP, look, PW.cs?, nthP, Option.map_some, Option.bind_some, or_true, true_and, ↓reduceIte, reduceCtorEq, Nat.add_zero, Nat.zero_add, eqB_f hl, e0, ltB_t hbig])
    exact .refl ⟨_, rfl, .refl _⟩
  have hl0 : 0 < w.loop.length := by omega
  have p1 := pick_ok hm hC times 4 h0 h0' (by omega)
  have p2 := pick_ok hm hC mo (2 * w.loop.length + 1) h9 h9' (by omega)
  have hk : pickF times 4 < 4 := Nat.mod_lt _ (by omega)
  have hmm : pickF mo (2 * w.loop.length + 1) < 2 * w.loop.length + 1 := Nat.mod_lt _ (by omega)
  generalize pickF times 4 = k0 at *
  generalize pickF mo (2 * w.loop.length + 1) = m at *
  obtain ⟨k, hk1⟩ : ∃ k, k = 1 + k0 := ⟨_, rfl⟩
  have e1 : IntKind.i64.wrap (1 + (k0 : Nat)) = (k : Nat) := by rw [wrap64 (by omega) (by omega)]; omega
  have e2 : IntKind.i64.wrap (2 * (w.loop.length : Nat)) = ((2 * w.loop.length : Nat) : Int) := by rw [wrap64 (by omega) (by omega)]; omega
  have e3 : IntKind.i64.wrap (((2 * w.loop.length : Nat) : Int) + 1) = ((2 * w.loop.length + 1 : Nat) : Int) := by rw [wrap64 (by omega) (by omega)]; omega
  have n1 := normal_ok hm hC w (by omega) (by omega)
  have n2 := normal_ok hm hC ⟨w.stem ++ more w.loop 0 m, more w.loop m (k * w.loop.length)⟩ (by simp [more_len]; omega) (by simp only [more_len]; have : k * w.loop.length ≤ 4 * w.loop.length := Nat.mul_le_mul_right _ (by omega); omega)
  have n3 := normal_ok hm hC (normal w) (by have := normal_stem w; omega) (by have := normal_loop w; omega)
  have k0' : 0 < k := by omega
  have klen : k * w.loop.length ≤ 4 * w.loop.length := Nat.mul_le_mul_right _ (by omega)
  have kpos : 0 < k * w.loop.length := Nat.mul_pos k0' hl0
  have s1 := same_ok hm hC w ⟨w.stem ++ more w.loop 0 m, more w.loop m (k * w.loop.length)⟩ (by omega) (by omega) (by simp [more_len]; omega) (by simp only [more_len]; omega)
  have s2 : same w ⟨w.stem ++ more w.loop 0 m, more w.loop m (k * w.loop.length)⟩ = true := by
    unfold same
    rw [hN hl0 k m k0']
    exact decide_eq_true ⟨by omega, by simp only [more_len]; omega, rfl, rfl⟩
  rw [s2] at s1
  rw [hN hl0 k m k0'] at n2
  rw [hNN hl0] at n3
  have c1 := sameWord_ok hm hC (normal w) (normal w) (by have := normal_stem w; omega) (by have := normal_loop w; omega)
  rw [decide_eq_true ⟨rfl, rfl⟩] at c1
  have v1 := places_ok hm hC (normal w) (by have := normal_stem w; omega) (by have := normal_loop w; omega)
  have v2 := places_ok hm hC w (by omega) (by omega)
  have hPl : ((places (normal w) : Nat) : Int) ≤ (places w : Nat) := by omega
  have e4 : IntKind.i64.wrap ((k : Nat) * (w.loop.length : Nat)) = ((k * w.loop.length : Nat) : Int) := by rw [wrap64 (by rw [← Int.natCast_mul]; omega) (by rw [← Int.natCast_mul]; omega)]; simp
  clear hN hNN hP s2
  generalize normal w = nw at *
  generalize places nw = pl1 at *
  generalize places w = pl2 at *
  obtain ⟨stem, loop⟩ := w
  obtain ⟨ns, nl⟩ := nw
  simp only at h1 h2 hl e0 hbig hl0 p2 hmm e2 e3 e4 n2 klen kpos s1
  simp only [wrdP, szU] at n1 n2 n3 s1 c1 v1 v2
  have a0 : ¬ stem.length = 0 → ¬ 140737488355328 < (2 * stem.length + 768) * 2 := by omega
  refine PTop.body (show Tryd.tab.get 6 = some Tryd.c6 from rfl) ?_
  simp only [Tryd.c6, startP, List.length_cons, List.length_nil, Nat.reduceAdd, Nat.reduceSub, List.replicate, List.cons_append, List.nil_append, wrdP, szU]
  repeat (refine PRun.wpn rfl ?_; simp only [wp, wo_nil, wo_p, wo_n, wo_call, onO_s, onN_s, ble_self, pv_t, pv_bool, put_some, pevP, pevN, getP, setP, evsP, boxP, PW.push, PW.none, Option.map_some, Nat.zero_le, true_and, Nat.zero_add, resPs, resP, tupP])
  refine .refl (PFun.to (hw) rfl (POps.wp ?_))
  simp only [wo_nil, wo_p, onO_s, pv_t, put_some, pevP, getP, setP]
  repeat (refine PRun.wpn rfl ?_; simp only [wp, wo_nil, wo_p, wo_r, wo_call, wo_g, beq_self_eq_true, onO_s, onG_t, wanted_g, pv_t, pv_int, put_some, bi_add, bi_eql, bi_gtr, pevP, pevR, getP, setP, evsP, look, PW.cs?, nthP, Option.map_some, Option.bind_some, Nat.zero_le, true_and, ↓reduceIte, Bool.false_eq_true, Nat.add_zero, Nat.zero_add, eqB_f hl, e0, ltB_f hbig])
  refine .refl (PFun.to (p1) rfl (POps.wp ?_))
  simp only [wo_nil, wo_p, onO_s, pv_t, pv_int, put_some, bi_add, pevP, getP, setP, Option.map_some, e1]
  repeat (refine PRun.wpn rfl ?_; simp only [wp, wo_p, wo_r, wo_call, onO_s, pv_t, pv_int, put_some, bi_add, bi_mul, pevP, pevR, getP, setP, evsP, look, PW.cs?, nthP, Option.map_some, Option.bind_some, Nat.zero_le, true_and, ↓reduceIte, Nat.zero_add, e2, e3])
  refine .refl (PFun.to (p2) rfl (POps.wp ?_))
  simp only [wo_nil, wo_p, onO_s, pv_t, put_some, pevP, getP, setP]
  refine PRun.wpn rfl ?_
  simp only [wp, wo_nil, wo_n, onN_s, ble_succ, ov_nil, ov_cons, ov_nilS, put_some, pevN, setP, PW.push, Bool.and_true, ↓reduceIte, ltL, lt, Nat.reduceAdd]
  refine PRun.seqc (fun t π => t = (.junk :: .junk :: .junk :: .ptr 0 0 :: .junk :: .junk :: .lit (.bool false) :: .lit (.bool true) :: .lit (.int .i64 (k : Nat)) :: .lit (.int .i64 (m : Nat)) :: .ptr 1 0 :: .junk :: .junk :: .junk :: .junk :: .junk :: .junk :: .junk :: .junk :: .junk :: .junk :: .junk :: .junk :: .junk :: .junk :: .junk :: .junk :: .junk :: .junk :: .junk :: .junk :: .junk :: .junk :: .junk :: .junk :: .junk :: .junk :: .junk :: .junk :: .junk :: .junk :: .junk :: .junk :: .junk :: .junk :: .junk :: .junk :: .junk :: .junk :: .junk :: .junk :: .junk :: .junk :: .junk :: .junk :: .junk :: .junk :: .junk :: .junk :: .junk :: .junk :: .junk :: .junk :: .junk :: .junk :: .junk :: .junk :: .junk :: .junk :: .junk :: .junk :: .junk :: .junk :: .junk :: .junk :: .junk :: .junk :: .junk :: .junk :: .junk :: .junk :: .junk :: .junk :: .junk :: .junk :: .junk :: .junk :: .junk :: .junk :: .junk :: .junk :: .junk :: .junk :: .junk :: .junk :: .junk :: .junk :: .junk :: .junk :: .junk :: .junk :: .junk :: .junk :: .junk :: .junk :: .junk :: .junk :: .junk :: .junk :: .junk :: .junk :: .junk :: .junk :: .junk :: .junk :: .junk :: .junk :: .junk :: .junk :: .junk :: .junk :: .junk :: .junk :: .junk :: .junk :: .junk :: .junk :: []) ∧ ∃ p, p = stem ∧ ((p = [] ∧ π = ⟨4, [(1, .cells [.lit (.slice none 0 0), .lit (.slice none 0 0)] 25 2 true false []), (0, .cells [.sz (L16 stem) stem.length, .sz (L16 loop) loop.length] 25 2 true false [])]⟩) ∨ (p ≠ [] ∧ π = ⟨4, [(2, .cells (L16 p) 54 1 false false []), (1, .cells [.loc 2 0 p.length p.length, .lit (.slice none 0 0)] 25 2 true false []), (0, .cells [.sz (L16 stem) stem.length, .sz (L16 loop) loop.length] 25 2 true false [])]⟩))) ?_ ?_
  · by_cases hs0 : stem.length = 0
    · have hs1 : stem = [] := List.length_eq_zero_iff.1 hs0
      have hs2 : stem.length ≤ 0 := by omega
      repeat (refine PRun.wpn rfl ?_; simp only [wp, wo_nil, wo_p, wo_r, wo_st, wo_append, beq_self_eq_true, onO_s, onE_s, ble0, pv_t, put_some, put_none, pevP, pevR, pevE, getP, setP, lenP, srcP, appendP, spliceP, overP, plainP, isCell, look, PW.cs?, nthP, cutP, Option.map_some, Option.bind_some, Nat.mul_one, Bool.and_true, ↓reduceIte, reduceCtorEq, Bool.false_eq_true, Nat.add_zero, Nat.zero_add, allPlain, PW.wr, setO, killO, Bool.or_self, Bool.not_true, Nat.le_refl, eq_true hs0, eq_true hs2, L16_len, L16_take])
      try simp only [wp, wo_nil, wo_p, wo_r, wo_n, wo_call, wo_st, wo_append, wo_appendZ, wo_g, beq_self_eq_true, onO_s, onN_s, onE_s, onG_t, onG_f, wanted_g, b_tt, b_ff, b_tf, b_ft, onX_s, onXN_s, onXG_t, onXG_f, onXI_s, rdX_e, ltN, ble0, ble_self, ble_succ, and_tt, ltD_s, onD_s, onDG_t, onDG_f, wx_nil, wx_cons, wx_p, wx_r, wx_n, wx_g, wd_cons, wd_e, wd_g, pv_t, pv_int, pv_bool, pv_str, pv_nilS, pv_nilP, pv_nilI, pv_nilF, pv_nilM, ov_nil, ov_cons, ov_int, ov_bool, ov_str, ov_nilS, ov_nilP, ov_nilI, ov_nilF, ov_nilM, ov_agg, put_some, put_none, bi_add, bi_sub, bi_mul, bi_eql, bi_neq, bi_lss, bi_leq, bi_gtr, bi_geq, pevP, pevR, pevN, pevE, getP, setP, nthO, evsP, eqP, lenP, srcP, appendP, fillP, boxP, pcells, spliceP, overP, plainP, isCell, look, PW.cs?, PW.exactAt, PW.push, PW.none, nthP, cutP, partP, boundP, baseP, ROp.base, List.length_cons, List.length_nil, List.drop_zero, List.drop_succ_cons, List.take_zero, List.take_succ_cons, Option.map_some, Option.map_none, Option.bind_some, Option.bind_none, Nat.zero_le, Option.isNone_none, Option.isNone_some, true_or, or_true, Nat.mul_one, Nat.sub_zero, Int.natCast_nonneg, Int.toNat_natCast, nc0, nc1, nc2, tn0, tn1, tn2, Int.le_refl, Int.lt_irrefl, Nat.lt_irrefl, Int.sub_self, Int.sub_zero, and_self, flat_one, true_and, and_true, Bool.and_true, Bool.true_and, Bool.false_and, Bool.and_false, if_true, if_false, ↓reduceIte, reduceCtorEq, ltL, lt, ltFn, Nat.reduceAdd, Nat.reduceMul, Nat.reduceLeDiff, Nat.reduceLT, Nat.reduceEqDiff, Nat.reduceSub, Option.isSome_some, Option.isSome_none, Bool.false_eq_true, Nat.add_zero, Nat.zero_add, allPlain, PW.wr, setO, killO, Bool.or_self, Bool.or_false, Bool.false_or, Bool.not_true, Bool.not_false, Bool.true_bne, Bool.false_bne, Bool.bne_false, Bool.bne_true, resPs, resP, tupP, ltB_iff, leB_iff, eqB_iff, neB_iff, decide_eq_true_eq, frzL, frzP, frzO, frzE, frzH, noAlP, pureL, pureP, renL, renP, renO, renE, renH, renA, lkN, maskP, List.nil_append, List.append_nil, List.cons_append, List.length_cons, List.length_nil, Nat.not_lt, ge_iff_le, gt_iff_lt, Nat.le_refl, eq_true hs0, eq_true hs2, L16_len, L16_take]
      refine Gh.mr (false :: false :: false :: true :: false :: false :: true :: true :: true :: true :: true :: false :: false :: false :: false :: false :: false :: false :: false :: false :: false :: false :: false :: false :: false :: false :: false :: false :: false :: false :: false :: false :: false :: false :: false :: false :: false :: false :: false :: false :: false :: false :: false :: false :: false :: false :: false :: false :: false :: false :: false :: false :: false :: false :: false :: false :: false :: false :: false :: false :: false :: false :: false :: false :: false :: false :: false :: false :: false :: false :: false :: false :: false :: false :: false :: false :: false :: false :: false :: false :: false :: false :: false :: false :: false :: false :: false :: false :: false :: false :: false :: false :: false :: false :: false :: false :: false :: false :: false :: false :: false :: false :: false :: false :: false :: false :: false :: false :: false :: false :: false :: false :: false :: false :: false :: false :: false :: false :: false :: false :: false :: false :: false :: false :: false :: false :: false :: []) [(0, 0), (1, 1)] 4 rfl ?_
      exact ⟨rfl, stem, rfl, .inl ⟨hs1, rfl⟩⟩
    · have hs1 : stem ≠ [] := fun h => hs0 (by rw [h]; rfl)
      have hs2 : ¬ stem.length ≤ 0 := by omega
      have a1 := a0 hs0
      repeat (refine PRun.wpn rfl ?_; simp only [wp, wo_p, wo_r, wo_append, onO_s, ble0, pv_t, put_some, pevP, pevR, pevE, getP, setP, lenP, srcP, appendP, look, PW.cs?, PW.push, nthP, cutP, Option.bind_some, Nat.mul_one, ↓reduceIte, reduceCtorEq, Nat.reduceAdd, Nat.add_zero, Nat.zero_add, Bool.false_or, Bool.not_true, gt_iff_lt, Nat.le_refl, hs2, a1, L16_len, L16_take, allPlain_L16])
      try simp only [wp, wo_nil, wo_p, wo_r, wo_n, wo_call, wo_st, wo_append, wo_appendZ, wo_g, beq_self_eq_true, onO_s, onN_s, onE_s, onG_t, onG_f, wanted_g, b_tt, b_ff, b_tf, b_ft, onX_s, onXN_s, onXG_t, onXG_f, onXI_s, rdX_e, ltN, ble0, ble_self, ble_succ, and_tt, ltD_s, onD_s, onDG_t, onDG_f, wx_nil, wx_cons, wx_p, wx_r, wx_n, wx_g, wd_cons, wd_e, wd_g, pv_t, pv_int, pv_bool, pv_str, pv_nilS, pv_nilP, pv_nilI, pv_nilF, pv_nilM, ov_nil, ov_cons, ov_int, ov_bool, ov_str, ov_nilS, ov_nilP, ov_nilI, ov_nilF, ov_nilM, ov_agg, put_some, put_none, bi_add, bi_sub, bi_mul, bi_eql, bi_neq, bi_lss, bi_leq, bi_gtr, bi_geq, pevP, pevR, pevN, pevE, getP, setP, nthO, evsP, eqP, lenP, srcP, appendP, fillP, boxP, pcells, spliceP, overP, plainP, isCell, look, PW.cs?, PW.exactAt, PW.push, PW.none, nthP, cutP, partP, boundP, baseP, ROp.base, List.length_cons, List.length_nil, List.drop_zero, List.drop_succ_cons, List.take_zero, List.take_succ_cons, Option.map_some, Option.map_none, Option.bind_some, Option.bind_none, Nat.zero_le, Option.isNone_none, Option.isNone_some, true_or, or_true, Nat.mul_one, Nat.sub_zero, Int.natCast_nonneg, Int.toNat_natCast, nc0, nc1, nc2, tn0, tn1, tn2, Int.le_refl, Int.lt_irrefl, Nat.lt_irrefl, Int.sub_self, Int.sub_zero, and_self, flat_one, true_and, and_true, Bool.and_true, Bool.true_and, Bool.false_and, Bool.and_false, if_true, if_false, ↓reduceIte, reduceCtorEq, ltL, lt, ltFn, Nat.reduceAdd, Nat.reduceMul, Nat.reduceLeDiff, Nat.reduceLT, Nat.reduceEqDiff, Nat.reduceSub, Option.isSome_some, Option.isSome_none, Bool.false_eq_true, Nat.add_zero, Nat.zero_add, allPlain, PW.wr, setO, killO, Bool.or_self, Bool.or_false, Bool.false_or, Bool.not_true, Bool.not_false, Bool.true_bne, Bool.false_bne, Bool.bne_false, Bool.bne_true, resPs, resP, tupP, ltB_iff, leB_iff, eqB_iff, neB_iff, decide_eq_true_eq, frzL, frzP, frzO, frzE, frzH, noAlP, pureL, pureP, renL, renP, renO, renE, renH, renA, lkN, maskP, List.nil_append, List.append_nil, List.cons_append, List.length_cons, List.length_nil, Nat.not_lt, ge_iff_le, gt_iff_lt, Nat.le_refl, hs0, hs2, a1, L16_len, L16_take, allPlain_L16]
      repeat (refine PRun.wpn rfl ?_; simp only [wp, wo_nil, wo_p, wo_r, wo_n, wo_call, wo_st, wo_append, wo_appendZ, wo_g, beq_self_eq_true, onO_s, onN_s, onE_s, onG_t, onG_f, wanted_g, b_tt, b_ff, b_tf, b_ft, onX_s, onXN_s, onXG_t, onXG_f, onXI_s, rdX_e, ltN, ble0, ble_self, ble_succ, and_tt, ltD_s, onD_s, onDG_t, onDG_f, wx_nil, wx_cons, wx_p, wx_r, wx_n, wx_g, wd_cons, wd_e, wd_g, pv_t, pv_int, pv_bool, pv_str, pv_nilS, pv_nilP, pv_nilI, pv_nilF, pv_nilM, ov_nil, ov_cons, ov_int, ov_bool, ov_str, ov_nilS, ov_nilP, ov_nilI, ov_nilF, ov_nilM, ov_agg, put_some, put_none, bi_add, bi_sub, bi_mul, bi_eql, bi_neq, bi_lss, bi_leq, bi_gtr, bi_geq, pevP, pevR, pevN, pevE, getP, setP, nthO, evsP, eqP, lenP, srcP, appendP, fillP, boxP, pcells, spliceP, overP, plainP, isCell, look, PW.cs?, PW.exactAt, PW.push, PW.none, nthP, cutP, partP, boundP, baseP, ROp.base, List.length_cons, List.length_nil, List.drop_zero, List.drop_succ_cons, List.take_zero, List.take_succ_cons, Option.map_some, Option.map_none, Option.bind_some, Option.bind_none, Nat.zero_le, Option.isNone_none, Option.isNone_some, true_or, or_true, Nat.mul_one, Nat.sub_zero, Int.natCast_nonneg, Int.toNat_natCast, nc0, nc1, nc2, tn0, tn1, tn2, Int.le_refl, Int.lt_irrefl, Nat.lt_irrefl, Int.sub_self, Int.sub_zero, and_self, flat_one, true_and, and_true, Bool.and_true, Bool.true_and, Bool.false_and, Bool.and_false, if_true, if_false, ↓reduceIte, reduceCtorEq, ltL, lt, ltFn, Nat.reduceAdd, Nat.reduceMul, Nat.reduceLeDiff, Nat.reduceLT, Nat.reduceEqDiff, Nat.reduceSub, Option.isSome_some, Option.isSome_none, Bool.false_eq_true, Nat.add_zero, Nat.zero_add, allPlain, PW.wr, setO, killO, Bool.or_self, Bool.or_false, Bool.false_or, Bool.not_true, Bool.not_false, Bool.true_bne, Bool.false_bne, Bool.bne_false, Bool.bne_true, resPs, resP, tupP, ltB_iff, leB_iff, eqB_iff, neB_iff, decide_eq_true_eq, frzL, frzP, frzO, frzE, frzH, noAlP, pureL, pureP, renL, renP, renO, renE, renH, renA, lkN, maskP, List.nil_append, List.append_nil, List.cons_append, List.length_cons, List.length_nil, Nat.not_lt, ge_iff_le, gt_iff_lt, Nat.le_refl])
      refine Gh.mr (false :: false :: false :: true :: false :: false :: true :: true :: true :: true :: true :: false :: false :: false :: false :: false :: false :: false :: false :: false :: false :: false :: false :: false :: false :: false :: false :: false :: false :: false :: false :: false :: false :: false :: false :: false :: false :: false :: false :: false :: false :: false :: false :: false :: false :: false :: false :: false :: false :: false :: false :: false :: false :: false :: false :: false :: false :: false :: false :: false :: false :: false :: false :: false :: false :: false :: false :: false :: false :: false :: false :: false :: false :: false :: false :: false :: false :: false :: false :: false :: false :: false :: false :: false :: false :: false :: false :: false :: false :: false :: false :: false :: false :: false :: false :: false :: false :: false :: false :: false :: false :: false :: false :: false :: false :: false :: false :: false :: false :: false :: false :: false :: false :: false :: false :: false :: false :: false :: false :: false :: false :: false :: false :: false :: false :: false :: false :: []) [(0, 0), (1, 1), (2, 2)] 4 rfl ?_
      simp only [pv_t, put_some, put_none, getP, setP, true_and, ↓reduceIte, reduceCtorEq, Nat.reduceEqDiff, Bool.false_eq_true, Nat.add_zero, setO, killO, renL, renP, renO, renH, renA, lkN, maskP, renL_L16]
      exact ⟨stem, rfl, .inr ⟨hs1, rfl⟩⟩
  rintro t π ⟨rfl, p, hp, hpi⟩
  refine PRun.seqc (fun t π => t = (.junk :: .junk :: .junk :: .ptr 0 0 :: .junk :: .junk :: .lit (.bool false) :: .lit (.bool true) :: .lit (.int .i64 (k : Nat)) :: .lit (.int .i64 (m : Nat)) :: .ptr 1 0 :: .junk :: .junk :: .junk :: .junk :: .junk :: .junk :: .junk :: .junk :: .junk :: .junk :: .junk :: .junk :: .junk :: .junk :: .junk :: .junk :: .junk :: .junk :: .junk :: .junk :: .junk :: .junk :: .junk :: .junk :: .junk :: .junk :: .junk :: .junk :: .junk :: .junk :: .junk :: .junk :: .junk :: .junk :: .junk :: .junk :: .junk :: .junk :: .junk :: .junk :: .junk :: .junk :: .junk :: .junk :: .junk :: .junk :: .junk :: .junk :: .junk :: .junk :: .junk :: .junk :: .junk :: .junk :: .junk :: .junk :: .junk :: .junk :: .junk :: .junk :: .junk :: .junk :: .junk :: .junk :: .junk :: .junk :: .junk :: .junk :: .junk :: .junk :: .junk :: .junk :: .junk :: .junk :: .junk :: .junk :: .junk :: .junk :: .junk :: .junk :: .junk :: .junk :: .junk :: .junk :: .junk :: .junk :: .junk :: .junk :: .junk :: .junk :: .junk :: .junk :: .junk :: .junk :: .junk :: .junk :: .junk :: .junk :: .junk :: .junk :: .junk :: .junk :: .junk :: .junk :: .junk :: .junk :: .junk :: .junk :: .junk :: .junk :: .junk :: .junk :: .junk :: .junk :: .junk :: .junk :: []) ∧ ∃ p, p = stem ++ more loop 0 m ∧ ((p = [] ∧ π = ⟨4, [(1, .cells [.lit (.slice none 0 0), .lit (.slice none 0 0)] 25 2 true false []), (0, .cells [.sz (L16 stem) stem.length, .sz (L16 loop) loop.length] 25 2 true false [])]⟩) ∨ (p ≠ [] ∧ π = ⟨4, [(2, .cells (L16 p) 54 1 false false []), (1, .cells [.loc 2 0 p.length p.length, .lit (.slice none 0 0)] 25 2 true false []), (0, .cells [.sz (L16 stem) stem.length, .sz (L16 loop) loop.length] 25 2 true false [])]⟩))) ?_ ?_
  · repeat (refine PRun.wpn rfl ?_; simp only [wp, wo_nil, wo_p, onO_s, pv_int, put_some, pevP, setP])
    refine PRun.gh (Gh.mask (false :: false :: false :: true :: false :: false :: true :: true :: true :: true :: true :: true :: false :: false :: false :: false :: false :: false :: false :: false :: false :: false :: false :: false :: false :: false :: false :: false :: false :: false :: false :: false :: false :: false :: false :: false :: false :: false :: false :: false :: false :: false :: false :: false :: false :: false :: false :: false :: false :: false :: false :: false :: false :: false :: false :: false :: false :: false :: false :: false :: false :: false :: false :: false :: false :: false :: false :: false :: false :: false :: false :: false :: false :: false :: false :: false :: false :: false :: false :: false :: false :: false :: false :: false :: false :: false :: false :: false :: false :: false :: false :: false :: false :: false :: false :: false :: false :: false :: false :: false :: false :: false :: false :: false :: false :: false :: false :: false :: false :: false :: false :: false :: false :: false :: false :: false :: false :: false :: false :: false :: false :: false :: false :: false :: false :: false :: false :: []) ?_)
    refine PRun.loopG (fun n t π => ∃ i p, t = (.junk :: .junk :: .junk :: .ptr 0 0 :: .junk :: .junk :: .lit (.bool false) :: .lit (.bool true) :: .lit (.int .i64 (k : Nat)) :: .lit (.int .i64 (m : Nat)) :: .ptr 1 0 :: .lit (.int .i64 (i : Nat)) :: .junk :: .junk :: .junk :: .junk :: .junk :: .junk :: .junk :: .junk :: .junk :: .junk :: .junk :: .junk :: .junk :: .junk :: .junk :: .junk :: .junk :: .junk :: .junk :: .junk :: .junk :: .junk :: .junk :: .junk :: .junk :: .junk :: .junk :: .junk :: .junk :: .junk :: .junk :: .junk :: .junk :: .junk :: .junk :: .junk :: .junk :: .junk :: .junk :: .junk :: .junk :: .junk :: .junk :: .junk :: .junk :: .junk :: .junk :: .junk :: .junk :: .junk :: .junk :: .junk :: .junk :: .junk :: .junk :: .junk :: .junk :: .junk :: .junk :: .junk :: .junk :: .junk :: .junk :: .junk :: .junk :: .junk :: .junk :: .junk :: .junk :: .junk :: .junk :: .junk :: .junk :: .junk :: .junk :: .junk :: .junk :: .junk :: .junk :: .junk :: .junk :: .junk :: .junk :: .junk :: .junk :: .junk :: .junk :: .junk :: .junk :: .junk :: .junk :: .junk :: .junk :: .junk :: .junk :: .junk :: .junk :: .junk :: .junk :: .junk :: .junk :: .junk :: .junk :: .junk :: .junk :: .junk :: .junk :: .junk :: .junk :: .junk :: .junk :: .junk :: .junk :: .junk :: .junk :: []) ∧ i ≤ m ∧ n = m - i ∧ p = stem ++ more loop 0 i ∧ ((p = [] ∧ π = ⟨4, [(1, .cells [.lit (.slice none 0 0), .lit (.slice none 0 0)] 25 2 true false []), (0, .cells [.sz (L16 stem) stem.length, .sz (L16 loop) loop.length] 25 2 true false [])]⟩) ∨ (p ≠ [] ∧ π = ⟨4, [(2, .cells (L16 p) 54 1 false false []), (1, .cells [.loc 2 0 p.length p.length, .lit (.slice none 0 0)] 25 2 true false []), (0, .cells [.sz (L16 stem) stem.length, .sz (L16 loop) loop.length] 25 2 true false [])]⟩))) ?_ m _ _ ⟨0, p, rfl, by omega, by omega, by rw [hp]; simp [more], hpi⟩
    clear hpi hp p
    rintro n t π ⟨i, p, rfl, hi, rfl, hp, hpi⟩
    by_cases him : ((i : Nat) : Int) < (m : Nat)
    · have f2 : i % loop.length < loop.length := Nat.mod_lt _ hl0
      have f1 : ((i % loop.length : Nat) : Int) < (loop.length : Nat) := by omega
      have hnext : p ++ [loop[i % loop.length]] = stem ++ more loop 0 (i + 1) := by
        rw [hp, more_succ, List.append_assoc, Nat.zero_add]
        simp [List.getD, List.getElem?_eq_getElem f2]
      have hplen : p.length ≤ 20000 := by rw [hp, List.length_append, more_len]; omega
      rcases hpi with ⟨rfl, rfl⟩ | ⟨hp0, rfl⟩
      · repeat (refine PRun.wpn rfl ?_; simp only [wp, wo_nil, wo_p, onO_s, pv_t, put_some, bi_lss, pevP, getP, setP, Option.map_some, ↓reduceIte, ltB_iff, him])
        refine PDraw.stage (Nat.zero_le _) rfl ?_
        try dsimp only
        simp only [beq_self_eq_true, onX_s, onXN_s, onXI_s, rdX_e, ltN, ltD_s, onD_s, wx_nil, wx_cons, wx_p, wx_r, wx_n, wd_cons, wd_e, pv_t, ov_nil, ov_cons, ov_int, put_some, pevP, pevR, pevN, getP, setP, nthO, fillP, spliceP, overP, plainP, isCell, look, PW.cs?, PW.push, nthP, baseP, ROp.base, List.length_cons, List.length_nil, Option.map_some, Option.bind_some, Nat.mul_one, Int.natCast_nonneg, Int.toNat_natCast, and_self, Bool.and_true, ↓reduceIte, reduceCtorEq, ltL, lt, Nat.reduceAdd, Option.isSome_some, Nat.add_zero, Nat.zero_add, List.length_cons, List.length_nil, bi_rem hl, tmod_nat, f1, L16_drop f2]
        refine PDE.any (Nat.zero_le _) (PE.det (by simp only [pv_t, pevE, getP, lenP, srcP, appendP, plainP, isCell, look, PW.cs?, PW.push, cutP, List.length_cons, List.length_nil, List.drop_zero, List.take_zero, List.take_succ_cons, Option.bind_some, Nat.mul_one, Bool.and_true, ↓reduceIte, Nat.reduceAdd, Nat.reduceMul, Nat.reduceLeDiff, Nat.reduceLT, Nat.zero_add, allPlain, Bool.false_or, Bool.not_true, List.length_cons, List.length_nil, gt_iff_lt, Nat.le_refl]; rfl) ?_)
        refine PDraw.stage (Nat.zero_le _) rfl ?_
        try dsimp only
        simp only [onX_s, onXI_s, onD_s, wx_nil, wx_cons, wx_p, wd_cons, wd_e, pv_t, put_some, pevP, getP, setP, nthO, Nat.add_zero]
        refine PDE.any (Nat.zero_le _) (PE.det rfl ?_)
        refine PDraw.last (Nat.zero_le _) rfl ?_
        try dsimp only
        simp only [wx_nil, pv_t, put_none, getP, ↓reduceIte, Nat.reduceEqDiff, setO, killO]
        repeat (refine PRun.wpn rfl ?_; simp only [wp, wo_nil, wo_p, onO_s, pv_t, pv_int, put_some, bi_add, pevP, getP, setP, Option.map_some])
        rw [wrap64 (by omega) (by omega)]
        refine Gh.mr (false :: false :: false :: true :: false :: false :: true :: true :: true :: true :: true :: true :: false :: false :: false :: false :: false :: false :: false :: false :: false :: false :: false :: false :: false :: false :: false :: false :: false :: false :: false :: false :: false :: false :: false :: false :: false :: false :: false :: false :: false :: false :: false :: false :: false :: false :: false :: false :: false :: false :: false :: false :: false :: false :: false :: false :: false :: false :: false :: false :: false :: false :: false :: false :: false :: false :: false :: false :: false :: false :: false :: false :: false :: false :: false :: false :: false :: false :: false :: false :: false :: false :: false :: false :: false :: false :: false :: false :: false :: false :: false :: false :: false :: false :: false :: false :: false :: false :: false :: false :: false :: false :: false :: false :: false :: false :: false :: false :: false :: false :: false :: false :: false :: false :: false :: false :: false :: false :: false :: false :: false :: false :: false :: false :: false :: false :: false :: []) [(0, 0), (1, 1), (5, 2)] 4 rfl ?_
        exact ⟨m - (i + 1), by omega, i + 1, [loop[i % loop.length]], rfl, by omega, rfl, hnext, .inr ⟨by simp, rfl⟩⟩
      · have q1 : ¬ p.length + 1 ≤ p.length := by omega
        have q2 : ¬ 140737488355328 < (2 * (p.length + 1) + 768) * 2 := by omega
        repeat (refine PRun.wpn rfl ?_; simp only [wp, wo_nil, wo_p, onO_s, pv_t, put_some, bi_lss, pevP, getP, setP, Option.map_some, ↓reduceIte, ltB_iff, him])
        refine PDraw.stage (Nat.zero_le _) rfl ?_
        try dsimp only
        simp only [beq_self_eq_true, onX_s, onXN_s, onXI_s, rdX_e, ltN, ltD_s, onD_s, wx_nil, wx_cons, wx_p, wx_r, wx_n, wd_cons, wd_e, pv_t, ov_nil, ov_cons, ov_int, put_some, pevP, pevR, pevN, getP, setP, nthO, fillP, spliceP, overP, plainP, isCell, look, PW.cs?, PW.push, nthP, baseP, ROp.base, List.length_cons, List.length_nil, Option.map_some, Option.bind_some, Nat.mul_one, Int.natCast_nonneg, Int.toNat_natCast, and_self, Bool.and_true, ↓reduceIte, reduceCtorEq, ltL, lt, Nat.reduceAdd, Nat.reduceEqDiff, Option.isSome_some, Nat.add_zero, Nat.zero_add, List.length_cons, List.length_nil, bi_rem hl, tmod_nat, f1, L16_drop f2]
        refine PDE.any (Nat.zero_le _) (PE.det (by simp only [pv_t, pevE, getP, lenP, srcP, appendP, plainP, isCell, look, PW.cs?, PW.push, cutP, List.length_cons, List.length_nil, List.drop_zero, List.take_zero, List.take_succ_cons, Option.bind_some, Nat.mul_one, Bool.and_true, ↓reduceIte, Nat.reduceAdd, Nat.reduceEqDiff, Bool.false_eq_true, Nat.zero_add, allPlain, setO, Bool.or_self, Bool.not_true, List.length_cons, List.length_nil, gt_iff_lt, Nat.le_refl, q1, q2, L16_len, L16_take, bne_self_eq_false]; rfl) ?_)
        refine PDraw.stage (Nat.zero_le _) rfl ?_
        try dsimp only
        simp only [onX_s, onXI_s, onD_s, wx_nil, wx_cons, wx_p, wd_cons, wd_e, pv_t, put_some, pevP, getP, setP, nthO, Nat.add_zero]
        refine PDE.any (Nat.zero_le _) (PE.det rfl ?_)
        refine PDraw.last (Nat.zero_le _) rfl ?_
        try dsimp only
        simp only [wx_nil, pv_t, put_none, getP, ↓reduceIte, Nat.reduceEqDiff, setO, killO]
        repeat (refine PRun.wpn rfl ?_; simp only [wp, wo_nil, wo_p, onO_s, pv_t, pv_int, put_some, bi_add, pevP, getP, setP, Option.map_some])
        rw [wrap64 (by omega) (by omega)]
        refine Gh.mr (false :: false :: false :: true :: false :: false :: true :: true :: true :: true :: true :: true :: false :: false :: false :: false :: false :: false :: false :: false :: false :: false :: false :: false :: false :: false :: false :: false :: false :: false :: false :: false :: false :: false :: false :: false :: false :: false :: false :: false :: false :: false :: false :: false :: false :: false :: false :: false :: false :: false :: false :: false :: false :: false :: false :: false :: false :: false :: false :: false :: false :: false :: false :: false :: false :: false :: false :: false :: false :: false :: false :: false :: false :: false :: false :: false :: false :: false :: false :: false :: false :: false :: false :: false :: false :: false :: false :: false :: false :: false :: false :: false :: false :: false :: false :: false :: false :: false :: false :: false :: false :: false :: false :: false :: false :: false :: false :: false :: false :: false :: false :: false :: false :: false :: false :: false :: false :: false :: false :: false :: false :: false :: false :: false :: false :: false :: false :: []) [(0, 0), (1, 1), (5, 2)] 4 rfl ?_
        simp only [↓reduceIte, reduceCtorEq, Nat.reduceEqDiff, Bool.false_eq_true, renL, renP, renO, renH, renA, lkN, maskP, renL_L16, L16_snoc]
        exact ⟨m - (i + 1), by omega, i + 1, p ++ [loop[i % loop.length]], rfl, by omega, rfl, hnext, .inr ⟨by simp, by rw [List.length_append]; rfl⟩⟩
    · have him' : i = m := by omega
      subst him'
      repeat (refine PRun.wpn rfl ?_; simp only [wp, wo_nil, wo_p, onO_s, pv_t, put_some, bi_lss, pevP, getP, setP, Option.map_some, ↓reduceIte, ltB_iff, him])
      refine Gh.mask (false :: false :: false :: true :: false :: false :: true :: true :: true :: true :: true :: false :: false :: false :: false :: false :: false :: false :: false :: false :: false :: false :: false :: false :: false :: false :: false :: false :: false :: false :: false :: false :: false :: false :: false :: false :: false :: false :: false :: false :: false :: false :: false :: false :: false :: false :: false :: false :: false :: false :: false :: false :: false :: false :: false :: false :: false :: false :: false :: false :: false :: false :: false :: false :: false :: false :: false :: false :: false :: false :: false :: false :: false :: false :: false :: false :: false :: false :: false :: false :: false :: false :: false :: false :: false :: false :: false :: false :: false :: false :: false :: false :: false :: false :: false :: false :: false :: false :: false :: false :: false :: false :: false :: false :: false :: false :: false :: false :: false :: false :: false :: false :: false :: false :: false :: false :: false :: false :: false :: false :: false :: false :: false :: false :: false :: false :: false :: []) ?_
      exact ⟨rfl, p, hp, hpi⟩
  clear hpi hp p
  rintro t π ⟨rfl, p, hp, hpi⟩
  rcases hpi with ⟨rfl, rfl⟩ | ⟨hp0, rfl⟩
  · refine PRun.seqc (fun t π => t = (.junk :: .junk :: .junk :: .ptr 0 0 :: .junk :: .junk :: .lit (.bool false) :: .lit (.bool true) :: .lit (.int .i64 (k : Nat)) :: .lit (.int .i64 (m : Nat)) :: .ptr 1 0 :: .junk :: .junk :: .junk :: .junk :: .junk :: .junk :: .junk :: .junk :: .junk :: .junk :: .junk :: .junk :: .junk :: .junk :: .junk :: .junk :: .junk :: .junk :: .junk :: .junk :: .junk :: .junk :: .junk :: .junk :: .junk :: .junk :: .junk :: .junk :: .junk :: .junk :: .junk :: .junk :: .junk :: .junk :: .junk :: .junk :: .junk :: .junk :: .junk :: .junk :: .junk :: .junk :: .junk :: .junk :: .junk :: .junk :: .junk :: .junk :: .junk :: .junk :: .junk :: .junk :: .junk :: .junk :: .junk :: .junk :: .junk :: .junk :: .junk :: .junk :: .junk :: .junk :: .junk :: .junk :: .junk :: .junk :: .junk :: .junk :: .junk :: .junk :: .junk :: .junk :: .junk :: .junk :: .junk :: .junk :: .junk :: .junk :: .junk :: .junk :: .junk :: .junk :: .junk :: .junk :: .junk :: .junk :: .junk :: .junk :: .junk :: .junk :: .junk :: .junk :: .junk :: .junk :: .junk :: .junk :: .junk :: .junk :: .junk :: .junk :: .junk :: .junk :: .junk :: .junk :: .junk :: .junk :: .junk :: .junk :: .junk :: .junk :: .junk :: .junk :: .junk :: .junk :: .junk :: .junk :: []) ∧ ∃ q, q = more loop m (k * loop.length) ∧ ((q = [] ∧ π = ⟨4, [(1, .cells [.lit (.slice none 0 0), .lit (.slice none 0 0)] 25 2 true false []), (0, .cells [.sz (L16 stem) stem.length, .sz (L16 loop) loop.length] 25 2 true false [])]⟩) ∨ (q ≠ [] ∧ π = ⟨4, [(3, .cells (L16 q) 54 1 false false []), (1, .cells [.lit (.slice none 0 0), .loc 3 0 q.length q.length] 25 2 true false []), (0, .cells [.sz (L16 stem) stem.length, .sz (L16 loop) loop.length] 25 2 true false [])]⟩))) ?_ ?_
    · repeat (refine PRun.wpn rfl ?_; simp only [wp, wo_nil, wo_p, onO_s, pv_int, put_some, pevP, setP])
      refine PRun.gh (Gh.mask (false :: false :: false :: true :: false :: false :: true :: true :: true :: true :: true :: false :: true :: false :: false :: false :: false :: false :: false :: false :: false :: false :: false :: false :: false :: false :: false :: false :: false :: false :: false :: false :: false :: false :: false :: false :: false :: false :: false :: false :: false :: false :: false :: false :: false :: false :: false :: false :: false :: false :: false :: false :: false :: false :: false :: false :: false :: false :: false :: false :: false :: false :: false :: false :: false :: false :: false :: false :: false :: false :: false :: false :: false :: false :: false :: false :: false :: false :: false :: false :: false :: false :: false :: false :: false :: false :: false :: false :: false :: false :: false :: false :: false :: false :: false :: false :: false :: false :: false :: false :: false :: false :: false :: false :: false :: false :: false :: false :: false :: false :: false :: false :: false :: false :: false :: false :: false :: false :: false :: false :: false :: false :: false :: false :: false :: false :: false :: []) ?_)
      refine PRun.loopG (fun n t π => ∃ i q, t = (.junk :: .junk :: .junk :: .ptr 0 0 :: .junk :: .junk :: .lit (.bool false) :: .lit (.bool true) :: .lit (.int .i64 (k : Nat)) :: .lit (.int .i64 (m : Nat)) :: .ptr 1 0 :: .junk :: .lit (.int .i64 (i : Nat)) :: .junk :: .junk :: .junk :: .junk :: .junk :: .junk :: .junk :: .junk :: .junk :: .junk :: .junk :: .junk :: .junk :: .junk :: .junk :: .junk :: .junk :: .junk :: .junk :: .junk :: .junk :: .junk :: .junk :: .junk :: .junk :: .junk :: .junk :: .junk :: .junk :: .junk :: .junk :: .junk :: .junk :: .junk :: .junk :: .junk :: .junk :: .junk :: .junk :: .junk :: .junk :: .junk :: .junk :: .junk :: .junk :: .junk :: .junk :: .junk :: .junk :: .junk :: .junk :: .junk :: .junk :: .junk :: .junk :: .junk :: .junk :: .junk :: .junk :: .junk :: .junk :: .junk :: .junk :: .junk :: .junk :: .junk :: .junk :: .junk :: .junk :: .junk :: .junk :: .junk :: .junk :: .junk :: .junk :: .junk :: .junk :: .junk :: .junk :: .junk :: .junk :: .junk :: .junk :: .junk :: .junk :: .junk :: .junk :: .junk :: .junk :: .junk :: .junk :: .junk :: .junk :: .junk :: .junk :: .junk :: .junk :: .junk :: .junk :: .junk :: .junk :: .junk :: .junk :: .junk :: .junk :: .junk :: .junk :: .junk :: .junk :: .junk :: .junk :: .junk :: .junk :: .junk :: []) ∧ i ≤ k * loop.length ∧ n = k * loop.length - i ∧ q = more loop m i ∧ ((q = [] ∧ π = ⟨4, [(1, .cells [.lit (.slice none 0 0), .lit (.slice none 0 0)] 25 2 true false []), (0, .cells [.sz (L16 stem) stem.length, .sz (L16 loop) loop.length] 25 2 true false [])]⟩) ∨ (q ≠ [] ∧ π = ⟨4, [(3, .cells (L16 q) 54 1 false false []), (1, .cells [.lit (.slice none 0 0), .loc 3 0 q.length q.length] 25 2 true false []), (0, .cells [.sz (L16 stem) stem.length, .sz (L16 loop) loop.length] 25 2 true false [])]⟩))) ?_ (k * loop.length) _ _ ⟨0, [], rfl, by omega, by omega, by simp [more], .inl ⟨rfl, rfl⟩⟩
      rintro n t π ⟨i, q, rfl, hi, rfl, hq, hqi⟩
      by_cases him : ((i : Nat) : Int) < ((k * loop.length : Nat) : Int)
      · have f2 : (m + i) % loop.length < loop.length := Nat.mod_lt _ hl0
        have f1 : (((m + i) % loop.length : Nat) : Int) < (loop.length : Nat) := by omega
        have e5 : IntKind.i64.wrap ((m : Nat) + (i : Nat)) = ((m + i : Nat) : Int) := by rw [wrap64 (by omega) (by omega)]; omega
        have hnext : q ++ [loop[(m + i) % loop.length]] = more loop m (i + 1) := by
          rw [hq, more_succ]
          simp [List.getD, List.getElem?_eq_getElem f2]
        have hqlen : q.length ≤ 20000 := by rw [hq, more_len]; omega
        rcases hqi with ⟨rfl, rfl⟩ | ⟨hq0, rfl⟩
        · repeat (refine PRun.wpn rfl ?_; simp only [wp, wo_nil, wo_p, wo_r, onO_s, pv_t, put_some, bi_mul, bi_lss, pevP, pevR, getP, setP, look, PW.cs?, nthP, Option.map_some, Option.bind_some, ↓reduceIte, reduceCtorEq, Nat.zero_add, ltB_iff, e4, him])
          refine PDraw.stage (Nat.zero_le _) rfl ?_
          try dsimp only
          simp only [beq_self_eq_true, onX_s, onXN_s, onXI_s, rdX_e, ltN, ltD_s, onD_s, wx_nil, wx_cons, wx_p, wx_r, wx_n, wd_cons, wd_e, pv_t, ov_nil, ov_cons, ov_int, put_some, bi_add, pevP, pevR, pevN, getP, setP, nthO, fillP, spliceP, overP, plainP, isCell, look, PW.cs?, PW.push, nthP, baseP, ROp.base, List.length_cons, List.length_nil, Option.map_some, Option.bind_some, Nat.mul_one, Int.natCast_nonneg, Int.toNat_natCast, and_self, Bool.and_true, ↓reduceIte, reduceCtorEq, ltL, lt, Nat.reduceAdd, Option.isSome_some, Nat.zero_add, List.length_cons, List.length_nil, e5, bi_rem hl, tmod_nat, f1, L16_drop f2]
          refine PDE.any (Nat.zero_le _) (PE.det (by simp only [pv_t, pevE, getP, lenP, srcP, appendP, plainP, isCell, look, PW.cs?, PW.push, cutP, List.length_cons, List.length_nil, List.drop_zero, List.take_zero, List.take_succ_cons, Option.bind_some, Nat.mul_one, Bool.and_true, ↓reduceIte, Nat.reduceAdd, Nat.reduceMul, Nat.reduceLeDiff, Nat.reduceLT, Nat.zero_add, allPlain, Bool.false_or, Bool.not_true, List.length_cons, List.length_nil, gt_iff_lt, Nat.le_refl]; rfl) ?_)
          refine PDraw.stage (Nat.zero_le _) rfl ?_
          try dsimp only
          simp only [onX_s, onXI_s, onD_s, wx_nil, wx_cons, wx_p, wd_cons, wd_e, pv_t, put_some, pevP, getP, setP, nthO, Nat.zero_add]
          refine PDE.any (Nat.zero_le _) (PE.det rfl ?_)
          refine PDraw.last (Nat.zero_le _) rfl ?_
          try dsimp only
          simp only [wx_nil, pv_t, put_none, getP, ↓reduceIte, Nat.reduceEqDiff, setO, killO]
          repeat (refine PRun.wpn rfl ?_; simp only [wp, wo_nil, wo_p, onO_s, pv_t, pv_int, put_some, bi_add, pevP, getP, setP, Option.map_some])
          rw [wrap64 (by omega) (by omega)]
          refine Gh.mr (false :: false :: false :: true :: false :: false :: true :: true :: true :: true :: true :: false :: true :: false :: false :: false :: false :: false :: false :: false :: false :: false :: false :: false :: false :: false :: false :: false :: false :: false :: false :: false :: false :: false :: false :: false :: false :: false :: false :: false :: false :: false :: false :: false :: false :: false :: false :: false :: false :: false :: false :: false :: false :: false :: false :: false :: false :: false :: false :: false :: false :: false :: false :: false :: false :: false :: false :: false :: false :: false :: false :: false :: false :: false :: false :: false :: false :: false :: false :: false :: false :: false :: false :: false :: false :: false :: false :: false :: false :: false :: false :: false :: false :: false :: false :: false :: false :: false :: false :: false :: false :: false :: false :: false :: false :: false :: false :: false :: false :: false :: false :: false :: false :: false :: false :: false :: false :: false :: false :: false :: false :: false :: false :: false :: false :: false :: false :: []) [(0, 0), (1, 1), (2, 2), (5, 3)] 4 rfl ?_
          exact ⟨k * loop.length - (i + 1), by omega, i + 1, [loop[(m + i) % loop.length]], rfl, by omega, rfl, hnext, .inr ⟨by simp, rfl⟩⟩
        · have q1 : ¬ q.length + 1 ≤ q.length := by omega
          have q2 : ¬ 140737488355328 < (2 * (q.length + 1) + 768) * 2 := by omega
          repeat (refine PRun.wpn rfl ?_; simp only [wp, wo_nil, wo_p, wo_r, onO_s, pv_t, put_some, bi_mul, bi_lss, pevP, pevR, getP, setP, look, PW.cs?, nthP, Option.map_some, Option.bind_some, ↓reduceIte, reduceCtorEq, Nat.zero_add, ltB_iff, e4, him])
          refine PDraw.stage (Nat.zero_le _) rfl ?_
          try dsimp only
          simp only [beq_self_eq_true, onX_s, onXN_s, onXI_s, rdX_e, ltN, ltD_s, onD_s, wx_nil, wx_cons, wx_p, wx_r, wx_n, wd_cons, wd_e, pv_t, ov_nil, ov_cons, ov_int, put_some, bi_add, pevP, pevR, pevN, getP, setP, nthO, fillP, spliceP, overP, plainP, isCell, look, PW.cs?, PW.push, nthP, baseP, ROp.base, List.length_cons, List.length_nil, Option.map_some, Option.bind_some, Nat.mul_one, Int.natCast_nonneg, Int.toNat_natCast, and_self, Bool.and_true, ↓reduceIte, reduceCtorEq, ltL, lt, Nat.reduceAdd, Nat.reduceEqDiff, Option.isSome_some, Nat.zero_add, List.length_cons, List.length_nil, e5, bi_rem hl, tmod_nat, f1, L16_drop f2]
          refine PDE.any (Nat.zero_le _) (PE.det (by simp only [pv_t, pevE, getP, lenP, srcP, appendP, plainP, isCell, look, PW.cs?, PW.push, cutP, List.length_cons, List.length_nil, List.drop_zero, List.take_zero, List.take_succ_cons, Option.bind_some, Nat.mul_one, Bool.and_true, ↓reduceIte, Nat.reduceAdd, Nat.reduceEqDiff, Bool.false_eq_true, Nat.zero_add, allPlain, setO, Bool.or_self, Bool.not_true, List.length_cons, List.length_nil, gt_iff_lt, Nat.le_refl, q1, q2, L16_len, L16_take, bne_self_eq_false]; rfl) ?_)
          refine PDraw.stage (Nat.zero_le _) rfl ?_
          try dsimp only
          simp only [onX_s, onXI_s, onD_s, wx_nil, wx_cons, wx_p, wd_cons, wd_e, pv_t, put_some, pevP, getP, setP, nthO, Nat.zero_add]
          refine PDE.any (Nat.zero_le _) (PE.det rfl ?_)
          refine PDraw.last (Nat.zero_le _) rfl ?_
          try dsimp only
          simp only [wx_nil, pv_t, put_none, getP, ↓reduceIte, Nat.reduceEqDiff, setO, killO]
          repeat (refine PRun.wpn rfl ?_; simp only [wp, wo_nil, wo_p, onO_s, pv_t, pv_int, put_some, bi_add, pevP, getP, setP, Option.map_some])
          rw [wrap64 (by omega) (by omega)]
          refine Gh.mr (false :: false :: false :: true :: false :: false :: true :: true :: true :: true :: true :: false :: true :: false :: false :: false :: false :: false :: false :: false :: false :: false :: false :: false :: false :: false :: false :: false :: false :: false :: false :: false :: false :: false :: false :: false :: false :: false :: false :: false :: false :: false :: false :: false :: false :: false :: false :: false :: false :: false :: false :: false :: false :: false :: false :: false :: false :: false :: false :: false :: false :: false :: false :: false :: false :: false :: false :: false :: false :: false :: false :: false :: false :: false :: false :: false :: false :: false :: false :: false :: false :: false :: false :: false :: false :: false :: false :: false :: false :: false :: false :: false :: false :: false :: false :: false :: false :: false :: false :: false :: false :: false :: false :: false :: false :: false :: false :: false :: false :: false :: false :: false :: false :: false :: false :: false :: false :: false :: false :: false :: false :: false :: false :: false :: false :: false :: false :: []) [(0, 0), (1, 1), (2, 2), (5, 3)] 4 rfl ?_
          simp only [↓reduceIte, reduceCtorEq, Nat.reduceEqDiff, Bool.false_eq_true, renL, renP, renO, renH, renA, lkN, maskP, renL_L16, L16_snoc]
          exact ⟨k * loop.length - (i + 1), by omega, i + 1, q ++ [loop[(m + i) % loop.length]], rfl, by omega, rfl, hnext, .inr ⟨by simp, by rw [List.length_append]; rfl⟩⟩
      · have him' : i = k * loop.length := by omega
        subst him'
        rcases hqi with ⟨hq1, rfl⟩ | ⟨hq0, rfl⟩
        · repeat (refine PRun.wpn rfl ?_; simp only [wp, wo_nil, wo_p, wo_r, onO_s, pv_t, put_some, bi_mul, bi_lss, pevP, pevR, getP, setP, look, PW.cs?, nthP, Option.map_some, Option.bind_some, ↓reduceIte, reduceCtorEq, Nat.zero_add, ltB_iff, e4, him])
          refine Gh.mask (false :: false :: false :: true :: false :: false :: true :: true :: true :: true :: true :: false :: false :: false :: false :: false :: false :: false :: false :: false :: false :: false :: false :: false :: false :: false :: false :: false :: false :: false :: false :: false :: false :: false :: false :: false :: false :: false :: false :: false :: false :: false :: false :: false :: false :: false :: false :: false :: false :: false :: false :: false :: false :: false :: false :: false :: false :: false :: false :: false :: false :: false :: false :: false :: false :: false :: false :: false :: false :: false :: false :: false :: false :: false :: false :: false :: false :: false :: false :: false :: false :: false :: false :: false :: false :: false :: false :: false :: false :: false :: false :: false :: false :: false :: false :: false :: false :: false :: false :: false :: false :: false :: false :: false :: false :: false :: false :: false :: false :: false :: false :: false :: false :: false :: false :: false :: false :: false :: false :: false :: false :: false :: false :: false :: false :: false :: false :: []) ?_
          exact ⟨rfl, q, hq, .inl ⟨hq1, rfl⟩⟩
        · repeat (refine PRun.wpn rfl ?_; simp only [wp, wo_nil, wo_p, wo_r, onO_s, pv_t, put_some, bi_mul, bi_lss, pevP, pevR, getP, setP, look, PW.cs?, nthP, Option.map_some, Option.bind_some, ↓reduceIte, reduceCtorEq, Nat.zero_add, ltB_iff, e4, him])
          refine Gh.mask (false :: false :: false :: true :: false :: false :: true :: true :: true :: true :: true :: false :: false :: false :: false :: false :: false :: false :: false :: false :: false :: false :: false :: false :: false :: false :: false :: false :: false :: false :: false :: false :: false :: false :: false :: false :: false :: false :: false :: false :: false :: false :: false :: false :: false :: false :: false :: false :: false :: false :: false :: false :: false :: false :: false :: false :: false :: false :: false :: false :: false :: false :: false :: false :: false :: false :: false :: false :: false :: false :: false :: false :: false :: false :: false :: false :: false :: false :: false :: false :: false :: false :: false :: false :: false :: false :: false :: false :: false :: false :: false :: false :: false :: false :: false :: false :: false :: false :: false :: false :: false :: false :: false :: false :: false :: false :: false :: false :: false :: false :: false :: false :: false :: false :: false :: false :: false :: false :: false :: false :: false :: false :: false :: false :: false :: false :: false :: []) ?_
          exact ⟨rfl, q, hq, .inr ⟨hq0, rfl⟩⟩
    rintro t π ⟨rfl, q, hq, hqi⟩
    have hqne : q ≠ [] := fun h => by have := more_len loop m (k * loop.length); rw [← hq, h] at this; simp at this; omega
    rcases hqi with ⟨rfl, _⟩ | ⟨_, rfl⟩
    · exact absurd rfl hqne
    refine PRun.gh (Gh.freeze 3 rfl (pureL_L16 q) rfl ?_)
    simp only [List.drop_zero, ↓reduceIte, reduceCtorEq, Nat.reduceEqDiff, frzL, frzP, frzO, frzH, Nat.le_refl]
    rw [← hp, ← hq] at n2 s1
    repeat (refine PRun.wpn rfl ?_; simp only [wp, wo_r, wo_call, onO_s, pv_t, put_some, pevR, getP, setP, evsP, look, PW.cs?, cutP, List.length_cons, List.length_nil, List.drop_zero, List.take_zero, List.take_succ_cons, Option.map_some, Option.bind_some, Nat.zero_le, true_and, ↓reduceIte, reduceCtorEq, Nat.reduceAdd, Nat.zero_add, List.length_cons, List.length_nil, Nat.le_refl])
    refine .refl (PFun.to (n1) rfl (POps.wp ?_))
    simp only [wo_nil, wo_n, wo_st, onN_s, onE_s, ble0, pv_t, ov_nil, ov_cons, ov_nilS, put_some, put_none, pevN, pevE, getP, setP, spliceP, overP, plainP, look, PW.push, List.length_cons, List.length_nil, Option.map_some, Bool.and_true, ↓reduceIte, ltL, lt, Nat.reduceAdd, Bool.false_eq_true, Nat.zero_add, allPlain, PW.wr, setO, killO, Bool.or_self, Bool.not_true, List.length_cons, List.length_nil]
    repeat (refine PRun.wpn rfl ?_; simp only [wp, wo_r, wo_call, onO_s, pv_t, put_some, pevR, getP, setP, evsP, look, PW.cs?, cutP, List.length_cons, List.length_nil, List.drop_zero, List.take_zero, List.take_succ_cons, Option.map_some, Option.bind_some, Nat.zero_le, true_and, ↓reduceIte, Nat.reduceAdd, Nat.reduceEqDiff, Nat.zero_add, List.length_cons, List.length_nil, Nat.le_refl])
    refine .refl (PFun.to (n2.args (.cons (.agg (.cons .nil_sz (.cons .sl_sz .nil))) .nil)) rfl (POps.wp ?_))
    simp only [wo_nil, wo_n, wo_st, onN_s, onE_s, ble0, pv_t, ov_nil, ov_cons, ov_nilS, put_some, put_none, pevN, pevE, getP, setP, spliceP, overP, plainP, look, PW.push, List.length_cons, List.length_nil, Option.map_some, Bool.and_true, ↓reduceIte, ltL, lt, Nat.reduceAdd, Bool.false_eq_true, Nat.zero_add, allPlain, PW.wr, setO, killO, Bool.or_self, Bool.not_true, List.length_cons, List.length_nil]
    repeat (refine PRun.wpn rfl ?_; simp only [wp, wo_r, wo_call, onO_s, pv_t, put_some, pevR, getP, setP, evsP, look, PW.cs?, cutP, List.length_cons, List.length_nil, List.drop_zero, List.take_zero, List.take_succ_cons, Option.map_some, Option.bind_some, Nat.zero_le, true_and, ↓reduceIte, Nat.reduceAdd, Nat.reduceEqDiff, Nat.zero_add, List.length_cons, List.length_nil, Nat.le_refl])
    refine .refl (PFun.to (n3) rfl (POps.wp ?_))
    simp only [wo_nil, wo_n, wo_st, onN_s, onE_s, ble0, pv_t, ov_nil, ov_cons, ov_nilS, put_some, put_none, pevN, pevE, getP, setP, spliceP, overP, plainP, look, PW.push, List.length_cons, List.length_nil, Option.map_some, Bool.and_true, ↓reduceIte, ltL, lt, Nat.reduceAdd, Bool.false_eq_true, Nat.zero_add, allPlain, PW.wr, setO, killO, Bool.or_self, Bool.not_true, List.length_cons, List.length_nil]
    repeat (refine PRun.wpn rfl ?_; simp only [wp, wo_r, wo_call, onO_s, pv_t, put_some, pevR, getP, setP, evsP, look, PW.cs?, cutP, List.length_cons, List.length_nil, List.drop_zero, List.take_zero, List.take_succ_cons, Option.map_some, Option.bind_some, Nat.zero_le, true_and, ↓reduceIte, Nat.reduceAdd, Nat.reduceEqDiff, Nat.zero_add, List.length_cons, List.length_nil, Nat.le_refl])
    refine .refl (PFun.to (c1) rfl (POps.wp ?_))
    simp only [wo_nil, wo_p, onO_s, pv_t, put_some, pevP, getP, setP]
    repeat (refine PRun.wpn rfl ?_; simp only [wp, wo_r, wo_call, onO_s, pv_t, put_some, pevR, getP, setP, evsP, look, PW.cs?, cutP, List.length_cons, List.length_nil, List.drop_zero, List.take_zero, List.take_succ_cons, Option.map_some, Option.bind_some, Nat.zero_le, true_and, ↓reduceIte, Nat.reduceAdd, Nat.reduceEqDiff, Nat.zero_add, List.length_cons, List.length_nil, Nat.le_refl])
    refine .refl (PFun.to (c1) rfl (POps.wp ?_))
    simp only [wo_nil, wo_p, onO_s, pv_t, put_some, pevP, getP, setP]
    repeat (refine PRun.wpn rfl ?_; simp only [wp, wo_r, wo_call, onO_s, pv_t, put_some, pevR, getP, setP, evsP, look, PW.cs?, cutP, List.length_cons, List.length_nil, List.drop_zero, List.take_zero, List.take_succ_cons, Option.map_some, Option.bind_some, Nat.zero_le, true_and, ↓reduceIte, reduceCtorEq, Nat.reduceAdd, Nat.reduceEqDiff, Nat.zero_add, List.length_cons, List.length_nil, Nat.le_refl])
    refine .refl (PFun.to (s1.args (.cons (.refl _) (.cons (.agg (.cons .nil_sz (.cons .sl_sz .nil))) .nil))) rfl (POps.wp ?_))
    simp only [wo_nil, wo_p, onO_s, pv_t, put_some, pevP, getP, setP]
    repeat (refine PRun.wpn rfl ?_; simp only [wp])
    refine PDraw.stage (Nat.zero_le _) rfl ?_
    try dsimp only
    simp only [beq_self_eq_true, wanted_g, onX_s, onXG_t, onXI_s, rdX_e, ltN, ltD_s, onD_s, onDG_t, wx_nil, wx_cons, wx_p, wx_r, wx_g, wd_cons, wd_e, wd_g, pv_t, put_some, pevP, pevR, getP, setP, nthO, look, PW.cs?, cutP, baseP, ROp.base, List.length_cons, List.length_nil, List.drop_zero, List.take_zero, List.take_succ_cons, Option.map_some, Option.bind_some, Bool.and_true, ↓reduceIte, reduceCtorEq, Nat.reduceAdd, Nat.reduceEqDiff, Option.isSome_some, Nat.zero_add, List.length_cons, List.length_nil, Nat.le_refl]
    refine PDE.pure v1 rfl ?_
    refine PDraw.stage (Nat.zero_le _) rfl ?_
    try dsimp only
    simp only [beq_self_eq_true, wanted_g, onD_s, onDG_t, wx_nil, wd_cons, wd_e, wd_g, put_some, getP, setP, nthO]
    refine PDE.pure v2 rfl ?_
    refine PDraw.last (Nat.zero_le _) rfl ?_
    try dsimp only
    simp only [beq_self_eq_true, wanted_g, onX_s, onXG_t, onXI_s, wx_nil, wx_cons, wx_p, wx_g, pv_t, put_some, bi_leq, pevP, getP, setP, nthO, Option.map_some, leB_t hPl]
    repeat (refine PRun.wpn rfl ?_; simp only [wp, or_true, true_and, reduceCtorEq])
    exact .refl ⟨_, rfl, .refl _⟩
  · refine PRun.seqc (fun t π => t = (.junk :: .junk :: .junk :: .ptr 0 0 :: .junk :: .junk :: .lit (.bool false) :: .lit (.bool true) :: .lit (.int .i64 (k : Nat)) :: .lit (.int .i64 (m : Nat)) :: .ptr 1 0 :: .junk :: .junk :: .junk :: .junk :: .junk :: .junk :: .junk :: .junk :: .junk :: .junk :: .junk :: .junk :: .junk :: .junk :: .junk :: .junk :: .junk :: .junk :: .junk :: .junk :: .junk :: .junk :: .junk :: .junk :: .junk :: .junk :: .junk :: .junk :: .junk :: .junk :: .junk :: .junk :: .junk :: .junk :: .junk :: .junk :: .junk :: .junk :: .junk :: .junk :: .junk :: .junk :: .junk :: .junk :: .junk :: .junk :: .junk :: .junk :: .junk :: .junk :: .junk :: .junk :: .junk :: .junk :: .junk :: .junk :: .junk :: .junk :: .junk :: .junk :: .junk :: .junk :: .junk :: .junk :: .junk :: .junk :: .junk :: .junk :: .junk :: .junk :: .junk :: .junk :: .junk :: .junk :: .junk :: .junk :: .junk :: .junk :: .junk :: .junk :: .junk :: .junk :: .junk :: .junk :: .junk :: .junk :: .junk :: .junk :: .junk :: .junk :: .junk :: .junk :: .junk :: .junk :: .junk :: .junk :: .junk :: .junk :: .junk :: .junk :: .junk :: .junk :: .junk :: .junk :: .junk :: .junk :: .junk :: .junk :: .junk :: .junk :: .junk :: .junk :: .junk :: .junk :: .junk :: .junk :: []) ∧ ∃ q, q = more loop m (k * loop.length) ∧ ((q = [] ∧ π = ⟨4, [(2, .cells (L16 p) 54 1 false false []), (1, .cells [.loc 2 0 p.length p.length, .lit (.slice none 0 0)] 25 2 true false []), (0, .cells [.sz (L16 stem) stem.length, .sz (L16 loop) loop.length] 25 2 true false [])]⟩) ∨ (q ≠ [] ∧ π = ⟨4, [(3, .cells (L16 q) 54 1 false false []), (2, .cells (L16 p) 54 1 false false []), (1, .cells [.loc 2 0 p.length p.length, .loc 3 0 q.length q.length] 25 2 true false []), (0, .cells [.sz (L16 stem) stem.length, .sz (L16 loop) loop.length] 25 2 true false [])]⟩))) ?_ ?_
    · repeat (refine PRun.wpn rfl ?_; simp only [wp, wo_nil, wo_p, onO_s, pv_int, put_some, pevP, setP])
      refine PRun.gh (Gh.mask (false :: false :: false :: true :: false :: false :: true :: true :: true :: true :: true :: false :: true :: false :: false :: false :: false :: false :: false :: false :: false :: false :: false :: false :: false :: false :: false :: false :: false :: false :: false :: false :: false :: false :: false :: false :: false :: false :: false :: false :: false :: false :: false :: false :: false :: false :: false :: false :: false :: false :: false :: false :: false :: false :: false :: false :: false :: false :: false :: false :: false :: false :: false :: false :: false :: false :: false :: false :: false :: false :: false :: false :: false :: false :: false :: false :: false :: false :: false :: false :: false :: false :: false :: false :: false :: false :: false :: false :: false :: false :: false :: false :: false :: false :: false :: false :: false :: false :: false :: false :: false :: false :: false :: false :: false :: false :: false :: false :: false :: false :: false :: false :: false :: false :: false :: false :: false :: false :: false :: false :: false :: false :: false :: false :: false :: false :: false :: []) ?_)
      refine PRun.loopG (fun n t π => ∃ i q, t = (.junk :: .junk :: .junk :: .ptr 0 0 :: .junk :: .junk :: .lit (.bool false) :: .lit (.bool true) :: .lit (.int .i64 (k : Nat)) :: .lit (.int .i64 (m : Nat)) :: .ptr 1 0 :: .junk :: .lit (.int .i64 (i : Nat)) :: .junk :: .junk :: .junk :: .junk :: .junk :: .junk :: .junk :: .junk :: .junk :: .junk :: .junk :: .junk :: .junk :: .junk :: .junk :: .junk :: .junk :: .junk :: .junk :: .junk :: .junk :: .junk :: .junk :: .junk :: .junk :: .junk :: .junk :: .junk :: .junk :: .junk :: .junk :: .junk :: .junk :: .junk :: .junk :: .junk :: .junk :: .junk :: .junk :: .junk :: .junk :: .junk :: .junk :: .junk :: .junk :: .junk :: .junk :: .junk :: .junk :: .junk :: .junk :: .junk :: .junk :: .junk :: .junk :: .junk :: .junk :: .junk :: .junk :: .junk :: .junk :: .junk :: .junk :: .junk :: .junk :: .junk :: .junk :: .junk :: .junk :: .junk :: .junk :: .junk :: .junk :: .junk :: .junk :: .junk :: .junk :: .junk :: .junk :: .junk :: .junk :: .junk :: .junk :: .junk :: .junk :: .junk :: .junk :: .junk :: .junk :: .junk :: .junk :: .junk :: .junk :: .junk :: .junk :: .junk :: .junk :: .junk :: .junk :: .junk :: .junk :: .junk :: .junk :: .junk :: .junk :: .junk :: .junk :: .junk :: .junk :: .junk :: .junk :: .junk :: .junk :: .junk :: []) ∧ i ≤ k * loop.length ∧ n = k * loop.length - i ∧ q = more loop m i ∧ ((q = [] ∧ π = ⟨4, [(2, .cells (L16 p) 54 1 false false []), (1, .cells [.loc 2 0 p.length p.length, .lit (.slice none 0 0)] 25 2 true false []), (0, .cells [.sz (L16 stem) stem.length, .sz (L16 loop) loop.length] 25 2 true false [])]⟩) ∨ (q ≠ [] ∧ π = ⟨4, [(3, .cells (L16 q) 54 1 false false []), (2, .cells (L16 p) 54 1 false false []), (1, .cells [.loc 2 0 p.length p.length, .loc 3 0 q.length q.length] 25 2 true false []), (0, .cells [.sz (L16 stem) stem.length, .sz (L16 loop) loop.length] 25 2 true false [])]⟩))) ?_ (k * loop.length) _ _ ⟨0, [], rfl, by omega, by omega, by simp [more], .inl ⟨rfl, rfl⟩⟩
      rintro n t π ⟨i, q, rfl, hi, rfl, hq, hqi⟩
      by_cases him : ((i : Nat) : Int) < ((k * loop.length : Nat) : Int)
      · have f2 : (m + i) % loop.length < loop.length := Nat.mod_lt _ hl0
        have f1 : (((m + i) % loop.length : Nat) : Int) < (loop.length : Nat) := by omega
        have e5 : IntKind.i64.wrap ((m : Nat) + (i : Nat)) = ((m + i : Nat) : Int) := by rw [wrap64 (by omega) (by omega)]; omega
        have hnext : q ++ [loop[(m + i) % loop.length]] = more loop m (i + 1) := by
          rw [hq, more_succ]
          simp [List.getD, List.getElem?_eq_getElem f2]
        have hqlen : q.length ≤ 20000 := by rw [hq, more_len]; omega
        rcases hqi with ⟨rfl, rfl⟩ | ⟨hq0, rfl⟩
        · repeat (refine PRun.wpn rfl ?_; simp only [wp, wo_nil, wo_p, wo_r, onO_s, pv_t, put_some, bi_mul, bi_lss, pevP, pevR, getP, setP, look, PW.cs?, nthP, Option.map_some, Option.bind_some, ↓reduceIte, reduceCtorEq, Nat.zero_add, ltB_iff, e4, him])
          refine PDraw.stage (Nat.zero_le _) rfl ?_
          try dsimp only
          simp only [beq_self_eq_true, onX_s, onXN_s, onXI_s, rdX_e, ltN, ltD_s, onD_s, wx_nil, wx_cons, wx_p, wx_r, wx_n, wd_cons, wd_e, pv_t, ov_nil, ov_cons, ov_int, put_some, bi_add, pevP, pevR, pevN, getP, setP, nthO, fillP, spliceP, overP, plainP, isCell, look, PW.cs?, PW.push, nthP, baseP, ROp.base, List.length_cons, List.length_nil, Option.map_some, Option.bind_some, Nat.mul_one, Int.natCast_nonneg, Int.toNat_natCast, and_self, Bool.and_true, ↓reduceIte, reduceCtorEq, ltL, lt, Nat.reduceAdd, Nat.reduceEqDiff, Option.isSome_some, Nat.zero_add, List.length_cons, List.length_nil, e5, bi_rem hl, tmod_nat, f1, L16_drop f2]
          refine PDE.any (Nat.zero_le _) (PE.det (by simp only [pv_t, pevE, getP, lenP, srcP, appendP, plainP, isCell, look, PW.cs?, PW.push, cutP, List.length_cons, List.length_nil, List.drop_zero, List.take_zero, List.take_succ_cons, Option.bind_some, Nat.mul_one, Bool.and_true, ↓reduceIte, Nat.reduceAdd, Nat.reduceMul, Nat.reduceLeDiff, Nat.reduceLT, Nat.zero_add, allPlain, Bool.false_or, Bool.not_true, List.length_cons, List.length_nil, gt_iff_lt, Nat.le_refl]; rfl) ?_)
          refine PDraw.stage (Nat.zero_le _) rfl ?_
          try dsimp only
          simp only [onX_s, onXI_s, onD_s, wx_nil, wx_cons, wx_p, wd_cons, wd_e, pv_t, put_some, pevP, getP, setP, nthO, Nat.zero_add]
          refine PDE.any (Nat.zero_le _) (PE.det rfl ?_)
          refine PDraw.last (Nat.zero_le _) rfl ?_
          try dsimp only
          simp only [wx_nil, pv_t, put_none, getP, ↓reduceIte, Nat.reduceEqDiff, setO, killO]
          repeat (refine PRun.wpn rfl ?_; simp only [wp, wo_nil, wo_p, onO_s, pv_t, pv_int, put_some, bi_add, pevP, getP, setP, Option.map_some])
          rw [wrap64 (by omega) (by omega)]
          refine Gh.mr (false :: false :: false :: true :: false :: false :: true :: true :: true :: true :: true :: false :: true :: false :: false :: false :: false :: false :: false :: false :: false :: false :: false :: false :: false :: false :: false :: false :: false :: false :: false :: false :: false :: false :: false :: false :: false :: false :: false :: false :: false :: false :: false :: false :: false :: false :: false :: false :: false :: false :: false :: false :: false :: false :: false :: false :: false :: false :: false :: false :: false :: false :: false :: false :: false :: false :: false :: false :: false :: false :: false :: false :: false :: false :: false :: false :: false :: false :: false :: false :: false :: false :: false :: false :: false :: false :: false :: false :: false :: false :: false :: false :: false :: false :: false :: false :: false :: false :: false :: false :: false :: false :: false :: false :: false :: false :: false :: false :: false :: false :: false :: false :: false :: false :: false :: false :: false :: false :: false :: false :: false :: false :: false :: false :: false :: false :: false :: []) [(0, 0), (1, 1), (2, 2), (5, 3)] 4 rfl ?_
          simp only [↓reduceIte, reduceCtorEq, Nat.reduceEqDiff, Bool.false_eq_true, renL, renP, renO, renH, renA, lkN, maskP, renL_L16]
          exact ⟨k * loop.length - (i + 1), by omega, i + 1, [loop[(m + i) % loop.length]], rfl, by omega, rfl, hnext, .inr ⟨by simp, rfl⟩⟩
        · have q1 : ¬ q.length + 1 ≤ q.length := by omega
          have q2 : ¬ 140737488355328 < (2 * (q.length + 1) + 768) * 2 := by omega
          repeat (refine PRun.wpn rfl ?_; simp only [wp, wo_nil, wo_p, wo_r, onO_s, pv_t, put_some, bi_mul, bi_lss, pevP, pevR, getP, setP, look, PW.cs?, nthP, Option.map_some, Option.bind_some, ↓reduceIte, reduceCtorEq, Nat.zero_add, ltB_iff, e4, him])
          refine PDraw.stage (Nat.zero_le _) rfl ?_
          try dsimp only
          simp only [beq_self_eq_true, onX_s, onXN_s, onXI_s, rdX_e, ltN, ltD_s, onD_s, wx_nil, wx_cons, wx_p, wx_r, wx_n, wd_cons, wd_e, pv_t, ov_nil, ov_cons, ov_int, put_some, bi_add, pevP, pevR, pevN, getP, setP, nthO, fillP, spliceP, overP, plainP, isCell, look, PW.cs?, PW.push, nthP, baseP, ROp.base, List.length_cons, List.length_nil, Option.map_some, Option.bind_some, Nat.mul_one, Int.natCast_nonneg, Int.toNat_natCast, and_self, Bool.and_true, ↓reduceIte, reduceCtorEq, ltL, lt, Nat.reduceAdd, Nat.reduceEqDiff, Option.isSome_some, Nat.zero_add, List.length_cons, List.length_nil, e5, bi_rem hl, tmod_nat, f1, L16_drop f2]
          refine PDE.any (Nat.zero_le _) (PE.det (by simp only [pv_t, pevE, getP, lenP, srcP, appendP, plainP, isCell, look, PW.cs?, PW.push, cutP, List.length_cons, List.length_nil, List.drop_zero, List.take_zero, List.take_succ_cons, Option.bind_some, Nat.mul_one, Bool.and_true, ↓reduceIte, Nat.reduceAdd, Nat.reduceEqDiff, Bool.false_eq_true, Nat.zero_add, allPlain, setO, Bool.or_self, Bool.not_true, List.length_cons, List.length_nil, gt_iff_lt, Nat.le_refl, q1, q2, L16_len, L16_take, bne_self_eq_false]; rfl) ?_)
          refine PDraw.stage (Nat.zero_le _) rfl ?_
          try dsimp only
          simp only [onX_s, onXI_s, onD_s, wx_nil, wx_cons, wx_p, wd_cons, wd_e, pv_t, put_some, pevP, getP, setP, nthO, Nat.zero_add]
          refine PDE.any (Nat.zero_le _) (PE.det rfl ?_)
          refine PDraw.last (Nat.zero_le _) rfl ?_
          try dsimp only
          simp only [wx_nil, pv_t, put_none, getP, ↓reduceIte, Nat.reduceEqDiff, setO, killO]
          repeat (refine PRun.wpn rfl ?_; simp only [wp, wo_nil, wo_p, onO_s, pv_t, pv_int, put_some, bi_add, pevP, getP, setP, Option.map_some])
          rw [wrap64 (by omega) (by omega)]
          refine Gh.mr (false :: false :: false :: true :: false :: false :: true :: true :: true :: true :: true :: false :: true :: false :: false :: false :: false :: false :: false :: false :: false :: false :: false :: false :: false :: false :: false :: false :: false :: false :: false :: false :: false :: false :: false :: false :: false :: false :: false :: false :: false :: false :: false :: false :: false :: false :: false :: false :: false :: false :: false :: false :: false :: false :: false :: false :: false :: false :: false :: false :: false :: false :: false :: false :: false :: false :: false :: false :: false :: false :: false :: false :: false :: false :: false :: false :: false :: false :: false :: false :: false :: false :: false :: false :: false :: false :: false :: false :: false :: false :: false :: false :: false :: false :: false :: false :: false :: false :: false :: false :: false :: false :: false :: false :: false :: false :: false :: false :: false :: false :: false :: false :: false :: false :: false :: false :: false :: false :: false :: false :: false :: false :: false :: false :: false :: false :: false :: []) [(0, 0), (1, 1), (2, 2), (5, 3)] 4 rfl ?_
          simp only [↓reduceIte, reduceCtorEq, Nat.reduceEqDiff, Bool.false_eq_true, renL, renP, renO, renH, renA, lkN, maskP, renL_L16, L16_snoc]
          exact ⟨k * loop.length - (i + 1), by omega, i + 1, q ++ [loop[(m + i) % loop.length]], rfl, by omega, rfl, hnext, .inr ⟨by simp, by rw [List.length_append]; rfl⟩⟩
      · have him' : i = k * loop.length := by omega
        subst him'
        rcases hqi with ⟨hq1, rfl⟩ | ⟨hq0, rfl⟩
        · repeat (refine PRun.wpn rfl ?_; simp only [wp, wo_nil, wo_p, wo_r, onO_s, pv_t, put_some, bi_mul, bi_lss, pevP, pevR, getP, setP, look, PW.cs?, nthP, Option.map_some, Option.bind_some, ↓reduceIte, reduceCtorEq, Nat.zero_add, ltB_iff, e4, him])
          refine Gh.mask (false :: false :: false :: true :: false :: false :: true :: true :: true :: true :: true :: false :: false :: false :: false :: false :: false :: false :: false :: false :: false :: false :: false :: false :: false :: false :: false :: false :: false :: false :: false :: false :: false :: false :: false :: false :: false :: false :: false :: false :: false :: false :: false :: false :: false :: false :: false :: false :: false :: false :: false :: false :: false :: false :: false :: false :: false :: false :: false :: false :: false :: false :: false :: false :: false :: false :: false :: false :: false :: false :: false :: false :: false :: false :: false :: false :: false :: false :: false :: false :: false :: false :: false :: false :: false :: false :: false :: false :: false :: false :: false :: false :: false :: false :: false :: false :: false :: false :: false :: false :: false :: false :: false :: false :: false :: false :: false :: false :: false :: false :: false :: false :: false :: false :: false :: false :: false :: false :: false :: false :: false :: false :: false :: false :: false :: false :: false :: []) ?_
          exact ⟨rfl, q, hq, .inl ⟨hq1, rfl⟩⟩
        · repeat (refine PRun.wpn rfl ?_; simp only [wp, wo_nil, wo_p, wo_r, onO_s, pv_t, put_some, bi_mul, bi_lss, pevP, pevR, getP, setP, look, PW.cs?, nthP, Option.map_some, Option.bind_some, ↓reduceIte, reduceCtorEq, Nat.zero_add, ltB_iff, e4, him])
          refine Gh.mask (false :: false :: false :: true :: false :: false :: true :: true :: true :: true :: true :: false :: false :: false :: false :: false :: false :: false :: false :: false :: false :: false :: false :: false :: false :: false :: false :: false :: false :: false :: false :: false :: false :: false :: false :: false :: false :: false :: false :: false :: false :: false :: false :: false :: false :: false :: false :: false :: false :: false :: false :: false :: false :: false :: false :: false :: false :: false :: false :: false :: false :: false :: false :: false :: false :: false :: false :: false :: false :: false :: false :: false :: false :: false :: false :: false :: false :: false :: false :: false :: false :: false :: false :: false :: false :: false :: false :: false :: false :: false :: false :: false :: false :: false :: false :: false :: false :: false :: false :: false :: false :: false :: false :: false :: false :: false :: false :: false :: false :: false :: false :: false :: false :: false :: false :: false :: false :: false :: false :: false :: false :: false :: false :: false :: false :: false :: false :: []) ?_
          exact ⟨rfl, q, hq, .inr ⟨hq0, rfl⟩⟩
    rintro t π ⟨rfl, q, hq, hqi⟩
    have hqne : q ≠ [] := fun h => by have := more_len loop m (k * loop.length); rw [← hq, h] at this; simp at this; omega
    rcases hqi with ⟨rfl, _⟩ | ⟨_, rfl⟩
    · exact absurd rfl hqne
    refine PRun.gh (Gh.freeze 3 rfl (pureL_L16 q) rfl ?_)
    simp only [List.drop_zero, ↓reduceIte, reduceCtorEq, Nat.reduceEqDiff, frzL, frzP, frzO, frzH, Nat.le_refl, frzL_L16]
    refine PRun.gh (Gh.freeze 2 rfl (pureL_L16 p) rfl ?_)
    simp only [List.drop_zero, ↓reduceIte, reduceCtorEq, Nat.reduceEqDiff, frzL, frzP, frzO, frzH, Nat.le_refl]
    rw [← hp, ← hq] at n2 s1
    repeat (refine PRun.wpn rfl ?_; simp only [wp, wo_r, wo_call, onO_s, pv_t, put_some, pevR, getP, setP, evsP, look, PW.cs?, cutP, List.length_cons, List.length_nil, List.drop_zero, List.take_zero, List.take_succ_cons, Option.map_some, Option.bind_some, Nat.zero_le, true_and, ↓reduceIte, reduceCtorEq, Nat.reduceAdd, Nat.zero_add, List.length_cons, List.length_nil, Nat.le_refl])
    refine .refl (PFun.to (n1) rfl (POps.wp ?_))
    simp only [wo_nil, wo_n, wo_st, onN_s, onE_s, ble0, pv_t, ov_nil, ov_cons, ov_nilS, put_some, put_none, pevN, pevE, getP, setP, spliceP, overP, plainP, look, PW.push, List.length_cons, List.length_nil, Option.map_some, Bool.and_true, ↓reduceIte, ltL, lt, Nat.reduceAdd, Bool.false_eq_true, Nat.zero_add, allPlain, PW.wr, setO, killO, Bool.or_self, Bool.not_true, List.length_cons, List.length_nil]
    repeat (refine PRun.wpn rfl ?_; simp only [wp, wo_r, wo_call, onO_s, pv_t, put_some, pevR, getP, setP, evsP, look, PW.cs?, cutP, List.length_cons, List.length_nil, List.drop_zero, List.take_zero, List.take_succ_cons, Option.map_some, Option.bind_some, Nat.zero_le, true_and, ↓reduceIte, Nat.reduceAdd, Nat.reduceEqDiff, Nat.zero_add, List.length_cons, List.length_nil, Nat.le_refl])
    refine .refl (PFun.to (n2.args (.cons (.agg (.cons .sl_sz (.cons .sl_sz .nil))) .nil)) rfl (POps.wp ?_))
    simp only [wo_nil, wo_n, wo_st, onN_s, onE_s, ble0, pv_t, ov_nil, ov_cons, ov_nilS, put_some, put_none, pevN, pevE, getP, setP, spliceP, overP, plainP, look, PW.push, List.length_cons, List.length_nil, Option.map_some, Bool.and_true, ↓reduceIte, ltL, lt, Nat.reduceAdd, Bool.false_eq_true, Nat.zero_add, allPlain, PW.wr, setO, killO, Bool.or_self, Bool.not_true, List.length_cons, List.length_nil]
    repeat (refine PRun.wpn rfl ?_; simp only [wp, wo_r, wo_call, onO_s, pv_t, put_some, pevR, getP, setP, evsP, look, PW.cs?, cutP, List.length_cons, List.length_nil, List.drop_zero, List.take_zero, List.take_succ_cons, Option.map_some, Option.bind_some, Nat.zero_le, true_and, ↓reduceIte, Nat.reduceAdd, Nat.reduceEqDiff, Nat.zero_add, List.length_cons, List.length_nil, Nat.le_refl])
    refine .refl (PFun.to (n3) rfl (POps.wp ?_))
    simp only [wo_nil, wo_n, wo_st, onN_s, onE_s, ble0, pv_t, ov_nil, ov_cons, ov_nilS, put_some, put_none, pevN, pevE, getP, setP, spliceP, overP, plainP, look, PW.push, List.length_cons, List.length_nil, Option.map_some, Bool.and_true, ↓reduceIte, ltL, lt, Nat.reduceAdd, Bool.false_eq_true, Nat.zero_add, allPlain, PW.wr, setO, killO, Bool.or_self, Bool.not_true, List.length_cons, List.length_nil]
    repeat (refine PRun.wpn rfl ?_; simp only [wp, wo_r, wo_call, onO_s, pv_t, put_some, pevR, getP, setP, evsP, look, PW.cs?, cutP, List.length_cons, List.length_nil, List.drop_zero, List.take_zero, List.take_succ_cons, Option.map_some, Option.bind_some, Nat.zero_le, true_and, ↓reduceIte, Nat.reduceAdd, Nat.reduceEqDiff, Nat.zero_add, List.length_cons, List.length_nil, Nat.le_refl])
    refine .refl (PFun.to (c1) rfl (POps.wp ?_))
    simp only [wo_nil, wo_p, onO_s, pv_t, put_some, pevP, getP, setP]
    repeat (refine PRun.wpn rfl ?_; simp only [wp, wo_r, wo_call, onO_s, pv_t, put_some, pevR, getP, setP, evsP, look, PW.cs?, cutP, List.length_cons, List.length_nil, List.drop_zero, List.take_zero, List.take_succ_cons, Option.map_some, Option.bind_some, Nat.zero_le, true_and, ↓reduceIte, Nat.reduceAdd, Nat.reduceEqDiff, Nat.zero_add, List.length_cons, List.length_nil, Nat.le_refl])
    refine .refl (PFun.to (c1) rfl (POps.wp ?_))
    simp only [wo_nil, wo_p, onO_s, pv_t, put_some, pevP, getP, setP]
    repeat (refine PRun.wpn rfl ?_; simp only [wp, wo_r, wo_call, onO_s, pv_t, put_some, pevR, getP, setP, evsP, look, PW.cs?, cutP, List.length_cons, List.length_nil, List.drop_zero, List.take_zero, List.take_succ_cons, Option.map_some, Option.bind_some, Nat.zero_le, true_and, ↓reduceIte, reduceCtorEq, Nat.reduceAdd, Nat.reduceEqDiff, Nat.zero_add, List.length_cons, List.length_nil, Nat.le_refl])
    refine .refl (PFun.to (s1.args (.cons (.refl _) (.cons (.agg (.cons .sl_sz (.cons .sl_sz .nil))) .nil))) rfl (POps.wp ?_))
    simp only [wo_nil, wo_p, onO_s, pv_t, put_some, pevP, getP, setP]
    repeat (refine PRun.wpn rfl ?_; simp only [wp])
    refine PDraw.stage (Nat.zero_le _) rfl ?_
    try dsimp only
    simp only [beq_self_eq_true, wanted_g, onX_s, onXG_t, onXI_s, rdX_e, ltN, ltD_s, onD_s, onDG_t, wx_nil, wx_cons, wx_p, wx_r, wx_g, wd_cons, wd_e, wd_g, pv_t, put_some, pevP, pevR, getP, setP, nthO, look, PW.cs?, cutP, baseP, ROp.base, List.length_cons, List.length_nil, List.drop_zero, List.take_zero, List.take_succ_cons, Option.map_some, Option.bind_some, Bool.and_true, ↓reduceIte, reduceCtorEq, Nat.reduceAdd, Nat.reduceEqDiff, Option.isSome_some, Nat.zero_add, List.length_cons, List.length_nil, Nat.le_refl]
    refine PDE.pure v1 rfl ?_
    refine PDraw.stage (Nat.zero_le _) rfl ?_
    try dsimp only
    simp only [beq_self_eq_true, wanted_g, onD_s, onDG_t, wx_nil, wd_cons, wd_e, wd_g, put_some, getP, setP, nthO]
    refine PDE.pure v2 rfl ?_
    refine PDraw.last (Nat.zero_le _) rfl ?_
    try dsimp only
    simp only [beq_self_eq_true, wanted_g, onX_s, onXG_t, onXI_s, wx_nil, wx_cons, wx_p, wx_g, pv_t, put_some, bi_leq, pevP, getP, setP, nthO, Option.map_some, leB_t hPl]
    repeat (refine PRun.wpn rfl ?_; simp only [wp, or_true, true_and, reduceCtorEq])
    exact .refl ⟨_, rfl, .refl _⟩
end
end Go.Proofs.YtkldgoapompinaaDoor.Ai

namespace Go.Proofs.YtkldgoapompinaaDoor.Ai
set_option linter.unusedSimpArgs false
set_option linter.unusedVariables false
theorem more_getD (loop : List Int) (m n j : Nat) (h : j < n) : (more loop m n).getD j 0 = loop.getD ((m + j) % loop.length) 0 := by
  simp [more, List.getD, h]
theorem law_N (w : Wd) (hl : 0 < w.loop.length) (k m : Nat) (hk : 0 < k) : normal ⟨w.stem ++ more w.loop 0 m, more w.loop m (k * w.loop.length)⟩ = normal w := by
  have hkl : 0 < k * w.loop.length := Nat.mul_pos hk hl
  refine normal_eq (by simp only [more_len]; exact hkl) hl fun i => ?_
  simp only [dn, List.length_append, more_len]
  by_cases h1 : i < w.stem.length
  · rw [if_pos (by omega), if_pos h1, getD_left _ _ _ h1]
  · rw [if_neg h1]
    by_cases h2 : i < w.stem.length + m
    · rw [if_pos h2, getD_right _ _ _ (by omega), more_getD _ _ _ _ (by omega), Nat.zero_add]
    · rw [if_neg h2, more_getD _ _ _ _ (Nat.mod_lt _ hkl)]
      congr 1
      rw [← Nat.add_mod_mod, Nat.mod_mod_of_dvd _ (Nat.dvd_mul_left _ _), Nat.add_mod_mod]
      congr 1; omega
theorem law_NN (w : Wd) (hl : 0 < w.loop.length) : normal (normal w) = normal w := by
  have h1 := normal_nf (normal w) (normal_pos w hl)
  have e : dn (normal w) = dn w := funext (normal_den w hl)
  rw [e] at h1
  exact h1.unique (normal_nf w hl)
theorem law_P (w : Wd) : places (normal w) ≤ places w := by
  have h1 := normal_stem w
  have h2 := normal_loop w
  unfold places
  split
  · omega
  · split <;> omega
section
open Go
variable {C : Ctx} (hm : C.P.follows .mixedOrders = true) (hC : TabOK C.P C.ng C.ts Tryd.tab)
include hm hC
theorem wnormal_top (hw : PFun C 12 [] (.lit (.bool true))) (w : Wd) (times mo : Int) (h0 : -9223372036854775808 ≤ times) (h0' : times < 9223372036854775808) (h9 : -9223372036854775808 ≤ mo) (h9' : mo < 9223372036854775808) (h1 : w.stem.length < 2 ^ 61) (h2 : w.loop.length < 2 ^ 61) :
    PTop C Tryd.tab 6 [wrdP w, .lit (.int .i64 times), .lit (.int .i64 mo)] (.lit (.bool true)) :=
  wnormal_ok hm hC hw w times mo h0 h0' h9 h9' h1 h2 (fun hl k m hk => law_N w hl k m hk) (fun hl => law_NN w hl) (law_P w)
end
end Go.Proofs.YtkldgoapompinaaDoor.Ai
