/- Clocks come back from their bytes: the law's walk. -/
import Derived.Test.YtfcbpdokilidgaaVsC1
namespace Go.Proofs.Ytfcbpdokilidgaa
open Go Go.RowKit
set_option linter.unusedVariables false
set_option linter.unusedSimpArgs false
--CALL 29 awake_s _
--CALL 34 take_s hT (by omega) _
--CALL 34 take_s hT2 (by simp only [List.length_append]; omega) _
--CALL 32 put_s hP _
--CALL 32 put_s hP2 _
--CALL 38 right_s _ _
--CALL 37 same_s _ _ _
--LEM her, hrt, hf, hnl, ha1, ha2

set_option maxRecDepth 100000 in
set_option maxHeartbeats 4000000 in
theorem back_w10 (p c t : Clk) (s : List UInt8) (n : Nat) (er : Int) (l : List UInt8) (f : Int) (hs : s.length ≤ 500) (hT : ctakeF p s = (t, n, er)) (her : ¬ er = 0) (hP : True) (hrt : True) (hnl : True) (hP2 : cputF p c = (l, 0)) (hT2 : ctakeF p (l ++ s) = (c, l.length, 0)) (hf : True) (hl : l.length ≤ 30) (ha1 : l.length ≤ 70368744177664) (ha2 : l.length + s.length ≤ 70368744177664) :
    Sp Try.prog K0 8 [clkV p, clkV c, .sl 1 (bs s)] [] fun v h => v = .sc (.bool true) := by
  refine Sp.of_body Try.func8 rfl ?_
  intro Q hQ
  simp only [List.replicate, List.length_cons, List.length_nil, Try.ntmps8, Nat.reduceAdd, Nat.reduceSub, List.cons_append, List.nil_append]
  repeat' (first
    | (refine WPV.seqK ?_; intro N hN)
    | refine WPV.block ?_
    | refine WPV.scope ?_
    | refine WPV.skip ?_
    | refine WPV.label ?_
    | refine WPV.exit ?_
    | refine WPV.ret ?_
    | (refine WPV.regionK ?_; intro N hN)
    | (refine WPV.drawK (by kernel_rfl) (by kernel_rfl) ?_; intro N hN)
    | (refine WPV.condK ?_; intro A hA B hB)
    | ((first | refine opsV.here ?_ | refine drawV.here ?_ | refine resO.here ?_ | refine stepO.here ?_ | refine brO.here ?_); (first | simp (config := {contextual := true}) only [opsV_nil, opsV_cons, guardO_true, guardO_false, guardD_true, guardD_false, resO_val, resO_call, resO_no, wantedV, yieldedV, Option.some.injEq, exists_eq_left', forall_const, reduceCtorEq, false_imp_iff, and_true, true_and, true_imp_iff, opV, evV, evArgs, evParts, evOpt, constV, flat, cellsV, isOne, List.all_cons, List.all_nil, Bool.and_self, Bool.true_and, Bool.and_true, if_true, if_false, List.getElem?_cons_zero, List.getElem?_cons_succ, List.getElem?_nil, resOf, putV, List.set_cons_zero, List.set_cons_succ, List.set_nil, thenV, blockV, loadV, storeV, List.drop_succ_cons, List.drop_zero, List.take_succ_cons, List.take_zero, List.drop_nil, List.take_nil, Nat.zero_add, Nat.add_zero, Nat.le_refl, binV, scBin, intBin, strBin, Option.map_some, Option.map_none, unV, indexV, indexAtV, intOfV, sliceV, boundOf, esOf, lenV, convV, callV, appendV, srcOf, buildSliceV, partsEs, toDs, toD, fillV, placeOf, partV, eqV, eqInts, resultV, resultsV, Nat.reduceAdd, Nat.reduceSub, Nat.reduceMul, Nat.reduceLT, Nat.reduceLeDiff, Int.reduceLT, Int.reduceLE, Int.reduceEq, Int.reduceNe, Int.reduceAdd, Int.reduceSub, Int.reduceMul, Int.reduceToNat, Int.reduceNeg, decide_true, decide_false, decide_not, Bool.not_true, Bool.not_false, List.length_cons, List.length_nil, List.cons_append, List.nil_append, List.append_nil, List.replicate_succ, List.replicate_zero, List.replicate, Option.bind_some, Option.bind_none, beq_self_eq_true, Nat.lt_irrefl, false_and, and_false, or_false, false_or, or_true, true_or, exists_const, exists_false, not_true_eq_false, not_false_eq_true, Bool.false_eq_true, Option.isSome_some, Option.isSome_none, exists_eq_left, ne_eq, Bool.not_eq_true, Bool.true_eq_false, Bool.false_and, Bool.and_false, Bool.or_self, Bool.or_true, Bool.or_false, Bool.true_or, Bool.false_or, eq_self, List.mem_cons, List.not_mem_nil, List.map_cons, List.map_nil, Array.size, List.size_toArray, List.getElem?_toArray, List.all_toArray, Int.reducePow, Nat.reducePow, Nat.reduceEqDiff, Nat.reduceBEq, Int.reduceBEq, Int.reduceBNe, Bool.not_not, gt_iff_lt, ge_iff_le, Int.cast_ofNat_Int, V.d.injEq, D.sc.injEq, Value.bool.injEq, Option.some_beq_some, beq_true, beq_false, Bool.not_eq_true', decide_eq_true_eq, decide_eq_false_iff_not, Int.not_lt, Int.not_le, brO_some, Br_true, Br_false, Br_not, boolV, Option.map, wr_i64, wr_u64, wr_u32, wr_u8, Int.reduceLT, Int.toNat_one, Int.toNat_zero, Nat.one_mul, Nat.mul_one, Nat.zero_mul, Nat.mul_zero, Int.reduceNegSucc, trimY, drawV_nil, drawV_cons, stepO_pure, stepO_read, stepO_write, stepO_new, stepO_app, stepO_call, stepO_no, readO, writeO, appO, opL, pureL, bs_len, bs_app, bs_take, bs_drop, Int.toNat_natCast, appBound, Nat.zero_le, Int.natCast_nonneg, Nat.mul_one, Int.le_refl, cells_int, cells_bool, cells_string, cells_slice, cells_agg, all_lit, flat, sz_2, by_2, ag_2, kn_2, it_2, pt_2, zv_2, zt_2, Try.underlying2, sz_3, by_3, ag_3, kn_3, it_3, pt_3, zv_3, zt_3, Try.underlying3, sz_4, by_4, ag_4, kn_4, it_4, pt_4, zv_4, zt_4, Try.underlying4, sz_5, by_5, ag_5, kn_5, it_5, pt_5, zv_5, zt_5, Try.underlying5, sz_33, by_33, ag_33, kn_33, it_33, pt_33, zv_33, zt_33, Try.underlying33, sz_54, by_54, ag_54, kn_54, it_54, pt_54, el_54, pl_54, sh_54, zv_54, zt_54, Try.underlying54, Try.eqGuardType54, sz_56, by_56, ag_56, kn_56, it_56, pt_56, zv_56, zt_56, Try.underlying56, her, hrt, hf, hnl, ha1, ha2, h0] | simp (config := {contextual := true}) only [opsV_nil, opsV_cons, guardO_true, guardO_false, guardD_true, guardD_false, resO_val, resO_call, resO_no, wantedV, yieldedV, Option.some.injEq, exists_eq_left', forall_const, reduceCtorEq, false_imp_iff, and_true, true_and, true_imp_iff, opV, evV, evArgs, evParts, evOpt, constV, flat, cellsV, isOne, List.all_cons, List.all_nil, Bool.and_self, Bool.true_and, Bool.and_true, if_true, if_false, List.getElem?_cons_zero, List.getElem?_cons_succ, List.getElem?_nil, resOf, putV, List.set_cons_zero, List.set_cons_succ, List.set_nil, thenV, blockV, loadV, storeV, List.drop_succ_cons, List.drop_zero, List.take_succ_cons, List.take_zero, List.drop_nil, List.take_nil, Nat.zero_add, Nat.add_zero, Nat.le_refl, binV, scBin, intBin, strBin, Option.map_some, Option.map_none, unV, indexV, indexAtV, intOfV, sliceV, boundOf, esOf, lenV, convV, callV, appendV, srcOf, buildSliceV, partsEs, toDs, toD, fillV, placeOf, partV, eqV, eqInts, resultV, resultsV, Nat.reduceAdd, Nat.reduceSub, Nat.reduceMul, Nat.reduceLT, Nat.reduceLeDiff, Int.reduceLT, Int.reduceLE, Int.reduceEq, Int.reduceNe, Int.reduceAdd, Int.reduceSub, Int.reduceMul, Int.reduceToNat, Int.reduceNeg, decide_true, decide_false, decide_not, Bool.not_true, Bool.not_false, List.length_cons, List.length_nil, List.cons_append, List.nil_append, List.append_nil, List.replicate_succ, List.replicate_zero, List.replicate, Option.bind_some, Option.bind_none, beq_self_eq_true, Nat.lt_irrefl, false_and, and_false, or_false, false_or, or_true, true_or, exists_const, exists_false, not_true_eq_false, not_false_eq_true, Bool.false_eq_true, Option.isSome_some, Option.isSome_none, exists_eq_left, ne_eq, Bool.not_eq_true, Bool.true_eq_false, Bool.false_and, Bool.and_false, Bool.or_self, Bool.or_true, Bool.or_false, Bool.true_or, Bool.false_or, eq_self, List.mem_cons, List.not_mem_nil, List.map_cons, List.map_nil, Array.size, List.size_toArray, List.getElem?_toArray, List.all_toArray, Int.reducePow, Nat.reducePow, Nat.reduceEqDiff, Nat.reduceBEq, Int.reduceBEq, Int.reduceBNe, Bool.not_not, gt_iff_lt, ge_iff_le, Int.cast_ofNat_Int, V.d.injEq, D.sc.injEq, Value.bool.injEq, Option.some_beq_some, beq_true, beq_false, Bool.not_eq_true', decide_eq_true_eq, decide_eq_false_iff_not, Int.not_lt, Int.not_le, brO_some, Br_true, Br_false, Br_not, boolV, Option.map, wr_i64, wr_u64, wr_u32, wr_u8, Int.reduceLT, Int.toNat_one, Int.toNat_zero, Nat.one_mul, Nat.mul_one, Nat.zero_mul, Nat.mul_zero, Int.reduceNegSucc, trimY, drawV_nil, drawV_cons, stepO_pure, stepO_read, stepO_write, stepO_new, stepO_app, stepO_call, stepO_no, readO, writeO, appO, opL, pureL, bs_len, bs_app, bs_take, bs_drop, Int.toNat_natCast, appBound, Nat.zero_le, Int.natCast_nonneg, Nat.mul_one, Int.le_refl, cells_int, cells_bool, cells_string, cells_slice, cells_agg, all_lit, flat, sz_2, by_2, ag_2, kn_2, it_2, pt_2, zv_2, zt_2, Try.underlying2, sz_3, by_3, ag_3, kn_3, it_3, pt_3, zv_3, zt_3, Try.underlying3, sz_4, by_4, ag_4, kn_4, it_4, pt_4, zv_4, zt_4, Try.underlying4, sz_5, by_5, ag_5, kn_5, it_5, pt_5, zv_5, zt_5, Try.underlying5, sz_33, by_33, ag_33, kn_33, it_33, pt_33, zv_33, zt_33, Try.underlying33, sz_54, by_54, ag_54, kn_54, it_54, pt_54, el_54, pl_54, sh_54, zv_54, zt_54, Try.underlying54, Try.eqGuardType54, sz_56, by_56, ag_56, kn_56, it_56, pt_56, zv_56, zt_56, Try.underlying56, her, hrt, hf, hnl, ha1, ha2]))
    | (refine And.intro (by kernel_rfl : okOrd _ _ = true) ?_)
    | refine CallO.to Try.call29 (awake_s _) Wk.refl ?_
    | refine CallP.to Try.call29 (awake_s _) Wk.refl (fun _ => rfl) (fun _ => rfl) ?_
    | (refine CallO.to Try.call29 (awake_s _) ?_ ?_; (focus ((repeat (first | exact Wk.nil | apply Wk.same | apply Wk.own | apply Wk.full | apply Wk.null)); done)))
    | (refine CallP.to Try.call29 (awake_s _) ?_ (fun _ => rfl) (fun _ => rfl) ?_; (focus ((repeat (first | exact Wk.nil | apply Wk.same | apply Wk.own | apply Wk.full | apply Wk.null)); done)))
    | refine CallO.to Try.call34 (take_s hT (by omega) _) Wk.refl ?_
    | refine CallP.to Try.call34 (take_s hT (by omega) _) Wk.refl (fun _ => rfl) (fun _ => rfl) ?_
    | (refine CallO.to Try.call34 (take_s hT (by omega) _) ?_ ?_; (focus ((repeat (first | exact Wk.nil | apply Wk.same | apply Wk.own | apply Wk.full | apply Wk.null)); done)))
    | (refine CallP.to Try.call34 (take_s hT (by omega) _) ?_ (fun _ => rfl) (fun _ => rfl) ?_; (focus ((repeat (first | exact Wk.nil | apply Wk.same | apply Wk.own | apply Wk.full | apply Wk.null)); done)))
    | refine CallO.to Try.call34 (take_s hT2 (by simp only [List.length_append]; omega) _) Wk.refl ?_
    | refine CallP.to Try.call34 (take_s hT2 (by simp only [List.length_append]; omega) _) Wk.refl (fun _ => rfl) (fun _ => rfl) ?_
    | (refine CallO.to Try.call34 (take_s hT2 (by simp only [List.length_append]; omega) _) ?_ ?_; (focus ((repeat (first | exact Wk.nil | apply Wk.same | apply Wk.own | apply Wk.full | apply Wk.null)); done)))
    | (refine CallP.to Try.call34 (take_s hT2 (by simp only [List.length_append]; omega) _) ?_ (fun _ => rfl) (fun _ => rfl) ?_; (focus ((repeat (first | exact Wk.nil | apply Wk.same | apply Wk.own | apply Wk.full | apply Wk.null)); done)))
    | refine CallO.to Try.call32 (put_s hP _) Wk.refl ?_
    | refine CallP.to Try.call32 (put_s hP _) Wk.refl (fun _ => rfl) (fun _ => rfl) ?_
    | (refine CallO.to Try.call32 (put_s hP _) ?_ ?_; (focus ((repeat (first | exact Wk.nil | apply Wk.same | apply Wk.own | apply Wk.full | apply Wk.null)); done)))
    | (refine CallP.to Try.call32 (put_s hP _) ?_ (fun _ => rfl) (fun _ => rfl) ?_; (focus ((repeat (first | exact Wk.nil | apply Wk.same | apply Wk.own | apply Wk.full | apply Wk.null)); done)))
    | refine CallO.to Try.call32 (put_s hP2 _) Wk.refl ?_
    | refine CallP.to Try.call32 (put_s hP2 _) Wk.refl (fun _ => rfl) (fun _ => rfl) ?_
    | (refine CallO.to Try.call32 (put_s hP2 _) ?_ ?_; (focus ((repeat (first | exact Wk.nil | apply Wk.same | apply Wk.own | apply Wk.full | apply Wk.null)); done)))
    | (refine CallP.to Try.call32 (put_s hP2 _) ?_ (fun _ => rfl) (fun _ => rfl) ?_; (focus ((repeat (first | exact Wk.nil | apply Wk.same | apply Wk.own | apply Wk.full | apply Wk.null)); done)))
    | refine CallO.to Try.call38 (right_s _ _) Wk.refl ?_
    | refine CallP.to Try.call38 (right_s _ _) Wk.refl (fun _ => rfl) (fun _ => rfl) ?_
    | (refine CallO.to Try.call38 (right_s _ _) ?_ ?_; (focus ((repeat (first | exact Wk.nil | apply Wk.same | apply Wk.own | apply Wk.full | apply Wk.null)); done)))
    | (refine CallP.to Try.call38 (right_s _ _) ?_ (fun _ => rfl) (fun _ => rfl) ?_; (focus ((repeat (first | exact Wk.nil | apply Wk.same | apply Wk.own | apply Wk.full | apply Wk.null)); done)))
    | refine CallO.to Try.call37 (same_s _ _ _) Wk.refl ?_
    | refine CallP.to Try.call37 (same_s _ _ _) Wk.refl (fun _ => rfl) (fun _ => rfl) ?_
    | (refine CallO.to Try.call37 (same_s _ _ _) ?_ ?_; (focus ((repeat (first | exact Wk.nil | apply Wk.same | apply Wk.own | apply Wk.full | apply Wk.null)); done)))
    | (refine CallP.to Try.call37 (same_s _ _ _) ?_ (fun _ => rfl) (fun _ => rfl) ?_; (focus ((repeat (first | exact Wk.nil | apply Wk.same | apply Wk.own | apply Wk.full | apply Wk.null)); done)))
    | (refine hN _ ?_; clear hN N)
    | (clear hN N; refine hN _ ?_; clear hN N)
    | (clear hN N; clear hN N; refine hN _ ?_; clear hN N)
    | (clear hN N; clear hN N; clear hN N; refine hN _ ?_; clear hN N)
    | (clear hN N; clear hN N; clear hN N; clear hN N; refine hN _ ?_; clear hN N)
    | (clear hN N; clear hN N; clear hN N; clear hN N; clear hN N; refine hN _ ?_; clear hN N)
    | (refine hA ?_; clear hA A hB B; try simp only [h0])
    | (refine hB ?_; clear hA A hB B; try simp only [h0])
    | ((first | refine guardO.mk (fun h0 => ?_) (fun h0 => ?_) | refine guardD.mk (fun h0 => ?_) (fun h0 => ?_) | refine Br.mk (fun h0 => ?_) (fun h0 => ?_)) <;> (have h := h0; try simp only [decide_eq_true_eq, decide_eq_false_iff_not, Int.not_lt, Int.not_le, beq_iff_eq, beq_eq_false_iff_ne, bne_iff_ne, bne_eq_false_iff_eq, ne_eq, Bool.not_eq_true', Bool.not_eq_false', Decidable.not_not] at h) <;> (try (exfalso; omega)) <;> (try simp only [Bool.not_eq_true', Bool.not_eq_false', beq_true, beq_false] at h0))
    | (simp only [thenV, blockV, if_true, if_false, Nat.reduceEqDiff, reduceCtorEq, imp_self]))
  all_goals (apply And.right; apply hQ; rfl; try simp only [V.d.injEq, D.sc.injEq, Value.bool.injEq])
end Go.Proofs.Ytfcbpdokilidgaa
