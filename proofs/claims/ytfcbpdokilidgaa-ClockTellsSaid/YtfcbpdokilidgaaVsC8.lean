/- The law ClockTells: the walk. -/
import Derived.Test.YtfcbpdokilidgaaVsC4
import Derived.Test.YtfcbpdokilidgaaVsC5
import Derived.Test.YtfcbpdokilidgaaVsC6
import Derived.Test.YtfcbpdokilidgaaVsC7
namespace Go.Proofs.Ytfcbpdokilidgaa
open Go Go.RowKit
set_option linter.unusedVariables false
set_option linter.unusedSimpArgs false

theorem flat_len (l : List Clk) : (l.flatMap cc).length = l.length * 3 := by
  induction l with
  | nil => rfl
  | cons c l ih => rw [List.flatMap_cons, List.length_append, ih, List.length_cons]; simp [cc]; omega

theorem DenD.scs {F : Fr} {φ : List Pl} {w : World} {r : Value} {l : List Clk} (h : DenD F φ w r (.sl 3 (cs l))) : Sc w r l := by
  rcases h.slInv with ⟨a0, rfl, e⟩ | ⟨cap, b, off, c, rfl, hcap, hk, hc, hd⟩
  · have : l = [] := by cases l with
      | nil => rfl
      | cons a l => simp [cs] at e
    subst this
    exact ⟨a0, 0, rfl, Nat.le_refl _, Nat.zero_le _, rfl, fun h => absurd h (Nat.lt_irrefl _)⟩
  · rw [cs_len] at hcap ⊢
    refine ⟨some ⟨b, off, none⟩, cap, rfl, hcap.1, hcap.2, flat_len l, fun h0 => ⟨_, rfl, ?_, fun j u hu => ?_⟩⟩
    · have := (hc 0 0 (by rw [cs_len]; exact h0) (by omega)).1
      exact this.1
    · have hj : j < l.length * 3 := by have := get_lt hu; rwa [flat_len] at this
      have hi : j / 3 < l.length := by omega
      have hm : j % 3 < 3 := Nat.mod_lt _ (by omega)
      have hdm : j / 3 * 3 + j % 3 = j := by omega
      have h1 := flat_at l (j / 3) (j % 3) hi hm
      rw [hdm, hu] at h1
      have h2 := (hc (j / 3) (j % 3) (by rw [cs_len]; exact hi) hm).2
      have h3 : (cs l)[j / 3]? = some [.sc (.int .i64 l[j / 3].x), .sc (.int .i64 l[j / 3].y), .sc (.int .i64 l[j / 3].z)] := by rw [cs_get, List.getElem?_eq_getElem hi]; rfl
      have h4 : ∃ x, [D.sc (.int .i64 l[j / 3].x), .sc (.int .i64 l[j / 3].y), .sc (.int .i64 l[j / 3].z)][j % 3]? = some (.sc x) ∧ u = x := by
        generalize j % 3 = q at h1 hm
        match q, hm with
        | 0, _ => exact ⟨_, rfl, by simpa [cc] using h1⟩
        | 1, _ => exact ⟨_, rfl, by simpa [cc] using h1⟩
        | 2, _ => exact ⟨_, rfl, by simpa [cc] using h1⟩
      obtain ⟨x, hx, rfl⟩ := h4
      have h5 := hd _ _ _ _ h3 hx
      generalize c (j / 3) (j % 3) = q at h2 h5
      have h6 : q = u := by cases h5; rfl
      subst h6
      have e : ((⟨b, off, none⟩ : Addr).add j) = ⟨b, off + j, none⟩ := by
        unfold Addr.add; split
        · rename_i e; subst e; rfl
        · rfl
      rw [e]
      rw [show off + j / 3 * 3 + j % 3 = off + j by omega] at h2
      exact h2

theorem covers_s (a b : Clk) (h : List Ho) : Sp Try.prog K0 40 [clkV a, clkV b] h fun u hh => u = .sc (.bool (covF a b)) ∧ hh = h :=
  .ofV (fun F φ w => .d (.sc rfl)) fun F φ w args hd => by
    obtain ⟨r, q, rfl, h1, h2⟩ := args2 hd
    rw [clk_of h1, clk_of h2]; exact covers_c a b w
theorem rcovers_s (a b : Clk) (h : List Ho) : Sp Try.prog K0 36 [clkV a, clkV b] h fun u hh => u = .sc (.bool (covF a b)) ∧ hh = h :=
  .ofV (fun F φ w => .d (.sc rfl)) fun F φ w args hd => by
    obtain ⟨r, q, rfl, h1, h2⟩ := args2 hd
    rw [clk_of h1, clk_of h2]; exact rcovers_c a b w
theorem beside_s (a b : Clk) (h : List Ho) : Sp Try.prog K0 41 [clkV a, clkV b] h fun u hh => u = .sc (.bool (!covF a b && !covF b a)) ∧ hh = h :=
  .ofV (fun F φ w => .d (.sc rfl)) fun F φ w args hd => by
    obtain ⟨r, q, rfl, h1, h2⟩ := args2 hd
    rw [clk_of h1, clk_of h2]; exact beside_c a b w
theorem merge_s (l : List Clk) (h : List Ho) : Sp Try.prog K0 42 [.sl 3 (cs l)] h fun u hh => u = clkV (mergeF l) ∧ hh = h :=
  .ofV (fun F φ w => den_clk _) fun F φ w args hd => by
    obtain ⟨r, rfl, h1⟩ := args1 hd
    exact merge_c r l w (den_in h1).scs
theorem step_s {a c : Clk} {o e : Int} (he : stepF a o = (c, e)) (h1 : -9223372036854775808 ≤ o) (h2 : o ≤ 9223372036854775807) (h : List Ho) : Sp Try.prog K0 30 [clkV a, .sc (.int .i64 o)] h fun u hh => u = .tup [clkV c, .sc (.int .i64 e)] ∧ hh = h :=
  .ofV (r := pv (stepF a o)) (fun F φ w => by rw [he]; exact den_tup (.cons (den_clk c) (.cons (.d (.sc rfl)) .nil))) fun F φ w args hd => by
    obtain ⟨r, q, rfl, g1, g2⟩ := args2 hd
    rw [clk_of g1, g2.sc.1]; exact step_c a o w h1 h2
theorem rstep_e {a c : Clk} {o e : Int} (he : stepF a o = (c, e)) (h : List Ho) : Sp Try.prog K0 31 [clkV a, .sc (.int .i64 o)] h fun u hh => u = .tup [clkV c, .sc (.int .i64 e)] ∧ hh = h := by
  have := rstep_s a o h; rw [he] at this; exact this
theorem rput_e {p c : Clk} {l : List UInt8} {n : Int} (ht : cputF p c = (l, n)) (h : List Ho) : Sp Try.prog K0 33 [clkV p, clkV c] h fun u hh => u = .tup [.sl 1 (bs l), .sc (.int .i64 n)] ∧ hh = h := by
  have := rput4_s p c h; rw [ht] at this; exact this
theorem rtake_e {p t : Clk} {s : List UInt8} {n : Nat} {er : Int} (ht : ctakeF p s = (t, n, er)) (hl : s.length ≤ 1000000000) (h : List Ho) : Sp Try.prog K0 35 [clkV p, .sl 1 (bs s)] h fun u hh => u = .tup [clkV t, .sc (.int .i64 n), .sc (.int .i64 er)] ∧ hh = h := by
  have := rtake4_s p s hl h; rw [ht] at this; exact this
--CALL 29 awake_s _
--CALL 30 step_s he h1 h2 _
--CALL 31 rstep_e he _
--CALL 32 put_s hP _
--CALL 33 rput_e hP _
--CALL 34 take_s hT (by omega) _
--CALL 35 rtake_e hT (by omega) _
--CALL 36 rcovers_s _ _ _
--CALL 37 same_s _ _ _
--CALL 38 right_s _ _
--CALL 39 rright_s _ _
--CALL 40 covers_s _ _ _
--CALL 41 beside_s _ _ _
--CALL 42 merge_s _ _
--CALL 43 rmerge_s _ (by omega) _
--LEM cs_len
set_option maxRecDepth 100000 in
set_option maxHeartbeats 8000000 in
theorem tells_w (a b c t : Clk) (l : List Clk) (o e : Int) (s p : List UInt8) (n : Nat) (g er : Int) (he : stepF a o = (c, e)) (h1 : -9223372036854775808 ≤ o) (h2 : o ≤ 9223372036854775807) (hP : cputF a b = (p, g)) (hT : ctakeF a s = (t, n, er)) :
    Sp Try.prog K0 7 [clkV a, clkV b, .sl 3 (cs l), .sc (.int .i64 o), .sl 1 (bs s)] [] fun v h => v = .sc (.bool true) := by
  refine Sp.of_body Try.func7 rfl ?_
  intro Q hQ
  simp only [List.replicate, List.length_cons, List.length_nil, Try.ntmps7, Nat.reduceAdd, Nat.reduceSub, List.cons_append, List.nil_append]
  repeat' (first
    | (refine WPV.seqK ?_; intro N hN)
    | refine WPV.block ?_
    | refine WPV.scope ?_
    | refine WPV.skip ?_
    | refine WPV.label ?_
    | refine WPV.exit ?_
    | refine WPV.ret ?_
    | (refine WPV.regionK ?_; intro N hN)
    | (refine WPV.drawK (by kernel_rfl) (by kernel_rfl) ?_; intro N hN)
    | (refine WPV.condK ?_; intro A hA B hB)
    | ((first | refine opsV.here ?_ | refine drawV.here ?_ | refine resO.here ?_ | refine stepO.here ?_ | refine brO.here ?_); (first | simp (config := {contextual := true}) only [opsV_nil, opsV_cons, guardO_true, guardO_false, guardD_true, guardD_false, resO_val, resO_call, resO_no, wantedV, yieldedV, Option.some.injEq, exists_eq_left', forall_const, reduceCtorEq, false_imp_iff, and_true, true_and, true_imp_iff, opV, evV, evArgs, evParts, evOpt, constV, flat, cellsV, isOne, List.all_cons, List.all_nil, Bool.and_self, Bool.true_and, Bool.and_true, if_true, if_false, List.getElem?_cons_zero, List.getElem?_cons_succ, List.getElem?_nil, resOf, putV, List.set_cons_zero, List.set_cons_succ, List.set_nil, thenV, blockV, loadV, storeV, List.drop_succ_cons, List.drop_zero, List.take_succ_cons, List.take_zero, List.drop_nil, List.take_nil, Nat.zero_add, Nat.add_zero, Nat.le_refl, binV, scBin, intBin, strBin, Option.map_some, Option.map_none, unV, indexV, indexAtV, intOfV, sliceV, boundOf, esOf, lenV, convV, callV, appendV, srcOf, buildSliceV, partsEs, toDs, toD, fillV, placeOf, partV, eqV, eqInts, resultV, resultsV, Nat.reduceAdd, Nat.reduceSub, Nat.reduceMul, Nat.reduceLT, Nat.reduceLeDiff, Int.reduceLT, Int.reduceLE, Int.reduceEq, Int.reduceNe, Int.reduceAdd, Int.reduceSub, Int.reduceMul, Int.reduceToNat, Int.reduceNeg, decide_true, decide_false, decide_not, Bool.not_true, Bool.not_false, List.length_cons, List.length_nil, List.cons_append, List.nil_append, List.append_nil, List.replicate_succ, List.replicate_zero, List.replicate, Option.bind_some, Option.bind_none, beq_self_eq_true, Nat.lt_irrefl, false_and, and_false, or_false, false_or, or_true, true_or, exists_const, exists_false, not_true_eq_false, not_false_eq_true, Bool.false_eq_true, Option.isSome_some, Option.isSome_none, exists_eq_left, ne_eq, Bool.not_eq_true, Bool.true_eq_false, Bool.false_and, Bool.and_false, Bool.or_self, Bool.or_true, Bool.or_false, Bool.true_or, Bool.false_or, eq_self, List.mem_cons, List.not_mem_nil, List.map_cons, List.map_nil, Array.size, List.size_toArray, List.getElem?_toArray, List.all_toArray, Int.reducePow, Nat.reducePow, Nat.reduceEqDiff, Nat.reduceBEq, Int.reduceBEq, Int.reduceBNe, Bool.not_not, gt_iff_lt, ge_iff_le, Int.cast_ofNat_Int, V.d.injEq, D.sc.injEq, Value.bool.injEq, Option.some_beq_some, beq_true, beq_false, Bool.not_eq_true', decide_eq_true_eq, decide_eq_false_iff_not, Int.not_lt, Int.not_le, brO_some, Br_true, Br_false, Br_not, boolV, Option.map, wr_i64, wr_u64, wr_u32, wr_u8, Int.reduceLT, Int.toNat_one, Int.toNat_zero, Nat.one_mul, Nat.mul_one, Nat.zero_mul, Nat.mul_zero, Int.reduceNegSucc, trimY, drawV_nil, drawV_cons, stepO_pure, stepO_read, stepO_write, stepO_new, stepO_app, stepO_call, stepO_no, readO, writeO, appO, opL, pureL, bs_len, bs_app, bs_take, bs_drop, Int.toNat_natCast, appBound, Nat.zero_le, Int.natCast_nonneg, Nat.mul_one, Int.le_refl, cells_int, cells_bool, cells_string, cells_slice, cells_agg, all_lit, flat, List.take_length, Int.zero_add, Int.add_zero, sz_2, by_2, ag_2, kn_2, it_2, pt_2, zv_2, zt_2, Try.underlying2, sz_3, by_3, ag_3, kn_3, it_3, pt_3, zv_3, zt_3, Try.underlying3, sz_4, by_4, ag_4, kn_4, it_4, pt_4, zv_4, zt_4, Try.underlying4, sz_5, by_5, ag_5, kn_5, it_5, pt_5, zv_5, zt_5, Try.underlying5, sz_33, by_33, ag_33, kn_33, it_33, pt_33, zv_33, zt_33, Try.underlying33, sz_54, by_54, ag_54, kn_54, it_54, pt_54, el_54, pl_54, sh_54, zv_54, zt_54, Try.underlying54, Try.eqGuardType54, sz_55, by_55, ag_55, kn_55, it_55, pt_55, zv_55, zt_55, Try.underlying55, sz_56, by_56, ag_56, kn_56, it_56, pt_56, zv_56, zt_56, Try.underlying56, cs_len, h0] | simp (config := {contextual := true}) only [opsV_nil, opsV_cons, guardO_true, guardO_false, guardD_true, guardD_false, resO_val, resO_call, resO_no, wantedV, yieldedV, Option.some.injEq, exists_eq_left', forall_const, reduceCtorEq, false_imp_iff, and_true, true_and, true_imp_iff, opV, evV, evArgs, evParts, evOpt, constV, flat, cellsV, isOne, List.all_cons, List.all_nil, Bool.and_self, Bool.true_and, Bool.and_true, if_true, if_false, List.getElem?_cons_zero, List.getElem?_cons_succ, List.getElem?_nil, resOf, putV, List.set_cons_zero, List.set_cons_succ, List.set_nil, thenV, blockV, loadV, storeV, List.drop_succ_cons, List.drop_zero, List.take_succ_cons, List.take_zero, List.drop_nil, List.take_nil, Nat.zero_add, Nat.add_zero, Nat.le_refl, binV, scBin, intBin, strBin, Option.map_some, Option.map_none, unV, indexV, indexAtV, intOfV, sliceV, boundOf, esOf, lenV, convV, callV, appendV, srcOf, buildSliceV, partsEs, toDs, toD, fillV, placeOf, partV, eqV, eqInts, resultV, resultsV, Nat.reduceAdd, Nat.reduceSub, Nat.reduceMul, Nat.reduceLT, Nat.reduceLeDiff, Int.reduceLT, Int.reduceLE, Int.reduceEq, Int.reduceNe, Int.reduceAdd, Int.reduceSub, Int.reduceMul, Int.reduceToNat, Int.reduceNeg, decide_true, decide_false, decide_not, Bool.not_true, Bool.not_false, List.length_cons, List.length_nil, List.cons_append, List.nil_append, List.append_nil, List.replicate_succ, List.replicate_zero, List.replicate, Option.bind_some, Option.bind_none, beq_self_eq_true, Nat.lt_irrefl, false_and, and_false, or_false, false_or, or_true, true_or, exists_const, exists_false, not_true_eq_false, not_false_eq_true, Bool.false_eq_true, Option.isSome_some, Option.isSome_none, exists_eq_left, ne_eq, Bool.not_eq_true, Bool.true_eq_false, Bool.false_and, Bool.and_false, Bool.or_self, Bool.or_true, Bool.or_false, Bool.true_or, Bool.false_or, eq_self, List.mem_cons, List.not_mem_nil, List.map_cons, List.map_nil, Array.size, List.size_toArray, List.getElem?_toArray, List.all_toArray, Int.reducePow, Nat.reducePow, Nat.reduceEqDiff, Nat.reduceBEq, Int.reduceBEq, Int.reduceBNe, Bool.not_not, gt_iff_lt, ge_iff_le, Int.cast_ofNat_Int, V.d.injEq, D.sc.injEq, Value.bool.injEq, Option.some_beq_some, beq_true, beq_false, Bool.not_eq_true', decide_eq_true_eq, decide_eq_false_iff_not, Int.not_lt, Int.not_le, brO_some, Br_true, Br_false, Br_not, boolV, Option.map, wr_i64, wr_u64, wr_u32, wr_u8, Int.reduceLT, Int.toNat_one, Int.toNat_zero, Nat.one_mul, Nat.mul_one, Nat.zero_mul, Nat.mul_zero, Int.reduceNegSucc, trimY, drawV_nil, drawV_cons, stepO_pure, stepO_read, stepO_write, stepO_new, stepO_app, stepO_call, stepO_no, readO, writeO, appO, opL, pureL, bs_len, bs_app, bs_take, bs_drop, Int.toNat_natCast, appBound, Nat.zero_le, Int.natCast_nonneg, Nat.mul_one, Int.le_refl, cells_int, cells_bool, cells_string, cells_slice, cells_agg, all_lit, flat, List.take_length, Int.zero_add, Int.add_zero, sz_2, by_2, ag_2, kn_2, it_2, pt_2, zv_2, zt_2, Try.underlying2, sz_3, by_3, ag_3, kn_3, it_3, pt_3, zv_3, zt_3, Try.underlying3, sz_4, by_4, ag_4, kn_4, it_4, pt_4, zv_4, zt_4, Try.underlying4, sz_5, by_5, ag_5, kn_5, it_5, pt_5, zv_5, zt_5, Try.underlying5, sz_33, by_33, ag_33, kn_33, it_33, pt_33, zv_33, zt_33, Try.underlying33, sz_54, by_54, ag_54, kn_54, it_54, pt_54, el_54, pl_54, sh_54, zv_54, zt_54, Try.underlying54, Try.eqGuardType54, sz_55, by_55, ag_55, kn_55, it_55, pt_55, zv_55, zt_55, Try.underlying55, sz_56, by_56, ag_56, kn_56, it_56, pt_56, zv_56, zt_56, Try.underlying56, cs_len]))
    | (refine And.intro (by kernel_rfl : okOrd _ _ = true) ?_)
    | refine CallO.to Try.call29 (awake_s _) Wk.refl ?_
    | refine CallP.to Try.call29 (awake_s _) Wk.refl (fun _ => rfl) (fun _ => rfl) ?_
    | (refine CallO.to Try.call29 (awake_s _) ?_ ?_; (focus ((repeat (first | exact Wk.nil | apply Wk.same | apply Wk.own | apply Wk.full | apply Wk.null)); done)))
    | (refine CallP.to Try.call29 (awake_s _) ?_ (fun _ => rfl) (fun _ => rfl) ?_; (focus ((repeat (first | exact Wk.nil | apply Wk.same | apply Wk.own | apply Wk.full | apply Wk.null)); done)))
    | refine CallO.to Try.call30 (step_s he h1 h2 _) Wk.refl ?_
    | refine CallP.to Try.call30 (step_s he h1 h2 _) Wk.refl (fun _ => rfl) (fun _ => rfl) ?_
    | (refine CallO.to Try.call30 (step_s he h1 h2 _) ?_ ?_; (focus ((repeat (first | exact Wk.nil | apply Wk.same | apply Wk.own | apply Wk.full | apply Wk.null)); done)))
    | (refine CallP.to Try.call30 (step_s he h1 h2 _) ?_ (fun _ => rfl) (fun _ => rfl) ?_; (focus ((repeat (first | exact Wk.nil | apply Wk.same | apply Wk.own | apply Wk.full | apply Wk.null)); done)))
    | refine CallO.to Try.call31 (rstep_e he _) Wk.refl ?_
    | refine CallP.to Try.call31 (rstep_e he _) Wk.refl (fun _ => rfl) (fun _ => rfl) ?_
    | (refine CallO.to Try.call31 (rstep_e he _) ?_ ?_; (focus ((repeat (first | exact Wk.nil | apply Wk.same | apply Wk.own | apply Wk.full | apply Wk.null)); done)))
    | (refine CallP.to Try.call31 (rstep_e he _) ?_ (fun _ => rfl) (fun _ => rfl) ?_; (focus ((repeat (first | exact Wk.nil | apply Wk.same | apply Wk.own | apply Wk.full | apply Wk.null)); done)))
    | refine CallO.to Try.call32 (put_s hP _) Wk.refl ?_
    | refine CallP.to Try.call32 (put_s hP _) Wk.refl (fun _ => rfl) (fun _ => rfl) ?_
    | (refine CallO.to Try.call32 (put_s hP _) ?_ ?_; (focus ((repeat (first | exact Wk.nil | apply Wk.same | apply Wk.own | apply Wk.full | apply Wk.null)); done)))
    | (refine CallP.to Try.call32 (put_s hP _) ?_ (fun _ => rfl) (fun _ => rfl) ?_; (focus ((repeat (first | exact Wk.nil | apply Wk.same | apply Wk.own | apply Wk.full | apply Wk.null)); done)))
    | refine CallO.to Try.call33 (rput_e hP _) Wk.refl ?_
    | refine CallP.to Try.call33 (rput_e hP _) Wk.refl (fun _ => rfl) (fun _ => rfl) ?_
    | (refine CallO.to Try.call33 (rput_e hP _) ?_ ?_; (focus ((repeat (first | exact Wk.nil | apply Wk.same | apply Wk.own | apply Wk.full | apply Wk.null)); done)))
    | (refine CallP.to Try.call33 (rput_e hP _) ?_ (fun _ => rfl) (fun _ => rfl) ?_; (focus ((repeat (first | exact Wk.nil | apply Wk.same | apply Wk.own | apply Wk.full | apply Wk.null)); done)))
    | refine CallO.to Try.call34 (take_s hT (by omega) _) Wk.refl ?_
    | refine CallP.to Try.call34 (take_s hT (by omega) _) Wk.refl (fun _ => rfl) (fun _ => rfl) ?_
    | (refine CallO.to Try.call34 (take_s hT (by omega) _) ?_ ?_; (focus ((repeat (first | exact Wk.nil | apply Wk.same | apply Wk.own | apply Wk.full | apply Wk.null)); done)))
    | (refine CallP.to Try.call34 (take_s hT (by omega) _) ?_ (fun _ => rfl) (fun _ => rfl) ?_; (focus ((repeat (first | exact Wk.nil | apply Wk.same | apply Wk.own | apply Wk.full | apply Wk.null)); done)))
    | refine CallO.to Try.call35 (rtake_e hT (by omega) _) Wk.refl ?_
    | refine CallP.to Try.call35 (rtake_e hT (by omega) _) Wk.refl (fun _ => rfl) (fun _ => rfl) ?_
    | (refine CallO.to Try.call35 (rtake_e hT (by omega) _) ?_ ?_; (focus ((repeat (first | exact Wk.nil | apply Wk.same | apply Wk.own | apply Wk.full | apply Wk.null)); done)))
    | (refine CallP.to Try.call35 (rtake_e hT (by omega) _) ?_ (fun _ => rfl) (fun _ => rfl) ?_; (focus ((repeat (first | exact Wk.nil | apply Wk.same | apply Wk.own | apply Wk.full | apply Wk.null)); done)))
    | refine CallO.to Try.call36 (rcovers_s _ _ _) Wk.refl ?_
    | refine CallP.to Try.call36 (rcovers_s _ _ _) Wk.refl (fun _ => rfl) (fun _ => rfl) ?_
    | (refine CallO.to Try.call36 (rcovers_s _ _ _) ?_ ?_; (focus ((repeat (first | exact Wk.nil | apply Wk.same | apply Wk.own | apply Wk.full | apply Wk.null)); done)))
    | (refine CallP.to Try.call36 (rcovers_s _ _ _) ?_ (fun _ => rfl) (fun _ => rfl) ?_; (focus ((repeat (first | exact Wk.nil | apply Wk.same | apply Wk.own | apply Wk.full | apply Wk.null)); done)))
    | refine CallO.to Try.call37 (same_s _ _ _) Wk.refl ?_
    | refine CallP.to Try.call37 (same_s _ _ _) Wk.refl (fun _ => rfl) (fun _ => rfl) ?_
    | (refine CallO.to Try.call37 (same_s _ _ _) ?_ ?_; (focus ((repeat (first | exact Wk.nil | apply Wk.same | apply Wk.own | apply Wk.full | apply Wk.null)); done)))
    | (refine CallP.to Try.call37 (same_s _ _ _) ?_ (fun _ => rfl) (fun _ => rfl) ?_; (focus ((repeat (first | exact Wk.nil | apply Wk.same | apply Wk.own | apply Wk.full | apply Wk.null)); done)))
    | refine CallO.to Try.call38 (right_s _ _) Wk.refl ?_
    | refine CallP.to Try.call38 (right_s _ _) Wk.refl (fun _ => rfl) (fun _ => rfl) ?_
    | (refine CallO.to Try.call38 (right_s _ _) ?_ ?_; (focus ((repeat (first | exact Wk.nil | apply Wk.same | apply Wk.own | apply Wk.full | apply Wk.null)); done)))
    | (refine CallP.to Try.call38 (right_s _ _) ?_ (fun _ => rfl) (fun _ => rfl) ?_; (focus ((repeat (first | exact Wk.nil | apply Wk.same | apply Wk.own | apply Wk.full | apply Wk.null)); done)))
    | refine CallO.to Try.call39 (rright_s _ _) Wk.refl ?_
    | refine CallP.to Try.call39 (rright_s _ _) Wk.refl (fun _ => rfl) (fun _ => rfl) ?_
    | (refine CallO.to Try.call39 (rright_s _ _) ?_ ?_; (focus ((repeat (first | exact Wk.nil | apply Wk.same | apply Wk.own | apply Wk.full | apply Wk.null)); done)))
    | (refine CallP.to Try.call39 (rright_s _ _) ?_ (fun _ => rfl) (fun _ => rfl) ?_; (focus ((repeat (first | exact Wk.nil | apply Wk.same | apply Wk.own | apply Wk.full | apply Wk.null)); done)))
    | refine CallO.to Try.call40 (covers_s _ _ _) Wk.refl ?_
    | refine CallP.to Try.call40 (covers_s _ _ _) Wk.refl (fun _ => rfl) (fun _ => rfl) ?_
    | (refine CallO.to Try.call40 (covers_s _ _ _) ?_ ?_; (focus ((repeat (first | exact Wk.nil | apply Wk.same | apply Wk.own | apply Wk.full | apply Wk.null)); done)))
    | (refine CallP.to Try.call40 (covers_s _ _ _) ?_ (fun _ => rfl) (fun _ => rfl) ?_; (focus ((repeat (first | exact Wk.nil | apply Wk.same | apply Wk.own | apply Wk.full | apply Wk.null)); done)))
    | refine CallO.to Try.call41 (beside_s _ _ _) Wk.refl ?_
    | refine CallP.to Try.call41 (beside_s _ _ _) Wk.refl (fun _ => rfl) (fun _ => rfl) ?_
    | (refine CallO.to Try.call41 (beside_s _ _ _) ?_ ?_; (focus ((repeat (first | exact Wk.nil | apply Wk.same | apply Wk.own | apply Wk.full | apply Wk.null)); done)))
    | (refine CallP.to Try.call41 (beside_s _ _ _) ?_ (fun _ => rfl) (fun _ => rfl) ?_; (focus ((repeat (first | exact Wk.nil | apply Wk.same | apply Wk.own | apply Wk.full | apply Wk.null)); done)))
    | refine CallO.to Try.call42 (merge_s _ _) Wk.refl ?_
    | refine CallP.to Try.call42 (merge_s _ _) Wk.refl (fun _ => rfl) (fun _ => rfl) ?_
    | (refine CallO.to Try.call42 (merge_s _ _) ?_ ?_; (focus ((repeat (first | exact Wk.nil | apply Wk.same | apply Wk.own | apply Wk.full | apply Wk.null)); done)))
    | (refine CallP.to Try.call42 (merge_s _ _) ?_ (fun _ => rfl) (fun _ => rfl) ?_; (focus ((repeat (first | exact Wk.nil | apply Wk.same | apply Wk.own | apply Wk.full | apply Wk.null)); done)))
    | refine CallO.to Try.call43 (rmerge_s _ (by omega) _) Wk.refl ?_
    | refine CallP.to Try.call43 (rmerge_s _ (by omega) _) Wk.refl (fun _ => rfl) (fun _ => rfl) ?_
    | (refine CallO.to Try.call43 (rmerge_s _ (by omega) _) ?_ ?_; (focus ((repeat (first | exact Wk.nil | apply Wk.same | apply Wk.own | apply Wk.full | apply Wk.null)); done)))
    | (refine CallP.to Try.call43 (rmerge_s _ (by omega) _) ?_ (fun _ => rfl) (fun _ => rfl) ?_; (focus ((repeat (first | exact Wk.nil | apply Wk.same | apply Wk.own | apply Wk.full | apply Wk.null)); done)))
    | (refine hN _ ?_; try clear hN N)
    | (clear hN N; refine hN _ ?_; try clear hN N)
    | (clear hN N; clear hN N; refine hN _ ?_; try clear hN N)
    | (clear hN N; clear hN N; clear hN N; refine hN _ ?_; try clear hN N)
    | (clear hN N; clear hN N; clear hN N; clear hN N; refine hN _ ?_; try clear hN N)
    | (clear hN N; clear hN N; clear hN N; clear hN N; clear hN N; refine hN _ ?_; try clear hN N)
    | (refine hA ?_; clear hA A hB B; try simp only [h0])
    | (refine hB ?_; clear hA A hB B; try simp only [h0])
    | ((first | refine guardO.mk (fun h0 => ?_) (fun h0 => ?_) | refine guardD.mk (fun h0 => ?_) (fun h0 => ?_) | refine Br.mk (fun h0 => ?_) (fun h0 => ?_)) <;> (have h := h0; try simp only [decide_eq_true_eq, decide_eq_false_iff_not, Int.not_lt, Int.not_le, beq_iff_eq, beq_eq_false_iff_ne, bne_iff_ne, bne_eq_false_iff_eq, ne_eq, Bool.not_eq_true', Bool.not_eq_false', Decidable.not_not] at h) <;> (try (exfalso; omega)) <;> (try simp only [Bool.not_eq_true', Bool.not_eq_false', beq_true, beq_false] at h0))
    | (simp only [thenV, blockV, if_true, if_false, Nat.reduceEqDiff, reduceCtorEq, imp_self]))
  all_goals (apply And.right; apply hQ; (first | (simp only [opsV_nil, opsV_cons, guardO_true, guardO_false, guardD_true, guardD_false, resO_val, resO_call, resO_no, wantedV, yieldedV, Option.some.injEq, exists_eq_left', forall_const, reduceCtorEq, false_imp_iff, and_true, true_and, true_imp_iff, opV, evV, evArgs, evParts, evOpt, constV, flat, cellsV, isOne, List.all_cons, List.all_nil, Bool.and_self, Bool.true_and, Bool.and_true, if_true, if_false, List.getElem?_cons_zero, List.getElem?_cons_succ, List.getElem?_nil, resOf, putV, List.set_cons_zero, List.set_cons_succ, List.set_nil, thenV, blockV, loadV, storeV, List.drop_succ_cons, List.drop_zero, List.take_succ_cons, List.take_zero, List.drop_nil, List.take_nil, Nat.zero_add, Nat.add_zero, Nat.le_refl, binV, scBin, intBin, strBin, Option.map_some, Option.map_none, unV, indexV, indexAtV, intOfV, sliceV, boundOf, esOf, lenV, convV, callV, appendV, srcOf, buildSliceV, partsEs, toDs, toD, fillV, placeOf, partV, eqV, eqInts, resultV, resultsV, Nat.reduceAdd, Nat.reduceSub, Nat.reduceMul, Nat.reduceLT, Nat.reduceLeDiff, Int.reduceLT, Int.reduceLE, Int.reduceEq, Int.reduceNe, Int.reduceAdd, Int.reduceSub, Int.reduceMul, Int.reduceToNat, Int.reduceNeg, decide_true, decide_false, decide_not, Bool.not_true, Bool.not_false, List.length_cons, List.length_nil, List.cons_append, List.nil_append, List.append_nil, List.replicate_succ, List.replicate_zero, List.replicate, Option.bind_some, Option.bind_none, beq_self_eq_true, Nat.lt_irrefl, false_and, and_false, or_false, false_or, or_true, true_or, exists_const, exists_false, not_true_eq_false, not_false_eq_true, Bool.false_eq_true, Option.isSome_some, Option.isSome_none, exists_eq_left, ne_eq, Bool.not_eq_true, Bool.true_eq_false, Bool.false_and, Bool.and_false, Bool.or_self, Bool.or_true, Bool.or_false, Bool.true_or, Bool.false_or, eq_self, List.mem_cons, List.not_mem_nil, List.map_cons, List.map_nil, Array.size, List.size_toArray, List.getElem?_toArray, List.all_toArray, Int.reducePow, Nat.reducePow, Nat.reduceEqDiff, Nat.reduceBEq, Int.reduceBEq, Int.reduceBNe, Bool.not_not, gt_iff_lt, ge_iff_le, Int.cast_ofNat_Int, V.d.injEq, D.sc.injEq, Value.bool.injEq, Option.some_beq_some, beq_true, beq_false, Bool.not_eq_true', decide_eq_true_eq, decide_eq_false_iff_not, Int.not_lt, Int.not_le, brO_some, Br_true, Br_false, Br_not, boolV, Option.map, wr_i64, wr_u64, wr_u32, wr_u8, Int.reduceLT, Int.toNat_one, Int.toNat_zero, Nat.one_mul, Nat.mul_one, Nat.zero_mul, Nat.mul_zero, Int.reduceNegSucc, trimY, drawV_nil, drawV_cons, stepO_pure, stepO_read, stepO_write, stepO_new, stepO_app, stepO_call, stepO_no, readO, writeO, appO, opL, pureL, bs_len, bs_app, bs_take, bs_drop, Int.toNat_natCast, appBound, Nat.zero_le, Int.natCast_nonneg, Nat.mul_one, Int.le_refl, cells_int, cells_bool, cells_string, cells_slice, cells_agg, all_lit, flat, List.take_length, Int.zero_add, Int.add_zero, sz_2, by_2, ag_2, kn_2, it_2, pt_2, zv_2, zt_2, Try.underlying2, sz_3, by_3, ag_3, kn_3, it_3, pt_3, zv_3, zt_3, Try.underlying3, sz_4, by_4, ag_4, kn_4, it_4, pt_4, zv_4, zt_4, Try.underlying4, sz_5, by_5, ag_5, kn_5, it_5, pt_5, zv_5, zt_5, Try.underlying5, sz_33, by_33, ag_33, kn_33, it_33, pt_33, zv_33, zt_33, Try.underlying33, sz_54, by_54, ag_54, kn_54, it_54, pt_54, el_54, pl_54, sh_54, zv_54, zt_54, Try.underlying54, Try.eqGuardType54, sz_55, by_55, ag_55, kn_55, it_55, pt_55, zv_55, zt_55, Try.underlying55, sz_56, by_56, ag_56, kn_56, it_56, pt_56, zv_56, zt_56, Try.underlying56, Try.results7]; done) | (simp only [opsV_nil, opsV_cons, guardO_true, guardO_false, guardD_true, guardD_false, resO_val, resO_call, resO_no, wantedV, yieldedV, Option.some.injEq, exists_eq_left', forall_const, reduceCtorEq, false_imp_iff, and_true, true_and, true_imp_iff, opV, evV, evArgs, evParts, evOpt, constV, flat, cellsV, isOne, List.all_cons, List.all_nil, Bool.and_self, Bool.true_and, Bool.and_true, if_true, if_false, List.getElem?_cons_zero, List.getElem?_cons_succ, List.getElem?_nil, resOf, putV, List.set_cons_zero, List.set_cons_succ, List.set_nil, thenV, blockV, loadV, storeV, List.drop_succ_cons, List.drop_zero, List.take_succ_cons, List.take_zero, List.drop_nil, List.take_nil, Nat.zero_add, Nat.add_zero, Nat.le_refl, binV, scBin, intBin, strBin, Option.map_some, Option.map_none, unV, indexV, indexAtV, intOfV, sliceV, boundOf, esOf, lenV, convV, callV, appendV, srcOf, buildSliceV, partsEs, toDs, toD, fillV, placeOf, partV, eqV, eqInts, resultV, resultsV, Nat.reduceAdd, Nat.reduceSub, Nat.reduceMul, Nat.reduceLT, Nat.reduceLeDiff, Int.reduceLT, Int.reduceLE, Int.reduceEq, Int.reduceNe, Int.reduceAdd, Int.reduceSub, Int.reduceMul, Int.reduceToNat, Int.reduceNeg, decide_true, decide_false, decide_not, Bool.not_true, Bool.not_false, List.length_cons, List.length_nil, List.cons_append, List.nil_append, List.append_nil, List.replicate_succ, List.replicate_zero, List.replicate, Option.bind_some, Option.bind_none, beq_self_eq_true, Nat.lt_irrefl, false_and, and_false, or_false, false_or, or_true, true_or, exists_const, exists_false, not_true_eq_false, not_false_eq_true, Bool.false_eq_true, Option.isSome_some, Option.isSome_none, exists_eq_left, ne_eq, Bool.not_eq_true, Bool.true_eq_false, Bool.false_and, Bool.and_false, Bool.or_self, Bool.or_true, Bool.or_false, Bool.true_or, Bool.false_or, eq_self, List.mem_cons, List.not_mem_nil, List.map_cons, List.map_nil, Array.size, List.size_toArray, List.getElem?_toArray, List.all_toArray, Int.reducePow, Nat.reducePow, Nat.reduceEqDiff, Nat.reduceBEq, Int.reduceBEq, Int.reduceBNe, Bool.not_not, gt_iff_lt, ge_iff_le, Int.cast_ofNat_Int, V.d.injEq, D.sc.injEq, Value.bool.injEq, Option.some_beq_some, beq_true, beq_false, Bool.not_eq_true', decide_eq_true_eq, decide_eq_false_iff_not, Int.not_lt, Int.not_le, brO_some, Br_true, Br_false, Br_not, boolV, Option.map, wr_i64, wr_u64, wr_u32, wr_u8, Int.reduceLT, Int.toNat_one, Int.toNat_zero, Nat.one_mul, Nat.mul_one, Nat.zero_mul, Nat.mul_zero, Int.reduceNegSucc, trimY, drawV_nil, drawV_cons, stepO_pure, stepO_read, stepO_write, stepO_new, stepO_app, stepO_call, stepO_no, readO, writeO, appO, opL, pureL, bs_len, bs_app, bs_take, bs_drop, Int.toNat_natCast, appBound, Nat.zero_le, Int.natCast_nonneg, Nat.mul_one, Int.le_refl, cells_int, cells_bool, cells_string, cells_slice, cells_agg, all_lit, flat, List.take_length, Int.zero_add, Int.add_zero, sz_2, by_2, ag_2, kn_2, it_2, pt_2, zv_2, zt_2, Try.underlying2, sz_3, by_3, ag_3, kn_3, it_3, pt_3, zv_3, zt_3, Try.underlying3, sz_4, by_4, ag_4, kn_4, it_4, pt_4, zv_4, zt_4, Try.underlying4, sz_5, by_5, ag_5, kn_5, it_5, pt_5, zv_5, zt_5, Try.underlying5, sz_33, by_33, ag_33, kn_33, it_33, pt_33, zv_33, zt_33, Try.underlying33, sz_54, by_54, ag_54, kn_54, it_54, pt_54, el_54, pl_54, sh_54, zv_54, zt_54, Try.underlying54, Try.eqGuardType54, sz_55, by_55, ag_55, kn_55, it_55, pt_55, zv_55, zt_55, Try.underlying55, sz_56, by_56, ag_56, kn_56, it_56, pt_56, zv_56, zt_56, Try.underlying56, Try.results7]; rfl) | rfl))
  all_goals rfl
end Go.Proofs.Ytfcbpdokilidgaa
