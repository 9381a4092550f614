/- Walks: DictBack. -/
import Derived.Test.YtonllhjmoenckaaDictB
import Derived.Test.YtonllhjmoenckaaDictZ
namespace Go.Proofs.Ytonllhjmoenckaa
open Go Go.RowKit
set_option linter.unusedVariables false
set_option linter.unusedSimpArgs false
variable {K : Nat → Obj → Prop}

theorem Di.put_long (d : Di) (k : ByteArray) (h : 64 < k.size) : d.put k = (([], 4), d) := by unfold Di.put; rw [if_pos h]
theorem Di.put_ok (d : Di) (k : ByteArray) (h : ¬ 64 < k.size) : (d.put k).1.2 = 0 := by
  unfold Di.put; rw [if_neg h]; split <;> rfl
theorem Di.put_len {d : Di} (ok : d.Ok) (k : ByteArray) : (d.put k).1.1.length ≤ 100 := by
  unfold Di.put
  split
  · simp
  · split
    · have h8 := ok.at8 k
      have := vput_len (n := (d.at_ k + 1).toNat) (by omega)
      dsimp only; omega
    · rename_i h1 _
      have h0 := vput_len (n := 0) (by decide)
      have h1' := vput_len (n := k.size) (by omega)
      have hs : k.toList.length = k.size := by rw [ByteArray.toList_eq]; simp
      simp [hs]; omega
abbrev Di.inn2 (d : Di) : List Ho := [.cells [.hs true 1 1 0 d.ks.length, .mp 2, .sc (.int .i64 (d.e : Int))], .cells (kc d.ks), .map (pm d.c d.l), .cells [.hs true 1 4 0 d.ks.length, .mp 5, .sc (.int .i64 (d.e : Int))], .cells (kc d.ks), .map (pm d.c d.l)]
theorem dtake2_e {d d' : Di} {b : List UInt8} {r : Tk} (h : d.take (b ++ [1, 2]) = (r, d')) (ok : d.Ok) (hl : b.length ≤ 100) : Sp Try.prog K 38 [.ptr 0 0, .sl 1 (bs b ++ [[.sc (.int .u8 1)], [.sc (.int .u8 2)]])] d.inn fun u hh => u = dtV r ∧ hh = d'.out := by
  have e : bs b ++ [[.sc (.int .u8 1)], [.sc (.int .u8 2)]] = bs (b ++ [1, 2]) := by simp [bs]
  rw [e]
  exact dtake_e h ok (by simp; omega)

set_option maxRecDepth 100000 in
set_option maxHeartbeats 4000000 in
theorem dictback_s (ahead keys : List ByteArray) : Sp Try.prog K 8 [.sl 1 (ds ahead), .sl 1 (ds keys)] [] fun u hh => u = .sc (.bool true) ∧ hh = [] := by
  by_cases ha : 60 < ahead.length
  · have hla : ((60 : Int) < (ahead.length : Int)) = True := by simp; omega
    have hlk : True := trivial
    refine Sp.of_bodyD Try.func8 rfl ?_
    intro Q hQ
    simp only [List.replicate, List.length_cons, List.length_nil, Try.ntmps8, Nat.reduceAdd, Nat.reduceSub, List.cons_append, List.nil_append, go_sem]
    repeat' (first
        | (refine WPV.seqK ?_; intro N hN)
        | refine WPV.block ?_
        | refine WPV.scope ?_
        | refine WPV.skip ?_
        | refine WPV.label ?_
        | refine WPV.exit ?_
        | refine WPV.ret ?_
        | (refine WPV.regionG (M := noM) ?_; intro N hN ops hy; (try simp only [List.append] at hy ⊢); (try simp only [List.map_cons, List.map_nil] at hy))
        | (refine WPV.drawK (M := noM) (by kernel_rfl) (by kernel_rfl) ?_; intro N hN)
        | (refine WPV.condK ?_; intro A hA B hB)
        | ((with_reducible first | refine opsV.here ?_ | refine guardO.here ?_ | refine resO.here ?_ | refine drawV.here ?_ | refine guardD.here ?_ | refine stepO.here ?_ | refine brO.here ?_ | refine condV.here ?_); (first | simp (config := {contextual := true, maxSteps := 1000000}) only [hy, h0, go_sem, reduceCtorEq, Nat.reduceAdd, Nat.reduceSub, Nat.reduceMul, Nat.reduceLT, Nat.reduceLeDiff, Int.reduceLT, Int.reduceLE, Int.reduceEq, Int.reduceNe, Int.reduceAdd, Int.reduceSub, Int.reduceMul, Int.reduceToNat, Int.reduceNeg, Int.reducePow, Nat.reducePow, Nat.reduceEqDiff, Nat.reduceBEq, Int.reduceBEq, Int.reduceBNe, Int.reduceNegSucc, hla, hlk] | simp (config := {contextual := true, maxSteps := 1000000}) only [hy, go_sem, reduceCtorEq, Nat.reduceAdd, Nat.reduceSub, Nat.reduceMul, Nat.reduceLT, Nat.reduceLeDiff, Int.reduceLT, Int.reduceLE, Int.reduceEq, Int.reduceNe, Int.reduceAdd, Int.reduceSub, Int.reduceMul, Int.reduceToNat, Int.reduceNeg, Int.reducePow, Nat.reducePow, Nat.reduceEqDiff, Nat.reduceBEq, Int.reduceBEq, Int.reduceBNe, Int.reduceNegSucc, hla, hlk] | simp (config := {contextual := true, maxSteps := 1000000}) only [yieldedV, h0, go_sem, reduceCtorEq, Nat.reduceAdd, Nat.reduceSub, Nat.reduceMul, Nat.reduceLT, Nat.reduceLeDiff, Int.reduceLT, Int.reduceLE, Int.reduceEq, Int.reduceNe, Int.reduceAdd, Int.reduceSub, Int.reduceMul, Int.reduceToNat, Int.reduceNeg, Int.reducePow, Nat.reducePow, Nat.reduceEqDiff, Nat.reduceBEq, Int.reduceBEq, Int.reduceBNe, Int.reduceNegSucc, hla, hlk] | simp (config := {contextual := true, maxSteps := 1000000}) only [yieldedV, go_sem, reduceCtorEq, Nat.reduceAdd, Nat.reduceSub, Nat.reduceMul, Nat.reduceLT, Nat.reduceLeDiff, Int.reduceLT, Int.reduceLE, Int.reduceEq, Int.reduceNe, Int.reduceAdd, Int.reduceSub, Int.reduceMul, Int.reduceToNat, Int.reduceNeg, Int.reducePow, Nat.reducePow, Nat.reduceEqDiff, Nat.reduceBEq, Int.reduceBEq, Int.reduceBNe, Int.reduceNegSucc, hla, hlk]))
        | (refine And.intro (by kernel_rfl : okOrd _ _ = true) ?_)
        | refine Both.mk ?_ ?_
        | ((with_reducible refine CallO.gd 32 ?_); first
          | (refine CallO.fr [] Try.call32 (awake05_s) (by decide) (by first | (simp only [go_sem, reduceCtorEq, Nat.reduceAdd, Nat.reduceSub, Nat.reduceMul, Nat.reduceLT, Nat.reduceLeDiff, Int.reduceLT, Int.reduceLE, Int.reduceEq, Int.reduceNe, Int.reduceAdd, Int.reduceSub, Int.reduceMul, Int.reduceToNat, Int.reduceNeg, Int.reducePow, Nat.reducePow, Nat.reduceEqDiff, Nat.reduceBEq, Int.reduceBEq, Int.reduceBNe, Int.reduceNegSucc]; done) | rfl) ?_ ?_; (focus ((repeat (first | exact Wk.nil | apply Wk.same | apply Wk.own | apply Wk.full | apply Wk.null)); done)); simp (config := {contextual := true, maxSteps := 1000000}) only [go_sem, reduceCtorEq, Nat.reduceAdd, Nat.reduceSub, Nat.reduceMul, Nat.reduceLT, Nat.reduceLeDiff, Int.reduceLT, Int.reduceLE, Int.reduceEq, Int.reduceNe, Int.reduceAdd, Int.reduceSub, Int.reduceMul, Int.reduceToNat, Int.reduceNeg, Int.reducePow, Nat.reducePow, Nat.reduceEqDiff, Nat.reduceBEq, Int.reduceBEq, Int.reduceBNe, Int.reduceNegSucc, hla, hlk]))
        | ((with_reducible refine CallO.gd 34 ?_); first
          | (refine CallO.fr [] Try.call34 (dnew_s) (by decide) (by first | (simp only [go_sem, reduceCtorEq, Nat.reduceAdd, Nat.reduceSub, Nat.reduceMul, Nat.reduceLT, Nat.reduceLeDiff, Int.reduceLT, Int.reduceLE, Int.reduceEq, Int.reduceNe, Int.reduceAdd, Int.reduceSub, Int.reduceMul, Int.reduceToNat, Int.reduceNeg, Int.reducePow, Nat.reducePow, Nat.reduceEqDiff, Nat.reduceBEq, Int.reduceBEq, Int.reduceBNe, Int.reduceNegSucc]; done) | rfl) ?_ ?_; (focus ((repeat (first | exact Wk.nil | apply Wk.same | apply Wk.own | apply Wk.full | apply Wk.null)); done)); simp (config := {contextual := true, maxSteps := 1000000}) only [go_sem, reduceCtorEq, Nat.reduceAdd, Nat.reduceSub, Nat.reduceMul, Nat.reduceLT, Nat.reduceLeDiff, Int.reduceLT, Int.reduceLE, Int.reduceEq, Int.reduceNe, Int.reduceAdd, Int.reduceSub, Int.reduceMul, Int.reduceToNat, Int.reduceNeg, Int.reducePow, Nat.reducePow, Nat.reduceEqDiff, Nat.reduceBEq, Int.reduceBEq, Int.reduceBNe, Int.reduceNegSucc, hla, hlk]))
        | (refine hN _ ?_; try clear hN N; try clear hy; try clear ops)
        | (clear hN N; refine hN _ ?_; try clear hN N; try clear hy; try clear ops)
        | (clear hN N; clear hN N; refine hN _ ?_; try clear hN N; try clear hy; try clear ops)
        | (clear hN N; clear hN N; clear hN N; refine hN _ ?_; try clear hN N; try clear hy; try clear ops)
        | (clear hN N; clear hN N; clear hN N; clear hN N; refine hN _ ?_; try clear hN N; try clear hy; try clear ops)
        | (clear hN N; clear hN N; clear hN N; clear hN N; clear hN N; refine hN _ ?_; try clear hN N; try clear hy; try clear ops)
        | (refine hA ?_; clear hA A hB B; try simp only [h0])
        | (refine hB ?_; clear hA A hB B; try simp only [h0])
        | ((first | refine guardO.mk (fun h0 => ?_) (fun h0 => ?_) | refine guardD.mk (fun h0 => ?_) (fun h0 => ?_) | refine Br.mk (fun h0 => ?_) (fun h0 => ?_)) <;> (have h := h0; try simp only [decide_eq_true_eq, decide_eq_false_iff_not, Int.not_lt, Int.not_le, beq_iff_eq, beq_eq_false_iff_ne, bne_iff_ne, bne_eq_false_iff_eq, ne_eq, Bool.not_eq_true', Bool.not_eq_false', Decidable.not_not] at h) <;> (try (exfalso; omega)) <;> (try simp only [Bool.not_eq_true', Bool.not_eq_false', beq_true, beq_false] at h0))
        | ((first | rw [if_pos (show _ ∧ _ from ⟨by omega, by omega⟩)] | rw [if_pos (show _ ∧ _ from by simp only [List.length_append, List.length_cons, List.length_nil]; exact ⟨by omega, by omega⟩)]); simp (config := {contextual := true, maxSteps := 1000000}) only [yieldedV, go_sem, reduceCtorEq, Nat.reduceAdd, Nat.reduceSub, Nat.reduceMul, Nat.reduceLT, Nat.reduceLeDiff, Int.reduceLT, Int.reduceLE, Int.reduceEq, Int.reduceNe, Int.reduceAdd, Int.reduceSub, Int.reduceMul, Int.reduceToNat, Int.reduceNeg, Int.reducePow, Nat.reducePow, Nat.reduceEqDiff, Nat.reduceBEq, Int.reduceBEq, Int.reduceBNe, Int.reduceNegSucc, hla, hlk])
        | (simp only [thenV, blockV, if_true, if_false, Nat.reduceEqDiff, reduceCtorEq, imp_self]))
    all_goals (apply And.right; refine hQ _ _ _ (Desc.re [] rfl) ?_ ⟨rfl, ?_⟩)
    · (first | (simp only [go_sem, reduceCtorEq, Nat.reduceAdd, Nat.reduceSub, Nat.reduceMul, Nat.reduceLT, Nat.reduceLeDiff, Int.reduceLT, Int.reduceLE, Int.reduceEq, Int.reduceNe, Int.reduceAdd, Int.reduceSub, Int.reduceMul, Int.reduceToNat, Int.reduceNeg, Int.reducePow, Nat.reducePow, Nat.reduceEqDiff, Nat.reduceBEq, Int.reduceBEq, Int.reduceBNe, Int.reduceNegSucc, Try.results8]; done) | (simp only [go_sem, reduceCtorEq, Nat.reduceAdd, Nat.reduceSub, Nat.reduceMul, Nat.reduceLT, Nat.reduceLeDiff, Int.reduceLT, Int.reduceLE, Int.reduceEq, Int.reduceNe, Int.reduceAdd, Int.reduceSub, Int.reduceMul, Int.reduceToNat, Int.reduceNeg, Int.reducePow, Nat.reducePow, Nat.reduceEqDiff, Nat.reduceBEq, Int.reduceBEq, Int.reduceBNe, Int.reduceNegSucc, Try.results8]; rfl) | rfl)
    · (first | (simp only [go_sem, reduceCtorEq, Nat.reduceAdd, Nat.reduceSub, Nat.reduceMul, Nat.reduceLT, Nat.reduceLeDiff, Int.reduceLT, Int.reduceLE, Int.reduceEq, Int.reduceNe, Int.reduceAdd, Int.reduceSub, Int.reduceMul, Int.reduceToNat, Int.reduceNeg, Int.reducePow, Nat.reducePow, Nat.reduceEqDiff, Nat.reduceBEq, Int.reduceBEq, Int.reduceBNe, Int.reduceNegSucc]; done) | (simp only [go_sem, reduceCtorEq, Nat.reduceAdd, Nat.reduceSub, Nat.reduceMul, Nat.reduceLT, Nat.reduceLeDiff, Int.reduceLT, Int.reduceLE, Int.reduceEq, Int.reduceNe, Int.reduceAdd, Int.reduceSub, Int.reduceMul, Int.reduceToNat, Int.reduceNeg, Int.reducePow, Nat.reducePow, Nat.reduceEqDiff, Nat.reduceBEq, Int.reduceBEq, Int.reduceBNe, Int.reduceNegSucc]; rfl) | rfl)
  by_cases hk : 60 < keys.length
  · have hla : ((60 : Int) < (ahead.length : Int)) = False := by simp; omega
    have hlk : ((60 : Int) < (keys.length : Int)) = True := by simp; omega
    refine Sp.of_bodyD Try.func8 rfl ?_
    intro Q hQ
    simp only [List.replicate, List.length_cons, List.length_nil, Try.ntmps8, Nat.reduceAdd, Nat.reduceSub, List.cons_append, List.nil_append, go_sem]
    repeat' (first
        | (refine WPV.seqK ?_; intro N hN)
        | refine WPV.block ?_
        | refine WPV.scope ?_
        | refine WPV.skip ?_
        | refine WPV.label ?_
        | refine WPV.exit ?_
        | refine WPV.ret ?_
        | (refine WPV.regionG (M := noM) ?_; intro N hN ops hy; (try simp only [List.append] at hy ⊢); (try simp only [List.map_cons, List.map_nil] at hy))
        | (refine WPV.drawK (M := noM) (by kernel_rfl) (by kernel_rfl) ?_; intro N hN)
        | (refine WPV.condK ?_; intro A hA B hB)
        | ((with_reducible first | refine opsV.here ?_ | refine guardO.here ?_ | refine resO.here ?_ | refine drawV.here ?_ | refine guardD.here ?_ | refine stepO.here ?_ | refine brO.here ?_ | refine condV.here ?_); (first | simp (config := {contextual := true, maxSteps := 1000000}) only [hy, h0, go_sem, reduceCtorEq, Nat.reduceAdd, Nat.reduceSub, Nat.reduceMul, Nat.reduceLT, Nat.reduceLeDiff, Int.reduceLT, Int.reduceLE, Int.reduceEq, Int.reduceNe, Int.reduceAdd, Int.reduceSub, Int.reduceMul, Int.reduceToNat, Int.reduceNeg, Int.reducePow, Nat.reducePow, Nat.reduceEqDiff, Nat.reduceBEq, Int.reduceBEq, Int.reduceBNe, Int.reduceNegSucc, hla, hlk] | simp (config := {contextual := true, maxSteps := 1000000}) only [hy, go_sem, reduceCtorEq, Nat.reduceAdd, Nat.reduceSub, Nat.reduceMul, Nat.reduceLT, Nat.reduceLeDiff, Int.reduceLT, Int.reduceLE, Int.reduceEq, Int.reduceNe, Int.reduceAdd, Int.reduceSub, Int.reduceMul, Int.reduceToNat, Int.reduceNeg, Int.reducePow, Nat.reducePow, Nat.reduceEqDiff, Nat.reduceBEq, Int.reduceBEq, Int.reduceBNe, Int.reduceNegSucc, hla, hlk] | simp (config := {contextual := true, maxSteps := 1000000}) only [yieldedV, h0, go_sem, reduceCtorEq, Nat.reduceAdd, Nat.reduceSub, Nat.reduceMul, Nat.reduceLT, Nat.reduceLeDiff, Int.reduceLT, Int.reduceLE, Int.reduceEq, Int.reduceNe, Int.reduceAdd, Int.reduceSub, Int.reduceMul, Int.reduceToNat, Int.reduceNeg, Int.reducePow, Nat.reducePow, Nat.reduceEqDiff, Nat.reduceBEq, Int.reduceBEq, Int.reduceBNe, Int.reduceNegSucc, hla, hlk] | simp (config := {contextual := true, maxSteps := 1000000}) only [yieldedV, go_sem, reduceCtorEq, Nat.reduceAdd, Nat.reduceSub, Nat.reduceMul, Nat.reduceLT, Nat.reduceLeDiff, Int.reduceLT, Int.reduceLE, Int.reduceEq, Int.reduceNe, Int.reduceAdd, Int.reduceSub, Int.reduceMul, Int.reduceToNat, Int.reduceNeg, Int.reducePow, Nat.reducePow, Nat.reduceEqDiff, Nat.reduceBEq, Int.reduceBEq, Int.reduceBNe, Int.reduceNegSucc, hla, hlk]))
        | (refine And.intro (by kernel_rfl : okOrd _ _ = true) ?_)
        | refine Both.mk ?_ ?_
        | ((with_reducible refine CallO.gd 32 ?_); first
          | (refine CallO.fr [] Try.call32 (awake05_s) (by decide) (by first | (simp only [go_sem, reduceCtorEq, Nat.reduceAdd, Nat.reduceSub, Nat.reduceMul, Nat.reduceLT, Nat.reduceLeDiff, Int.reduceLT, Int.reduceLE, Int.reduceEq, Int.reduceNe, Int.reduceAdd, Int.reduceSub, Int.reduceMul, Int.reduceToNat, Int.reduceNeg, Int.reducePow, Nat.reducePow, Nat.reduceEqDiff, Nat.reduceBEq, Int.reduceBEq, Int.reduceBNe, Int.reduceNegSucc]; done) | rfl) ?_ ?_; (focus ((repeat (first | exact Wk.nil | apply Wk.same | apply Wk.own | apply Wk.full | apply Wk.null)); done)); simp (config := {contextual := true, maxSteps := 1000000}) only [go_sem, reduceCtorEq, Nat.reduceAdd, Nat.reduceSub, Nat.reduceMul, Nat.reduceLT, Nat.reduceLeDiff, Int.reduceLT, Int.reduceLE, Int.reduceEq, Int.reduceNe, Int.reduceAdd, Int.reduceSub, Int.reduceMul, Int.reduceToNat, Int.reduceNeg, Int.reducePow, Nat.reducePow, Nat.reduceEqDiff, Nat.reduceBEq, Int.reduceBEq, Int.reduceBNe, Int.reduceNegSucc, hla, hlk]))
        | ((with_reducible refine CallO.gd 34 ?_); first
          | (refine CallO.fr [] Try.call34 (dnew_s) (by decide) (by first | (simp only [go_sem, reduceCtorEq, Nat.reduceAdd, Nat.reduceSub, Nat.reduceMul, Nat.reduceLT, Nat.reduceLeDiff, Int.reduceLT, Int.reduceLE, Int.reduceEq, Int.reduceNe, Int.reduceAdd, Int.reduceSub, Int.reduceMul, Int.reduceToNat, Int.reduceNeg, Int.reducePow, Nat.reducePow, Nat.reduceEqDiff, Nat.reduceBEq, Int.reduceBEq, Int.reduceBNe, Int.reduceNegSucc]; done) | rfl) ?_ ?_; (focus ((repeat (first | exact Wk.nil | apply Wk.same | apply Wk.own | apply Wk.full | apply Wk.null)); done)); simp (config := {contextual := true, maxSteps := 1000000}) only [go_sem, reduceCtorEq, Nat.reduceAdd, Nat.reduceSub, Nat.reduceMul, Nat.reduceLT, Nat.reduceLeDiff, Int.reduceLT, Int.reduceLE, Int.reduceEq, Int.reduceNe, Int.reduceAdd, Int.reduceSub, Int.reduceMul, Int.reduceToNat, Int.reduceNeg, Int.reducePow, Nat.reducePow, Nat.reduceEqDiff, Nat.reduceBEq, Int.reduceBEq, Int.reduceBNe, Int.reduceNegSucc, hla, hlk]))
        | (refine hN _ ?_; try clear hN N; try clear hy; try clear ops)
        | (clear hN N; refine hN _ ?_; try clear hN N; try clear hy; try clear ops)
        | (clear hN N; clear hN N; refine hN _ ?_; try clear hN N; try clear hy; try clear ops)
        | (clear hN N; clear hN N; clear hN N; refine hN _ ?_; try clear hN N; try clear hy; try clear ops)
        | (clear hN N; clear hN N; clear hN N; clear hN N; refine hN _ ?_; try clear hN N; try clear hy; try clear ops)
        | (clear hN N; clear hN N; clear hN N; clear hN N; clear hN N; refine hN _ ?_; try clear hN N; try clear hy; try clear ops)
        | (refine hA ?_; clear hA A hB B; try simp only [h0])
        | (refine hB ?_; clear hA A hB B; try simp only [h0])
        | ((first | refine guardO.mk (fun h0 => ?_) (fun h0 => ?_) | refine guardD.mk (fun h0 => ?_) (fun h0 => ?_) | refine Br.mk (fun h0 => ?_) (fun h0 => ?_)) <;> (have h := h0; try simp only [decide_eq_true_eq, decide_eq_false_iff_not, Int.not_lt, Int.not_le, beq_iff_eq, beq_eq_false_iff_ne, bne_iff_ne, bne_eq_false_iff_eq, ne_eq, Bool.not_eq_true', Bool.not_eq_false', Decidable.not_not] at h) <;> (try (exfalso; omega)) <;> (try simp only [Bool.not_eq_true', Bool.not_eq_false', beq_true, beq_false] at h0))
        | ((first | rw [if_pos (show _ ∧ _ from ⟨by omega, by omega⟩)] | rw [if_pos (show _ ∧ _ from by simp only [List.length_append, List.length_cons, List.length_nil]; exact ⟨by omega, by omega⟩)]); simp (config := {contextual := true, maxSteps := 1000000}) only [yieldedV, go_sem, reduceCtorEq, Nat.reduceAdd, Nat.reduceSub, Nat.reduceMul, Nat.reduceLT, Nat.reduceLeDiff, Int.reduceLT, Int.reduceLE, Int.reduceEq, Int.reduceNe, Int.reduceAdd, Int.reduceSub, Int.reduceMul, Int.reduceToNat, Int.reduceNeg, Int.reducePow, Nat.reducePow, Nat.reduceEqDiff, Nat.reduceBEq, Int.reduceBEq, Int.reduceBNe, Int.reduceNegSucc, hla, hlk])
        | (simp only [thenV, blockV, if_true, if_false, Nat.reduceEqDiff, reduceCtorEq, imp_self]))
    all_goals (apply And.right; refine hQ _ _ _ (Desc.re [] rfl) ?_ ⟨rfl, ?_⟩)
    · (first | (simp only [go_sem, reduceCtorEq, Nat.reduceAdd, Nat.reduceSub, Nat.reduceMul, Nat.reduceLT, Nat.reduceLeDiff, Int.reduceLT, Int.reduceLE, Int.reduceEq, Int.reduceNe, Int.reduceAdd, Int.reduceSub, Int.reduceMul, Int.reduceToNat, Int.reduceNeg, Int.reducePow, Nat.reducePow, Nat.reduceEqDiff, Nat.reduceBEq, Int.reduceBEq, Int.reduceBNe, Int.reduceNegSucc, Try.results8]; done) | (simp only [go_sem, reduceCtorEq, Nat.reduceAdd, Nat.reduceSub, Nat.reduceMul, Nat.reduceLT, Nat.reduceLeDiff, Int.reduceLT, Int.reduceLE, Int.reduceEq, Int.reduceNe, Int.reduceAdd, Int.reduceSub, Int.reduceMul, Int.reduceToNat, Int.reduceNeg, Int.reducePow, Nat.reducePow, Nat.reduceEqDiff, Nat.reduceBEq, Int.reduceBEq, Int.reduceBNe, Int.reduceNegSucc, Try.results8]; rfl) | rfl)
    · (first | (simp only [go_sem, reduceCtorEq, Nat.reduceAdd, Nat.reduceSub, Nat.reduceMul, Nat.reduceLT, Nat.reduceLeDiff, Int.reduceLT, Int.reduceLE, Int.reduceEq, Int.reduceNe, Int.reduceAdd, Int.reduceSub, Int.reduceMul, Int.reduceToNat, Int.reduceNeg, Int.reducePow, Nat.reducePow, Nat.reduceEqDiff, Nat.reduceBEq, Int.reduceBEq, Int.reduceBNe, Int.reduceNegSucc]; done) | (simp only [go_sem, reduceCtorEq, Nat.reduceAdd, Nat.reduceSub, Nat.reduceMul, Nat.reduceLT, Nat.reduceLeDiff, Int.reduceLT, Int.reduceLE, Int.reduceEq, Int.reduceNe, Int.reduceAdd, Int.reduceSub, Int.reduceMul, Int.reduceToNat, Int.reduceNeg, Int.reducePow, Nat.reducePow, Nat.reduceEqDiff, Nat.reduceBEq, Int.reduceBEq, Int.reduceBNe, Int.reduceNegSucc]; rfl) | rfl)
  have hla : ((60 : Int) < (ahead.length : Int)) = False := by simp; omega
  have hlk : ((60 : Int) < (keys.length : Int)) = False := by simp; omega
  refine Sp.of_bodyD Try.func8 rfl ?_
  intro Q hQ
  simp only [List.replicate, List.length_cons, List.length_nil, Try.ntmps8, Nat.reduceAdd, Nat.reduceSub, List.cons_append, List.nil_append, go_sem]
  repeat' (first
      | (refine WPV.seqK ?_; intro N hN)
      | refine WPV.block ?_
      | refine WPV.scope ?_
      | refine WPV.skip ?_
      | refine WPV.label ?_
      | refine WPV.exit ?_
      | refine WPV.ret ?_
      | (refine WPV.regionG (M := noM) ?_; intro N hN ops hy; (try simp only [List.append] at hy ⊢); (try simp only [List.map_cons, List.map_nil] at hy))
      | (refine WPV.drawK (M := noM) (by kernel_rfl) (by kernel_rfl) ?_; intro N hN)
      | (refine WPV.condK ?_; intro A hA B hB)
      | ((with_reducible first | refine opsV.here ?_ | refine guardO.here ?_ | refine resO.here ?_ | refine drawV.here ?_ | refine guardD.here ?_ | refine stepO.here ?_ | refine brO.here ?_ | refine condV.here ?_); (first | simp (config := {contextual := true, maxSteps := 1000000}) only [hy, h0, go_sem, reduceCtorEq, Nat.reduceAdd, Nat.reduceSub, Nat.reduceMul, Nat.reduceLT, Nat.reduceLeDiff, Int.reduceLT, Int.reduceLE, Int.reduceEq, Int.reduceNe, Int.reduceAdd, Int.reduceSub, Int.reduceMul, Int.reduceToNat, Int.reduceNeg, Int.reducePow, Nat.reducePow, Nat.reduceEqDiff, Nat.reduceBEq, Int.reduceBEq, Int.reduceBNe, Int.reduceNegSucc, hla, hlk] | simp (config := {contextual := true, maxSteps := 1000000}) only [hy, go_sem, reduceCtorEq, Nat.reduceAdd, Nat.reduceSub, Nat.reduceMul, Nat.reduceLT, Nat.reduceLeDiff, Int.reduceLT, Int.reduceLE, Int.reduceEq, Int.reduceNe, Int.reduceAdd, Int.reduceSub, Int.reduceMul, Int.reduceToNat, Int.reduceNeg, Int.reducePow, Nat.reducePow, Nat.reduceEqDiff, Nat.reduceBEq, Int.reduceBEq, Int.reduceBNe, Int.reduceNegSucc, hla, hlk] | simp (config := {contextual := true, maxSteps := 1000000}) only [yieldedV, h0, go_sem, reduceCtorEq, Nat.reduceAdd, Nat.reduceSub, Nat.reduceMul, Nat.reduceLT, Nat.reduceLeDiff, Int.reduceLT, Int.reduceLE, Int.reduceEq, Int.reduceNe, Int.reduceAdd, Int.reduceSub, Int.reduceMul, Int.reduceToNat, Int.reduceNeg, Int.reducePow, Nat.reducePow, Nat.reduceEqDiff, Nat.reduceBEq, Int.reduceBEq, Int.reduceBNe, Int.reduceNegSucc, hla, hlk] | simp (config := {contextual := true, maxSteps := 1000000}) only [yieldedV, go_sem, reduceCtorEq, Nat.reduceAdd, Nat.reduceSub, Nat.reduceMul, Nat.reduceLT, Nat.reduceLeDiff, Int.reduceLT, Int.reduceLE, Int.reduceEq, Int.reduceNe, Int.reduceAdd, Int.reduceSub, Int.reduceMul, Int.reduceToNat, Int.reduceNeg, Int.reducePow, Nat.reducePow, Nat.reduceEqDiff, Nat.reduceBEq, Int.reduceBEq, Int.reduceBNe, Int.reduceNegSucc, hla, hlk]))
      | (refine And.intro (by kernel_rfl : okOrd _ _ = true) ?_)
      | refine Both.mk ?_ ?_
      | ((with_reducible refine CallO.gd 32 ?_); first
        | (refine CallO.fr [] Try.call32 (awake05_s) (by decide) (by first | (simp only [go_sem, reduceCtorEq, Nat.reduceAdd, Nat.reduceSub, Nat.reduceMul, Nat.reduceLT, Nat.reduceLeDiff, Int.reduceLT, Int.reduceLE, Int.reduceEq, Int.reduceNe, Int.reduceAdd, Int.reduceSub, Int.reduceMul, Int.reduceToNat, Int.reduceNeg, Int.reducePow, Nat.reducePow, Nat.reduceEqDiff, Nat.reduceBEq, Int.reduceBEq, Int.reduceBNe, Int.reduceNegSucc]; done) | rfl) ?_ ?_; (focus ((repeat (first | exact Wk.nil | apply Wk.same | apply Wk.own | apply Wk.full | apply Wk.null)); done)); simp (config := {contextual := true, maxSteps := 1000000}) only [go_sem, reduceCtorEq, Nat.reduceAdd, Nat.reduceSub, Nat.reduceMul, Nat.reduceLT, Nat.reduceLeDiff, Int.reduceLT, Int.reduceLE, Int.reduceEq, Int.reduceNe, Int.reduceAdd, Int.reduceSub, Int.reduceMul, Int.reduceToNat, Int.reduceNeg, Int.reducePow, Nat.reducePow, Nat.reduceEqDiff, Nat.reduceBEq, Int.reduceBEq, Int.reduceBNe, Int.reduceNegSucc, hla, hlk]))
      | ((with_reducible refine CallO.gd 34 ?_); first
        | (refine CallO.fr [] Try.call34 (dnew_s) (by decide) (by first | (simp only [go_sem, reduceCtorEq, Nat.reduceAdd, Nat.reduceSub, Nat.reduceMul, Nat.reduceLT, Nat.reduceLeDiff, Int.reduceLT, Int.reduceLE, Int.reduceEq, Int.reduceNe, Int.reduceAdd, Int.reduceSub, Int.reduceMul, Int.reduceToNat, Int.reduceNeg, Int.reducePow, Nat.reducePow, Nat.reduceEqDiff, Nat.reduceBEq, Int.reduceBEq, Int.reduceBNe, Int.reduceNegSucc]; done) | rfl) ?_ ?_; (focus ((repeat (first | exact Wk.nil | apply Wk.same | apply Wk.own | apply Wk.full | apply Wk.null)); done)); simp (config := {contextual := true, maxSteps := 1000000}) only [go_sem, reduceCtorEq, Nat.reduceAdd, Nat.reduceSub, Nat.reduceMul, Nat.reduceLT, Nat.reduceLeDiff, Int.reduceLT, Int.reduceLE, Int.reduceEq, Int.reduceNe, Int.reduceAdd, Int.reduceSub, Int.reduceMul, Int.reduceToNat, Int.reduceNeg, Int.reducePow, Nat.reducePow, Nat.reduceEqDiff, Nat.reduceBEq, Int.reduceBEq, Int.reduceBNe, Int.reduceNegSucc, hla, hlk]))
      | (refine hN _ ?_; try clear hN N; try clear hy; try clear ops)
      | (clear hN N; refine hN _ ?_; try clear hN N; try clear hy; try clear ops)
      | (clear hN N; clear hN N; refine hN _ ?_; try clear hN N; try clear hy; try clear ops)
      | (clear hN N; clear hN N; clear hN N; refine hN _ ?_; try clear hN N; try clear hy; try clear ops)
      | (clear hN N; clear hN N; clear hN N; clear hN N; refine hN _ ?_; try clear hN N; try clear hy; try clear ops)
      | (clear hN N; clear hN N; clear hN N; clear hN N; clear hN N; refine hN _ ?_; try clear hN N; try clear hy; try clear ops)
      | (refine hA ?_; clear hA A hB B; try simp only [h0])
      | (refine hB ?_; clear hA A hB B; try simp only [h0])
      | ((first | refine guardO.mk (fun h0 => ?_) (fun h0 => ?_) | refine guardD.mk (fun h0 => ?_) (fun h0 => ?_) | refine Br.mk (fun h0 => ?_) (fun h0 => ?_)) <;> (have h := h0; try simp only [decide_eq_true_eq, decide_eq_false_iff_not, Int.not_lt, Int.not_le, beq_iff_eq, beq_eq_false_iff_ne, bne_iff_ne, bne_eq_false_iff_eq, ne_eq, Bool.not_eq_true', Bool.not_eq_false', Decidable.not_not] at h) <;> (try (exfalso; omega)) <;> (try simp only [Bool.not_eq_true', Bool.not_eq_false', beq_true, beq_false] at h0))
      | ((first | rw [if_pos (show _ ∧ _ from ⟨by omega, by omega⟩)] | rw [if_pos (show _ ∧ _ from by simp only [List.length_append, List.length_cons, List.length_nil]; exact ⟨by omega, by omega⟩)]); simp (config := {contextual := true, maxSteps := 1000000}) only [yieldedV, go_sem, reduceCtorEq, Nat.reduceAdd, Nat.reduceSub, Nat.reduceMul, Nat.reduceLT, Nat.reduceLeDiff, Int.reduceLT, Int.reduceLE, Int.reduceEq, Int.reduceNe, Int.reduceAdd, Int.reduceSub, Int.reduceMul, Int.reduceToNat, Int.reduceNeg, Int.reducePow, Nat.reducePow, Nat.reduceEqDiff, Nat.reduceBEq, Int.reduceBEq, Int.reduceBNe, Int.reduceNegSucc, hla, hlk])
      | (simp only [thenV, blockV, if_true, if_false, Nat.reduceEqDiff, reduceCtorEq, imp_self]))
  refine WPV.desc (Desc.weak (tm' := [.sl 1 (ds ahead), .sl 1 (ds keys), .any, .any, .sc (.bool false), .ptr 0 0, .any, .any, .any, .any, .any, .any, .any, .any, .any, .any, .any, .any, .any, .any, .any, .any, .any, .any, .any, .any, .any, .any, .any, .any, .any, .any, .any, .sl 1 (ds ahead), .sc (.int .i64 (ahead.length : Int)), .sc (.int .i64 ((0 : Nat) : Int)), .any, .any, .any, .any, .any, .any, .any, .any, .any, .any, .any, .any, .any, .any, .any, .any, .any, .any, .any, .any, .any, .any, .any, .any, .any, .any, .any, .any, .any, .any, .any, .any, .any, .any, .any, .any, .any, .any, .any, .any, .any, .any, .any, .any, .any, .any, .any, .any, .any, .any, .any, .any, .any, .any, .any, .any, .any, .any, .any, .any, .any, .any, .any, .any, .any, .any, .any, .any, .any, .any, .any, .any, .any, .any, .any, .any, .any, .any, .any, .any, .any, .any, .any, .any, .any]) (h' := (dfold Di.new (ahead.take 0)).inn) (by (repeat (first | exact Wk.nil | apply Wk.same | apply Wk.own | apply Wk.full | apply Wk.null | apply Wk.any))) (by simp only [List.take_zero, dfold_nil]; exact WkH.refl _)) ?_
  refine WPV.loopA (α := Nat) (fun k => ahead.length - k) (fun k => ⟨[.sl 1 (ds ahead), .sl 1 (ds keys), .any, .any, .sc (.bool false), .ptr 0 0, .any, .any, .any, .any, .any, .any, .any, .any, .any, .any, .any, .any, .any, .any, .any, .any, .any, .any, .any, .any, .any, .any, .any, .any, .any, .any, .any, .sl 1 (ds ahead), .sc (.int .i64 (ahead.length : Int)), .sc (.int .i64 ((k : Nat) : Int)), .any, .any, .any, .any, .any, .any, .any, .any, .any, .any, .any, .any, .any, .any, .any, .any, .any, .any, .any, .any, .any, .any, .any, .any, .any, .any, .any, .any, .any, .any, .any, .any, .any, .any, .any, .any, .any, .any, .any, .any, .any, .any, .any, .any, .any, .any, .any, .any, .any, .any, .any, .any, .any, .any, .any, .any, .any, .any, .any, .any, .any, .any, .any, .any, .any, .any, .any, .any, .any, .any, .any, .any, .any, .any, .any, .any, .any, .any, .any, .any, .any, .any, .any, .any, .any], (dfold Di.new (ahead.take k)).inn⟩) (fun k => k ≤ ahead.length) (fun k hk0 H => ?_) 0 (Nat.zero_le _)
  dsimp only at hk0 H ⊢
  by_cases h : k < ahead.length
  · have hlt : ((k : Int) < (ahead.length : Int)) = True := by simp; omega
    have hget : ahead[k]? = some ahead[k] := List.getElem?_eq_getElem h
    have hw : IntKind.i64.wrap ((k : Int) + 1) = ((k + 1 : Nat) : Int) := by rw [wr_i64 (by omega) (by omega)]; rfl
    generalize ahead[k] = key at hget
    have hts := take_snoc hget
    have H' := H (k + 1) (by omega) (by omega)
    rw [hts, dfold_snoc] at H'
    have ok := dfold_ok (ahead.take k) Di.Ok.nw
    generalize dfold Di.new (ahead.take k) = d at H' ok ⊢
    obtain ⟨x, d', hd⟩ : ∃ x d', d.put key = (x, d') := ⟨_, _, rfl⟩
    rw [hd] at H'
    clear H
    refine loopV ?_
    repeat' (first
        | (refine WPV.seqK ?_; intro N hN)
        | refine WPV.block ?_
        | refine WPV.scope ?_
        | refine WPV.skip ?_
        | refine WPV.label ?_
        | refine WPV.exit ?_
        | refine WPV.ret ?_
        | (refine WPV.regionG (M := noM) ?_; intro N hN ops hy; (try simp only [List.append] at hy ⊢); (try simp only [List.map_cons, List.map_nil] at hy))
        | (refine WPV.drawK (M := noM) (by kernel_rfl) (by kernel_rfl) ?_; intro N hN)
        | (refine WPV.condK ?_; intro A hA B hB)
        | ((with_reducible first | refine opsV.here ?_ | refine guardO.here ?_ | refine resO.here ?_ | refine drawV.here ?_ | refine guardD.here ?_ | refine stepO.here ?_ | refine brO.here ?_ | refine condV.here ?_); (first | simp (config := {contextual := true, maxSteps := 1000000}) only [hy, h0, go_sem, reduceCtorEq, Nat.reduceAdd, Nat.reduceSub, Nat.reduceMul, Nat.reduceLT, Nat.reduceLeDiff, Int.reduceLT, Int.reduceLE, Int.reduceEq, Int.reduceNe, Int.reduceAdd, Int.reduceSub, Int.reduceMul, Int.reduceToNat, Int.reduceNeg, Int.reducePow, Nat.reducePow, Nat.reduceEqDiff, Nat.reduceBEq, Int.reduceBEq, Int.reduceBNe, Int.reduceNegSucc, hlt, hget, hw] | simp (config := {contextual := true, maxSteps := 1000000}) only [hy, go_sem, reduceCtorEq, Nat.reduceAdd, Nat.reduceSub, Nat.reduceMul, Nat.reduceLT, Nat.reduceLeDiff, Int.reduceLT, Int.reduceLE, Int.reduceEq, Int.reduceNe, Int.reduceAdd, Int.reduceSub, Int.reduceMul, Int.reduceToNat, Int.reduceNeg, Int.reducePow, Nat.reducePow, Nat.reduceEqDiff, Nat.reduceBEq, Int.reduceBEq, Int.reduceBNe, Int.reduceNegSucc, hlt, hget, hw] | simp (config := {contextual := true, maxSteps := 1000000}) only [yieldedV, h0, go_sem, reduceCtorEq, Nat.reduceAdd, Nat.reduceSub, Nat.reduceMul, Nat.reduceLT, Nat.reduceLeDiff, Int.reduceLT, Int.reduceLE, Int.reduceEq, Int.reduceNe, Int.reduceAdd, Int.reduceSub, Int.reduceMul, Int.reduceToNat, Int.reduceNeg, Int.reducePow, Nat.reducePow, Nat.reduceEqDiff, Nat.reduceBEq, Int.reduceBEq, Int.reduceBNe, Int.reduceNegSucc, hlt, hget, hw] | simp (config := {contextual := true, maxSteps := 1000000}) only [yieldedV, go_sem, reduceCtorEq, Nat.reduceAdd, Nat.reduceSub, Nat.reduceMul, Nat.reduceLT, Nat.reduceLeDiff, Int.reduceLT, Int.reduceLE, Int.reduceEq, Int.reduceNe, Int.reduceAdd, Int.reduceSub, Int.reduceMul, Int.reduceToNat, Int.reduceNeg, Int.reducePow, Nat.reducePow, Nat.reduceEqDiff, Nat.reduceBEq, Int.reduceBEq, Int.reduceBNe, Int.reduceNegSucc, hlt, hget, hw]))
        | (refine And.intro (by kernel_rfl : okOrd _ _ = true) ?_)
        | refine Both.mk ?_ ?_
        | ((with_reducible refine CallO.gd 35 ?_); first
          | (refine CallO.fr [0, 1, 2] Try.call35 (dput_e hd ok) (by decide) (by first | (simp only [go_sem, reduceCtorEq, Nat.reduceAdd, Nat.reduceSub, Nat.reduceMul, Nat.reduceLT, Nat.reduceLeDiff, Int.reduceLT, Int.reduceLE, Int.reduceEq, Int.reduceNe, Int.reduceAdd, Int.reduceSub, Int.reduceMul, Int.reduceToNat, Int.reduceNeg, Int.reducePow, Nat.reducePow, Nat.reduceEqDiff, Nat.reduceBEq, Int.reduceBEq, Int.reduceBNe, Int.reduceNegSucc]; done) | rfl) ?_ ?_; (focus ((repeat (first | exact Wk.nil | apply Wk.same | apply Wk.own | apply Wk.full | apply Wk.null)); done)); simp (config := {contextual := true, maxSteps := 1000000}) only [go_sem, reduceCtorEq, Nat.reduceAdd, Nat.reduceSub, Nat.reduceMul, Nat.reduceLT, Nat.reduceLeDiff, Int.reduceLT, Int.reduceLE, Int.reduceEq, Int.reduceNe, Int.reduceAdd, Int.reduceSub, Int.reduceMul, Int.reduceToNat, Int.reduceNeg, Int.reducePow, Nat.reducePow, Nat.reduceEqDiff, Nat.reduceBEq, Int.reduceBEq, Int.reduceBNe, Int.reduceNegSucc, hlt, hget, hw]))
        | (refine hN _ ?_; try clear hN N; try clear hy; try clear ops)
        | (clear hN N; refine hN _ ?_; try clear hN N; try clear hy; try clear ops)
        | (clear hN N; clear hN N; refine hN _ ?_; try clear hN N; try clear hy; try clear ops)
        | (clear hN N; clear hN N; clear hN N; refine hN _ ?_; try clear hN N; try clear hy; try clear ops)
        | (clear hN N; clear hN N; clear hN N; clear hN N; refine hN _ ?_; try clear hN N; try clear hy; try clear ops)
        | (clear hN N; clear hN N; clear hN N; clear hN N; clear hN N; refine hN _ ?_; try clear hN N; try clear hy; try clear ops)
        | (refine hA ?_; clear hA A hB B; try simp only [h0])
        | (refine hB ?_; clear hA A hB B; try simp only [h0])
        | ((first | refine guardO.mk (fun h0 => ?_) (fun h0 => ?_) | refine guardD.mk (fun h0 => ?_) (fun h0 => ?_) | refine Br.mk (fun h0 => ?_) (fun h0 => ?_)) <;> (have h := h0; try simp only [decide_eq_true_eq, decide_eq_false_iff_not, Int.not_lt, Int.not_le, beq_iff_eq, beq_eq_false_iff_ne, bne_iff_ne, bne_eq_false_iff_eq, ne_eq, Bool.not_eq_true', Bool.not_eq_false', Decidable.not_not] at h) <;> (try (exfalso; omega)) <;> (try simp only [Bool.not_eq_true', Bool.not_eq_false', beq_true, beq_false] at h0))
        | ((first | rw [if_pos (show _ ∧ _ from ⟨by omega, by omega⟩)] | rw [if_pos (show _ ∧ _ from by simp only [List.length_append, List.length_cons, List.length_nil]; exact ⟨by omega, by omega⟩)]); simp (config := {contextual := true, maxSteps := 1000000}) only [yieldedV, go_sem, reduceCtorEq, Nat.reduceAdd, Nat.reduceSub, Nat.reduceMul, Nat.reduceLT, Nat.reduceLeDiff, Int.reduceLT, Int.reduceLE, Int.reduceEq, Int.reduceNe, Int.reduceAdd, Int.reduceSub, Int.reduceMul, Int.reduceToNat, Int.reduceNeg, Int.reducePow, Nat.reducePow, Nat.reduceEqDiff, Nat.reduceBEq, Int.reduceBEq, Int.reduceBNe, Int.reduceNegSucc, hlt, hget, hw])
        | (simp only [thenV, blockV, if_true, if_false, Nat.reduceEqDiff, reduceCtorEq, imp_self]))
    exact WPV.desc ((Desc.re [some 0, some 3, some 4] rfl).trans (Desc.weak (by simp only [go_sem, reduceCtorEq, Nat.reduceAdd, Nat.reduceSub, Nat.reduceMul, Nat.reduceLT, Nat.reduceLeDiff, Int.reduceLT, Int.reduceLE, Int.reduceEq, Int.reduceNe, Int.reduceAdd, Int.reduceSub, Int.reduceMul, Int.reduceToNat, Int.reduceNeg, Int.reducePow, Nat.reducePow, Nat.reduceEqDiff, Nat.reduceBEq, Int.reduceBEq, Int.reduceBNe, Int.reduceNegSucc]; (repeat (first | exact Wk.nil | apply Wk.same | apply Wk.own | apply Wk.full | apply Wk.null | apply Wk.any))) (by simp only [go_sem, reduceCtorEq, Nat.reduceAdd, Nat.reduceSub, Nat.reduceMul, Nat.reduceLT, Nat.reduceLeDiff, Int.reduceLT, Int.reduceLE, Int.reduceEq, Int.reduceNe, Int.reduceAdd, Int.reduceSub, Int.reduceMul, Int.reduceToNat, Int.reduceNeg, Int.reducePow, Nat.reducePow, Nat.reduceEqDiff, Nat.reduceBEq, Int.reduceBEq, Int.reduceBNe, Int.reduceNegSucc]; exact WkH.refl _))) H'
  obtain rfl : k = ahead.length := by omega
  clear H
  rw [List.take_length]
  obtain ⟨d1, hd1⟩ : ∃ d1, d1 = dfold Di.new ahead := ⟨_, rfl⟩
  have ok1 : d1.Ok := by rw [hd1]; exact dfold_ok _ .nw
  rw [← hd1]
  have hlt : ((ahead.length : Int) < (ahead.length : Int)) = False := by simp
  refine loopV ?_
  repeat' (first
      | (refine WPV.seqK ?_; intro N hN)
      | refine WPV.block ?_
      | refine WPV.scope ?_
      | refine WPV.skip ?_
      | refine WPV.label ?_
      | refine WPV.exit ?_
      | refine WPV.ret ?_
      | (refine WPV.regionG (M := noM) ?_; intro N hN ops hy; (try simp only [List.append] at hy ⊢); (try simp only [List.map_cons, List.map_nil] at hy))
      | (refine WPV.drawK (M := noM) (by kernel_rfl) (by kernel_rfl) ?_; intro N hN)
      | (refine WPV.condK ?_; intro A hA B hB)
      | ((with_reducible first | refine opsV.here ?_ | refine guardO.here ?_ | refine resO.here ?_ | refine drawV.here ?_ | refine guardD.here ?_ | refine stepO.here ?_ | refine brO.here ?_ | refine condV.here ?_); (first | simp (config := {contextual := true, maxSteps := 1000000}) only [hy, h0, go_sem, reduceCtorEq, Nat.reduceAdd, Nat.reduceSub, Nat.reduceMul, Nat.reduceLT, Nat.reduceLeDiff, Int.reduceLT, Int.reduceLE, Int.reduceEq, Int.reduceNe, Int.reduceAdd, Int.reduceSub, Int.reduceMul, Int.reduceToNat, Int.reduceNeg, Int.reducePow, Nat.reducePow, Nat.reduceEqDiff, Nat.reduceBEq, Int.reduceBEq, Int.reduceBNe, Int.reduceNegSucc, hlt] | simp (config := {contextual := true, maxSteps := 1000000}) only [hy, go_sem, reduceCtorEq, Nat.reduceAdd, Nat.reduceSub, Nat.reduceMul, Nat.reduceLT, Nat.reduceLeDiff, Int.reduceLT, Int.reduceLE, Int.reduceEq, Int.reduceNe, Int.reduceAdd, Int.reduceSub, Int.reduceMul, Int.reduceToNat, Int.reduceNeg, Int.reducePow, Nat.reducePow, Nat.reduceEqDiff, Nat.reduceBEq, Int.reduceBEq, Int.reduceBNe, Int.reduceNegSucc, hlt] | simp (config := {contextual := true, maxSteps := 1000000}) only [yieldedV, h0, go_sem, reduceCtorEq, Nat.reduceAdd, Nat.reduceSub, Nat.reduceMul, Nat.reduceLT, Nat.reduceLeDiff, Int.reduceLT, Int.reduceLE, Int.reduceEq, Int.reduceNe, Int.reduceAdd, Int.reduceSub, Int.reduceMul, Int.reduceToNat, Int.reduceNeg, Int.reducePow, Nat.reducePow, Nat.reduceEqDiff, Nat.reduceBEq, Int.reduceBEq, Int.reduceBNe, Int.reduceNegSucc, hlt] | simp (config := {contextual := true, maxSteps := 1000000}) only [yieldedV, go_sem, reduceCtorEq, Nat.reduceAdd, Nat.reduceSub, Nat.reduceMul, Nat.reduceLT, Nat.reduceLeDiff, Int.reduceLT, Int.reduceLE, Int.reduceEq, Int.reduceNe, Int.reduceAdd, Int.reduceSub, Int.reduceMul, Int.reduceToNat, Int.reduceNeg, Int.reducePow, Nat.reducePow, Nat.reduceEqDiff, Nat.reduceBEq, Int.reduceBEq, Int.reduceBNe, Int.reduceNegSucc, hlt]))
      | (refine And.intro (by kernel_rfl : okOrd _ _ = true) ?_)
      | refine Both.mk ?_ ?_
      | ((with_reducible refine CallO.gd 42 ?_); first
        | (refine CallO.fr [0, 1, 2] Try.call42 (dkeys_s d1 ok1.len) (by decide) (by first | (simp only [go_sem, reduceCtorEq, Nat.reduceAdd, Nat.reduceSub, Nat.reduceMul, Nat.reduceLT, Nat.reduceLeDiff, Int.reduceLT, Int.reduceLE, Int.reduceEq, Int.reduceNe, Int.reduceAdd, Int.reduceSub, Int.reduceMul, Int.reduceToNat, Int.reduceNeg, Int.reducePow, Nat.reducePow, Nat.reduceEqDiff, Nat.reduceBEq, Int.reduceBEq, Int.reduceBNe, Int.reduceNegSucc]; done) | rfl) ?_ ?_; (focus ((repeat (first | exact Wk.nil | apply Wk.same | apply Wk.own | apply Wk.full | apply Wk.null)); done)); simp (config := {contextual := true, maxSteps := 1000000}) only [go_sem, reduceCtorEq, Nat.reduceAdd, Nat.reduceSub, Nat.reduceMul, Nat.reduceLT, Nat.reduceLeDiff, Int.reduceLT, Int.reduceLE, Int.reduceEq, Int.reduceNe, Int.reduceAdd, Int.reduceSub, Int.reduceMul, Int.reduceToNat, Int.reduceNeg, Int.reducePow, Nat.reducePow, Nat.reduceEqDiff, Nat.reduceBEq, Int.reduceBEq, Int.reduceBNe, Int.reduceNegSucc, hlt]))
      | ((with_reducible refine CallO.gd 45 ?_); first
        | (refine CallO.fr [0, 1, 2] Try.call45 (dcopy_s d1 ok1.len) (by decide) (by first | (simp only [go_sem, reduceCtorEq, Nat.reduceAdd, Nat.reduceSub, Nat.reduceMul, Nat.reduceLT, Nat.reduceLeDiff, Int.reduceLT, Int.reduceLE, Int.reduceEq, Int.reduceNe, Int.reduceAdd, Int.reduceSub, Int.reduceMul, Int.reduceToNat, Int.reduceNeg, Int.reducePow, Nat.reducePow, Nat.reduceEqDiff, Nat.reduceBEq, Int.reduceBEq, Int.reduceBNe, Int.reduceNegSucc]; done) | rfl) ?_ ?_; (focus ((repeat (first | exact Wk.nil | apply Wk.same | apply Wk.own | apply Wk.full | apply Wk.null)); done)); simp (config := {contextual := true, maxSteps := 1000000}) only [go_sem, reduceCtorEq, Nat.reduceAdd, Nat.reduceSub, Nat.reduceMul, Nat.reduceLT, Nat.reduceLeDiff, Int.reduceLT, Int.reduceLE, Int.reduceEq, Int.reduceNe, Int.reduceAdd, Int.reduceSub, Int.reduceMul, Int.reduceToNat, Int.reduceNeg, Int.reducePow, Nat.reducePow, Nat.reduceEqDiff, Nat.reduceBEq, Int.reduceBEq, Int.reduceBNe, Int.reduceNegSucc, hlt]))
      | (refine hN _ ?_; try clear hN N; try clear hy; try clear ops)
      | (clear hN N; refine hN _ ?_; try clear hN N; try clear hy; try clear ops)
      | (clear hN N; clear hN N; refine hN _ ?_; try clear hN N; try clear hy; try clear ops)
      | (clear hN N; clear hN N; clear hN N; refine hN _ ?_; try clear hN N; try clear hy; try clear ops)
      | (clear hN N; clear hN N; clear hN N; clear hN N; refine hN _ ?_; try clear hN N; try clear hy; try clear ops)
      | (clear hN N; clear hN N; clear hN N; clear hN N; clear hN N; refine hN _ ?_; try clear hN N; try clear hy; try clear ops)
      | (refine hA ?_; clear hA A hB B; try simp only [h0])
      | (refine hB ?_; clear hA A hB B; try simp only [h0])
      | ((first | refine guardO.mk (fun h0 => ?_) (fun h0 => ?_) | refine guardD.mk (fun h0 => ?_) (fun h0 => ?_) | refine Br.mk (fun h0 => ?_) (fun h0 => ?_)) <;> (have h := h0; try simp only [decide_eq_true_eq, decide_eq_false_iff_not, Int.not_lt, Int.not_le, beq_iff_eq, beq_eq_false_iff_ne, bne_iff_ne, bne_eq_false_iff_eq, ne_eq, Bool.not_eq_true', Bool.not_eq_false', Decidable.not_not] at h) <;> (try (exfalso; omega)) <;> (try simp only [Bool.not_eq_true', Bool.not_eq_false', beq_true, beq_false] at h0))
      | ((first | rw [if_pos (show _ ∧ _ from ⟨by omega, by omega⟩)] | rw [if_pos (show _ ∧ _ from by simp only [List.length_append, List.length_cons, List.length_nil]; exact ⟨by omega, by omega⟩)]); simp (config := {contextual := true, maxSteps := 1000000}) only [yieldedV, go_sem, reduceCtorEq, Nat.reduceAdd, Nat.reduceSub, Nat.reduceMul, Nat.reduceLT, Nat.reduceLeDiff, Int.reduceLT, Int.reduceLE, Int.reduceEq, Int.reduceNe, Int.reduceAdd, Int.reduceSub, Int.reduceMul, Int.reduceToNat, Int.reduceNeg, Int.reducePow, Nat.reducePow, Nat.reduceEqDiff, Nat.reduceBEq, Int.reduceBEq, Int.reduceBNe, Int.reduceNegSucc, hlt])
      | (simp only [thenV, blockV, if_true, if_false, Nat.reduceEqDiff, reduceCtorEq, imp_self]))
  refine WPV.desc (Desc.weak (tm' := [.sl 1 (ds ahead), .sl 1 (ds keys), .any, .any, .sc (.bool false), .ptr 0 0, .any, .any, .sl 1 (ds d1.ks), .ptr 3 0, .any, .any, .any, .any, .any, .any, .any, .any, .any, .any, .any, .any, .any, .any, .any, .any, .any, .any, .any, .any, .any, .any, .any, .any, .any, .any, .any, .any, .any, .any, .any, .any, .any, .any, .any, .any, .any, .any, .any, .sl 1 (ds keys), .sc (.int .i64 (keys.length : Int)), .sc (.int .i64 ((0 : Nat) : Int)), .any, .any, .any, .any, .any, .any, .any, .any, .any, .any, .any, .any, .any, .any, .any, .any, .any, .any, .any, .any, .any, .any, .any, .any, .any, .any, .any, .any, .any, .any, .any, .any, .any, .any, .any, .any, .any, .any, .any, .any, .any, .any, .any, .any, .any, .any, .any, .any, .any, .any, .any, .any, .any, .any, .any, .any, .any, .any, .any, .any, .any, .any, .any, .any, .any, .any, .any, .any, .any]) (h' := d1.inn2) (by (try simp only [go_sem, reduceCtorEq, Nat.reduceAdd, Nat.reduceSub, Nat.reduceMul, Nat.reduceLT, Nat.reduceLeDiff, Int.reduceLT, Int.reduceLE, Int.reduceEq, Int.reduceNe, Int.reduceAdd, Int.reduceSub, Int.reduceMul, Int.reduceToNat, Int.reduceNeg, Int.reducePow, Nat.reducePow, Nat.reduceEqDiff, Nat.reduceBEq, Int.reduceBEq, Int.reduceBNe, Int.reduceNegSucc]); (repeat (first | exact Wk.nil | apply Wk.same | apply Wk.own | apply Wk.full | apply Wk.null | apply Wk.any))) (by (try simp only [go_sem, reduceCtorEq, Nat.reduceAdd, Nat.reduceSub, Nat.reduceMul, Nat.reduceLT, Nat.reduceLeDiff, Int.reduceLT, Int.reduceLE, Int.reduceEq, Int.reduceNe, Int.reduceAdd, Int.reduceSub, Int.reduceMul, Int.reduceToNat, Int.reduceNeg, Int.reducePow, Nat.reducePow, Nat.reduceEqDiff, Nat.reduceBEq, Int.reduceBEq, Int.reduceBNe, Int.reduceNegSucc]); exact WkH.refl _)) ?_
  refine WPV.loopA (α := Nat × Di) (fun s => keys.length - s.1) (fun s => ⟨[.sl 1 (ds ahead), .sl 1 (ds keys), .any, .any, .sc (.bool false), .ptr 0 0, .any, .any, .sl 1 (ds d1.ks), .ptr 3 0, .any, .any, .any, .any, .any, .any, .any, .any, .any, .any, .any, .any, .any, .any, .any, .any, .any, .any, .any, .any, .any, .any, .any, .any, .any, .any, .any, .any, .any, .any, .any, .any, .any, .any, .any, .any, .any, .any, .any, .sl 1 (ds keys), .sc (.int .i64 (keys.length : Int)), .sc (.int .i64 ((s.1 : Nat) : Int)), .any, .any, .any, .any, .any, .any, .any, .any, .any, .any, .any, .any, .any, .any, .any, .any, .any, .any, .any, .any, .any, .any, .any, .any, .any, .any, .any, .any, .any, .any, .any, .any, .any, .any, .any, .any, .any, .any, .any, .any, .any, .any, .any, .any, .any, .any, .any, .any, .any, .any, .any, .any, .any, .any, .any, .any, .any, .any, .any, .any, .any, .any, .any, .any, .any, .any, .any, .any, .any], s.2.inn2⟩) (fun s => s.1 ≤ keys.length ∧ s.2.Ok) (fun s hJ H => ?_) (0, d1) ⟨Nat.zero_le _, ok1⟩
  obtain ⟨j, d⟩ := s
  obtain ⟨hj0, ok⟩ := hJ
  dsimp only at hj0 ok H ⊢
  by_cases hj : j < keys.length
  · have hlt : ((j : Int) < (keys.length : Int)) = True := by simp; omega
    have hget : keys[j]? = some keys[j] := List.getElem?_eq_getElem hj
    have hw : IntKind.i64.wrap ((j : Int) + 1) = ((j + 1 : Nat) : Int) := by rw [wr_i64 (by omega) (by omega)]; rfl
    generalize keys[j] = key at hget
    by_cases h64 : 64 < key.size
    · have hd := d.put_long key h64
      have hsz : ((key.size : Int) ≤ 64) = False := by simp; omega
      have H' := H (j + 1, d) ⟨by dsimp only; omega, ok⟩ (by dsimp only; omega)
      clear H
      dsimp only at H'
      refine loopV ?_
      repeat' (first
          | (refine WPV.seqK ?_; intro N hN)
          | refine WPV.block ?_
          | refine WPV.scope ?_
          | refine WPV.skip ?_
          | refine WPV.label ?_
          | refine WPV.exit ?_
          | refine WPV.ret ?_
          | (refine WPV.regionG (M := noM) ?_; intro N hN ops hy; (try simp only [List.append] at hy ⊢); (try simp only [List.map_cons, List.map_nil] at hy))
          | (refine WPV.drawK (M := noM) (by kernel_rfl) (by kernel_rfl) ?_; intro N hN)
          | (refine WPV.condK ?_; intro A hA B hB)
          | ((with_reducible first | refine opsV.here ?_ | refine guardO.here ?_ | refine resO.here ?_ | refine drawV.here ?_ | refine guardD.here ?_ | refine stepO.here ?_ | refine brO.here ?_ | refine condV.here ?_); (first | simp (config := {contextual := true, maxSteps := 1000000}) only [hy, h0, go_sem, reduceCtorEq, Nat.reduceAdd, Nat.reduceSub, Nat.reduceMul, Nat.reduceLT, Nat.reduceLeDiff, Int.reduceLT, Int.reduceLE, Int.reduceEq, Int.reduceNe, Int.reduceAdd, Int.reduceSub, Int.reduceMul, Int.reduceToNat, Int.reduceNeg, Int.reducePow, Nat.reducePow, Nat.reduceEqDiff, Nat.reduceBEq, Int.reduceBEq, Int.reduceBNe, Int.reduceNegSucc, hlt, hget, hw, hsz, bs_nil] | simp (config := {contextual := true, maxSteps := 1000000}) only [hy, go_sem, reduceCtorEq, Nat.reduceAdd, Nat.reduceSub, Nat.reduceMul, Nat.reduceLT, Nat.reduceLeDiff, Int.reduceLT, Int.reduceLE, Int.reduceEq, Int.reduceNe, Int.reduceAdd, Int.reduceSub, Int.reduceMul, Int.reduceToNat, Int.reduceNeg, Int.reducePow, Nat.reducePow, Nat.reduceEqDiff, Nat.reduceBEq, Int.reduceBEq, Int.reduceBNe, Int.reduceNegSucc, hlt, hget, hw, hsz, bs_nil] | simp (config := {contextual := true, maxSteps := 1000000}) only [yieldedV, h0, go_sem, reduceCtorEq, Nat.reduceAdd, Nat.reduceSub, Nat.reduceMul, Nat.reduceLT, Nat.reduceLeDiff, Int.reduceLT, Int.reduceLE, Int.reduceEq, Int.reduceNe, Int.reduceAdd, Int.reduceSub, Int.reduceMul, Int.reduceToNat, Int.reduceNeg, Int.reducePow, Nat.reducePow, Nat.reduceEqDiff, Nat.reduceBEq, Int.reduceBEq, Int.reduceBNe, Int.reduceNegSucc, hlt, hget, hw, hsz, bs_nil] | simp (config := {contextual := true, maxSteps := 1000000}) only [yieldedV, go_sem, reduceCtorEq, Nat.reduceAdd, Nat.reduceSub, Nat.reduceMul, Nat.reduceLT, Nat.reduceLeDiff, Int.reduceLT, Int.reduceLE, Int.reduceEq, Int.reduceNe, Int.reduceAdd, Int.reduceSub, Int.reduceMul, Int.reduceToNat, Int.reduceNeg, Int.reducePow, Nat.reducePow, Nat.reduceEqDiff, Nat.reduceBEq, Int.reduceBEq, Int.reduceBNe, Int.reduceNegSucc, hlt, hget, hw, hsz, bs_nil]))
          | (refine And.intro (by kernel_rfl : okOrd _ _ = true) ?_)
          | refine Both.mk ?_ ?_
          | ((with_reducible refine CallO.gd 35 ?_); first
            | (refine CallO.fr [0, 1, 2] Try.call35 (dput_e hd ok) (by decide) (by first | (simp only [go_sem, reduceCtorEq, Nat.reduceAdd, Nat.reduceSub, Nat.reduceMul, Nat.reduceLT, Nat.reduceLeDiff, Int.reduceLT, Int.reduceLE, Int.reduceEq, Int.reduceNe, Int.reduceAdd, Int.reduceSub, Int.reduceMul, Int.reduceToNat, Int.reduceNeg, Int.reducePow, Nat.reducePow, Nat.reduceEqDiff, Nat.reduceBEq, Int.reduceBEq, Int.reduceBNe, Int.reduceNegSucc]; done) | rfl) ?_ ?_; (focus ((repeat (first | exact Wk.nil | apply Wk.same | apply Wk.own | apply Wk.full | apply Wk.null)); done)); simp (config := {contextual := true, maxSteps := 1000000}) only [go_sem, reduceCtorEq, Nat.reduceAdd, Nat.reduceSub, Nat.reduceMul, Nat.reduceLT, Nat.reduceLeDiff, Int.reduceLT, Int.reduceLE, Int.reduceEq, Int.reduceNe, Int.reduceAdd, Int.reduceSub, Int.reduceMul, Int.reduceToNat, Int.reduceNeg, Int.reducePow, Nat.reducePow, Nat.reduceEqDiff, Nat.reduceBEq, Int.reduceBEq, Int.reduceBNe, Int.reduceNegSucc, hlt, hget, hw, hsz, bs_nil]))
          | (refine hN _ ?_; try clear hN N; try clear hy; try clear ops)
          | (clear hN N; refine hN _ ?_; try clear hN N; try clear hy; try clear ops)
          | (clear hN N; clear hN N; refine hN _ ?_; try clear hN N; try clear hy; try clear ops)
          | (clear hN N; clear hN N; clear hN N; refine hN _ ?_; try clear hN N; try clear hy; try clear ops)
          | (clear hN N; clear hN N; clear hN N; clear hN N; refine hN _ ?_; try clear hN N; try clear hy; try clear ops)
          | (clear hN N; clear hN N; clear hN N; clear hN N; clear hN N; refine hN _ ?_; try clear hN N; try clear hy; try clear ops)
          | (refine hA ?_; clear hA A hB B; try simp only [h0])
          | (refine hB ?_; clear hA A hB B; try simp only [h0])
          | ((first | refine guardO.mk (fun h0 => ?_) (fun h0 => ?_) | refine guardD.mk (fun h0 => ?_) (fun h0 => ?_) | refine Br.mk (fun h0 => ?_) (fun h0 => ?_)) <;> (have h := h0; try simp only [decide_eq_true_eq, decide_eq_false_iff_not, Int.not_lt, Int.not_le, beq_iff_eq, beq_eq_false_iff_ne, bne_iff_ne, bne_eq_false_iff_eq, ne_eq, Bool.not_eq_true', Bool.not_eq_false', Decidable.not_not] at h) <;> (try (exfalso; omega)) <;> (try simp only [Bool.not_eq_true', Bool.not_eq_false', beq_true, beq_false] at h0))
          | ((first | rw [if_pos (show _ ∧ _ from ⟨by omega, by omega⟩)] | rw [if_pos (show _ ∧ _ from by simp only [List.length_append, List.length_cons, List.length_nil]; exact ⟨by omega, by omega⟩)]); simp (config := {contextual := true, maxSteps := 1000000}) only [yieldedV, go_sem, reduceCtorEq, Nat.reduceAdd, Nat.reduceSub, Nat.reduceMul, Nat.reduceLT, Nat.reduceLeDiff, Int.reduceLT, Int.reduceLE, Int.reduceEq, Int.reduceNe, Int.reduceAdd, Int.reduceSub, Int.reduceMul, Int.reduceToNat, Int.reduceNeg, Int.reducePow, Nat.reducePow, Nat.reduceEqDiff, Nat.reduceBEq, Int.reduceBEq, Int.reduceBNe, Int.reduceNegSucc, hlt, hget, hw, hsz, bs_nil])
          | (simp only [thenV, blockV, if_true, if_false, Nat.reduceEqDiff, reduceCtorEq, imp_self]))
      exact WPV.desc ((Desc.re [some 0, some 6, some 7, some 3, some 4, some 5] rfl).trans (Desc.weak (by simp only [go_sem, reduceCtorEq, Nat.reduceAdd, Nat.reduceSub, Nat.reduceMul, Nat.reduceLT, Nat.reduceLeDiff, Int.reduceLT, Int.reduceLE, Int.reduceEq, Int.reduceNe, Int.reduceAdd, Int.reduceSub, Int.reduceMul, Int.reduceToNat, Int.reduceNeg, Int.reducePow, Nat.reducePow, Nat.reduceEqDiff, Nat.reduceBEq, Int.reduceBEq, Int.reduceBNe, Int.reduceNegSucc]; (repeat (first | exact Wk.nil | apply Wk.same | apply Wk.own | apply Wk.full | apply Wk.null | apply Wk.any))) (by simp only [go_sem, reduceCtorEq, Nat.reduceAdd, Nat.reduceSub, Nat.reduceMul, Nat.reduceLT, Nat.reduceLeDiff, Int.reduceLT, Int.reduceLE, Int.reduceEq, Int.reduceNe, Int.reduceAdd, Int.reduceSub, Int.reduceMul, Int.reduceToNat, Int.reduceNeg, Int.reducePow, Nat.reducePow, Nat.reduceEqDiff, Nat.reduceBEq, Int.reduceBEq, Int.reduceBNe, Int.reduceNegSucc]; exact WkH.refl _))) H'
    · have h0 := d.put_ok key h64
      have hb := Di.put_len ok key
      have hback := Di.back ok key [1, 2] h0
      obtain ⟨b, e, d', hd⟩ : ∃ b e d', d.put key = ((b, e), d') := ⟨_, _, _, rfl⟩
      rw [hd] at h0 hb hback
      dsimp only at h0 hb hback
      subst h0
      have ok' := ok.pe hd
      have hne : (key != key) = false := by simp [bne, ba_beq]
      have hne2 : ((b.length : Int) != (b.length : Int)) = false := by simp
      have hsk : (d'.ks = d'.ks) = True := eq_self _
      have H' := H (j + 1, d') ⟨by dsimp only; omega, ok'⟩ (by dsimp only; omega)
      clear H
      dsimp only at H'
      refine loopV ?_
      repeat' (first
          | (refine WPV.seqK ?_; intro N hN)
          | refine WPV.block ?_
          | refine WPV.scope ?_
          | refine WPV.skip ?_
          | refine WPV.label ?_
          | refine WPV.exit ?_
          | refine WPV.ret ?_
          | (refine WPV.regionG (M := noM) ?_; intro N hN ops hy; (try simp only [List.append] at hy ⊢); (try simp only [List.map_cons, List.map_nil] at hy))
          | (refine WPV.drawK (M := noM) (by kernel_rfl) (by kernel_rfl) ?_; intro N hN)
          | (refine WPV.condK ?_; intro A hA B hB)
          | ((with_reducible first | refine opsV.here ?_ | refine guardO.here ?_ | refine resO.here ?_ | refine drawV.here ?_ | refine guardD.here ?_ | refine stepO.here ?_ | refine brO.here ?_ | refine condV.here ?_); (first | simp (config := {contextual := true, maxSteps := 1000000}) only [hy, h0, go_sem, reduceCtorEq, Nat.reduceAdd, Nat.reduceSub, Nat.reduceMul, Nat.reduceLT, Nat.reduceLeDiff, Int.reduceLT, Int.reduceLE, Int.reduceEq, Int.reduceNe, Int.reduceAdd, Int.reduceSub, Int.reduceMul, Int.reduceToNat, Int.reduceNeg, Int.reducePow, Nat.reducePow, Nat.reduceEqDiff, Nat.reduceBEq, Int.reduceBEq, Int.reduceBNe, Int.reduceNegSucc, hlt, hget, hw, hne, hne2, hsk] | simp (config := {contextual := true, maxSteps := 1000000}) only [hy, go_sem, reduceCtorEq, Nat.reduceAdd, Nat.reduceSub, Nat.reduceMul, Nat.reduceLT, Nat.reduceLeDiff, Int.reduceLT, Int.reduceLE, Int.reduceEq, Int.reduceNe, Int.reduceAdd, Int.reduceSub, Int.reduceMul, Int.reduceToNat, Int.reduceNeg, Int.reducePow, Nat.reducePow, Nat.reduceEqDiff, Nat.reduceBEq, Int.reduceBEq, Int.reduceBNe, Int.reduceNegSucc, hlt, hget, hw, hne, hne2, hsk] | simp (config := {contextual := true, maxSteps := 1000000}) only [yieldedV, h0, go_sem, reduceCtorEq, Nat.reduceAdd, Nat.reduceSub, Nat.reduceMul, Nat.reduceLT, Nat.reduceLeDiff, Int.reduceLT, Int.reduceLE, Int.reduceEq, Int.reduceNe, Int.reduceAdd, Int.reduceSub, Int.reduceMul, Int.reduceToNat, Int.reduceNeg, Int.reducePow, Nat.reducePow, Nat.reduceEqDiff, Nat.reduceBEq, Int.reduceBEq, Int.reduceBNe, Int.reduceNegSucc, hlt, hget, hw, hne, hne2, hsk] | simp (config := {contextual := true, maxSteps := 1000000}) only [yieldedV, go_sem, reduceCtorEq, Nat.reduceAdd, Nat.reduceSub, Nat.reduceMul, Nat.reduceLT, Nat.reduceLeDiff, Int.reduceLT, Int.reduceLE, Int.reduceEq, Int.reduceNe, Int.reduceAdd, Int.reduceSub, Int.reduceMul, Int.reduceToNat, Int.reduceNeg, Int.reducePow, Nat.reducePow, Nat.reduceEqDiff, Nat.reduceBEq, Int.reduceBEq, Int.reduceBNe, Int.reduceNegSucc, hlt, hget, hw, hne, hne2, hsk]))
          | (refine And.intro (by kernel_rfl : okOrd _ _ = true) ?_)
          | refine Both.mk ?_ ?_
          | ((with_reducible refine CallO.gd 35 ?_); first
            | (refine CallO.fr [0, 1, 2] Try.call35 (dput_e hd ok) (by decide) (by first | (simp only [go_sem, reduceCtorEq, Nat.reduceAdd, Nat.reduceSub, Nat.reduceMul, Nat.reduceLT, Nat.reduceLeDiff, Int.reduceLT, Int.reduceLE, Int.reduceEq, Int.reduceNe, Int.reduceAdd, Int.reduceSub, Int.reduceMul, Int.reduceToNat, Int.reduceNeg, Int.reducePow, Nat.reducePow, Nat.reduceEqDiff, Nat.reduceBEq, Int.reduceBEq, Int.reduceBNe, Int.reduceNegSucc]; done) | rfl) ?_ ?_; (focus ((repeat (first | exact Wk.nil | apply Wk.same | apply Wk.own | apply Wk.full | apply Wk.null)); done)); simp (config := {contextual := true, maxSteps := 1000000}) only [go_sem, reduceCtorEq, Nat.reduceAdd, Nat.reduceSub, Nat.reduceMul, Nat.reduceLT, Nat.reduceLeDiff, Int.reduceLT, Int.reduceLE, Int.reduceEq, Int.reduceNe, Int.reduceAdd, Int.reduceSub, Int.reduceMul, Int.reduceToNat, Int.reduceNeg, Int.reducePow, Nat.reducePow, Nat.reduceEqDiff, Nat.reduceBEq, Int.reduceBEq, Int.reduceBNe, Int.reduceNegSucc, hlt, hget, hw, hne, hne2, hsk]))
          | ((with_reducible refine CallO.gd 38 ?_); first
            | (refine CallO.fr [3, 4, 5] Try.call38 (dtake2_e hback ok hb) (by decide) (by first | (simp only [go_sem, reduceCtorEq, Nat.reduceAdd, Nat.reduceSub, Nat.reduceMul, Nat.reduceLT, Nat.reduceLeDiff, Int.reduceLT, Int.reduceLE, Int.reduceEq, Int.reduceNe, Int.reduceAdd, Int.reduceSub, Int.reduceMul, Int.reduceToNat, Int.reduceNeg, Int.reducePow, Nat.reducePow, Nat.reduceEqDiff, Nat.reduceBEq, Int.reduceBEq, Int.reduceBNe, Int.reduceNegSucc]; done) | rfl) ?_ ?_; (focus ((repeat (first | exact Wk.nil | apply Wk.same | apply Wk.own | apply Wk.full | apply Wk.null)); done)); simp (config := {contextual := true, maxSteps := 1000000}) only [go_sem, reduceCtorEq, Nat.reduceAdd, Nat.reduceSub, Nat.reduceMul, Nat.reduceLT, Nat.reduceLeDiff, Int.reduceLT, Int.reduceLE, Int.reduceEq, Int.reduceNe, Int.reduceAdd, Int.reduceSub, Int.reduceMul, Int.reduceToNat, Int.reduceNeg, Int.reducePow, Nat.reducePow, Nat.reduceEqDiff, Nat.reduceBEq, Int.reduceBEq, Int.reduceBNe, Int.reduceNegSucc, hlt, hget, hw, hne, hne2, hsk]))
          | ((with_reducible refine CallO.gd 42 ?_); first
            | (refine CallO.fr [3, 10, 11] Try.call42 (dkeys_s d' ok'.len) (by decide) (by first | (simp only [go_sem, reduceCtorEq, Nat.reduceAdd, Nat.reduceSub, Nat.reduceMul, Nat.reduceLT, Nat.reduceLeDiff, Int.reduceLT, Int.reduceLE, Int.reduceEq, Int.reduceNe, Int.reduceAdd, Int.reduceSub, Int.reduceMul, Int.reduceToNat, Int.reduceNeg, Int.reducePow, Nat.reducePow, Nat.reduceEqDiff, Nat.reduceBEq, Int.reduceBEq, Int.reduceBNe, Int.reduceNegSucc]; done) | rfl) ?_ ?_; (focus ((repeat (first | exact Wk.nil | apply Wk.same | apply Wk.own | apply Wk.full | apply Wk.null)); done)); simp (config := {contextual := true, maxSteps := 1000000}) only [go_sem, reduceCtorEq, Nat.reduceAdd, Nat.reduceSub, Nat.reduceMul, Nat.reduceLT, Nat.reduceLeDiff, Int.reduceLT, Int.reduceLE, Int.reduceEq, Int.reduceNe, Int.reduceAdd, Int.reduceSub, Int.reduceMul, Int.reduceToNat, Int.reduceNeg, Int.reducePow, Nat.reducePow, Nat.reduceEqDiff, Nat.reduceBEq, Int.reduceBEq, Int.reduceBNe, Int.reduceNegSucc, hlt, hget, hw, hne, hne2, hsk])
            | (refine CallO.fr [0, 6, 7] Try.call42 (dkeys_s d' ok'.len) (by decide) (by first | (simp only [go_sem, reduceCtorEq, Nat.reduceAdd, Nat.reduceSub, Nat.reduceMul, Nat.reduceLT, Nat.reduceLeDiff, Int.reduceLT, Int.reduceLE, Int.reduceEq, Int.reduceNe, Int.reduceAdd, Int.reduceSub, Int.reduceMul, Int.reduceToNat, Int.reduceNeg, Int.reducePow, Nat.reducePow, Nat.reduceEqDiff, Nat.reduceBEq, Int.reduceBEq, Int.reduceBNe, Int.reduceNegSucc]; done) | rfl) ?_ ?_; (focus ((repeat (first | exact Wk.nil | apply Wk.same | apply Wk.own | apply Wk.full | apply Wk.null)); done)); simp (config := {contextual := true, maxSteps := 1000000}) only [go_sem, reduceCtorEq, Nat.reduceAdd, Nat.reduceSub, Nat.reduceMul, Nat.reduceLT, Nat.reduceLeDiff, Int.reduceLT, Int.reduceLE, Int.reduceEq, Int.reduceNe, Int.reduceAdd, Int.reduceSub, Int.reduceMul, Int.reduceToNat, Int.reduceNeg, Int.reducePow, Nat.reducePow, Nat.reduceEqDiff, Nat.reduceBEq, Int.reduceBEq, Int.reduceBNe, Int.reduceNegSucc, hlt, hget, hw, hne, hne2, hsk]))
          | ((with_reducible refine CallO.gd 41 ?_); first
            | refine CallO.to Try.call41 (sames_s d'.ks d'.ks (by have := ok'.len; omega) (by have := ok'.len; omega) _) Wk.refl ?_
            | (refine CallO.to Try.call41 (sames_s d'.ks d'.ks (by have := ok'.len; omega) (by have := ok'.len; omega) _) ?_ ?_; (focus ((repeat (first | exact Wk.nil | apply Wk.same | apply Wk.own | apply Wk.full | apply Wk.null)); done))))
          | ((with_reducible refine CallP.gd 41 ?_); first
            | refine CallP.to Try.call41 (sames_s d'.ks d'.ks (by have := ok'.len; omega) (by have := ok'.len; omega) _) Wk.refl (fun _ => rfl) (fun _ => rfl) ?_
            | (refine CallP.to Try.call41 (sames_s d'.ks d'.ks (by have := ok'.len; omega) (by have := ok'.len; omega) _) ?_ (fun _ => rfl) (fun _ => rfl) ?_; (focus ((repeat (first | exact Wk.nil | apply Wk.same | apply Wk.own | apply Wk.full | apply Wk.null)); done))))
          | (refine hN _ ?_; try clear hN N; try clear hy; try clear ops)
          | (clear hN N; refine hN _ ?_; try clear hN N; try clear hy; try clear ops)
          | (clear hN N; clear hN N; refine hN _ ?_; try clear hN N; try clear hy; try clear ops)
          | (clear hN N; clear hN N; clear hN N; refine hN _ ?_; try clear hN N; try clear hy; try clear ops)
          | (clear hN N; clear hN N; clear hN N; clear hN N; refine hN _ ?_; try clear hN N; try clear hy; try clear ops)
          | (clear hN N; clear hN N; clear hN N; clear hN N; clear hN N; refine hN _ ?_; try clear hN N; try clear hy; try clear ops)
          | (refine hA ?_; clear hA A hB B; try simp only [h0])
          | (refine hB ?_; clear hA A hB B; try simp only [h0])
          | ((first | refine guardO.mk (fun h0 => ?_) (fun h0 => ?_) | refine guardD.mk (fun h0 => ?_) (fun h0 => ?_) | refine Br.mk (fun h0 => ?_) (fun h0 => ?_)) <;> (have h := h0; try simp only [decide_eq_true_eq, decide_eq_false_iff_not, Int.not_lt, Int.not_le, beq_iff_eq, beq_eq_false_iff_ne, bne_iff_ne, bne_eq_false_iff_eq, ne_eq, Bool.not_eq_true', Bool.not_eq_false', Decidable.not_not] at h) <;> (try (exfalso; omega)) <;> (try simp only [Bool.not_eq_true', Bool.not_eq_false', beq_true, beq_false] at h0))
          | ((first | rw [if_pos (show _ ∧ _ from ⟨by omega, by omega⟩)] | rw [if_pos (show _ ∧ _ from by simp only [List.length_append, List.length_cons, List.length_nil]; exact ⟨by omega, by omega⟩)]); simp (config := {contextual := true, maxSteps := 1000000}) only [yieldedV, go_sem, reduceCtorEq, Nat.reduceAdd, Nat.reduceSub, Nat.reduceMul, Nat.reduceLT, Nat.reduceLeDiff, Int.reduceLT, Int.reduceLE, Int.reduceEq, Int.reduceNe, Int.reduceAdd, Int.reduceSub, Int.reduceMul, Int.reduceToNat, Int.reduceNeg, Int.reducePow, Nat.reducePow, Nat.reduceEqDiff, Nat.reduceBEq, Int.reduceBEq, Int.reduceBNe, Int.reduceNegSucc, hlt, hget, hw, hne, hne2, hsk])
          | (simp only [thenV, blockV, if_true, if_false, Nat.reduceEqDiff, reduceCtorEq, imp_self]))
      exact WPV.desc ((Desc.re [some 0, some 6, some 7, some 3, some 10, some 11] rfl).trans (Desc.weak (by simp only [go_sem, reduceCtorEq, Nat.reduceAdd, Nat.reduceSub, Nat.reduceMul, Nat.reduceLT, Nat.reduceLeDiff, Int.reduceLT, Int.reduceLE, Int.reduceEq, Int.reduceNe, Int.reduceAdd, Int.reduceSub, Int.reduceMul, Int.reduceToNat, Int.reduceNeg, Int.reducePow, Nat.reducePow, Nat.reduceEqDiff, Nat.reduceBEq, Int.reduceBEq, Int.reduceBNe, Int.reduceNegSucc]; (repeat (first | exact Wk.nil | apply Wk.same | apply Wk.own | apply Wk.full | apply Wk.null | apply Wk.any))) (by simp only [go_sem, reduceCtorEq, Nat.reduceAdd, Nat.reduceSub, Nat.reduceMul, Nat.reduceLT, Nat.reduceLeDiff, Int.reduceLT, Int.reduceLE, Int.reduceEq, Int.reduceNe, Int.reduceAdd, Int.reduceSub, Int.reduceMul, Int.reduceToNat, Int.reduceNeg, Int.reducePow, Nat.reducePow, Nat.reduceEqDiff, Nat.reduceBEq, Int.reduceBEq, Int.reduceBNe, Int.reduceNegSucc]; exact WkH.refl _))) H'
  obtain rfl : j = keys.length := by omega
  clear H
  have hlt : ((keys.length : Int) < (keys.length : Int)) = False := by simp
  refine loopV ?_
  repeat' (first
      | (refine WPV.seqK ?_; intro N hN)
      | refine WPV.block ?_
      | refine WPV.scope ?_
      | refine WPV.skip ?_
      | refine WPV.label ?_
      | refine WPV.exit ?_
      | refine WPV.ret ?_
      | (refine WPV.regionG (M := noM) ?_; intro N hN ops hy; (try simp only [List.append] at hy ⊢); (try simp only [List.map_cons, List.map_nil] at hy))
      | (refine WPV.drawK (M := noM) (by kernel_rfl) (by kernel_rfl) ?_; intro N hN)
      | (refine WPV.condK ?_; intro A hA B hB)
      | ((with_reducible first | refine opsV.here ?_ | refine guardO.here ?_ | refine resO.here ?_ | refine drawV.here ?_ | refine guardD.here ?_ | refine stepO.here ?_ | refine brO.here ?_ | refine condV.here ?_); (first | simp (config := {contextual := true, maxSteps := 1000000}) only [hy, h0, go_sem, reduceCtorEq, Nat.reduceAdd, Nat.reduceSub, Nat.reduceMul, Nat.reduceLT, Nat.reduceLeDiff, Int.reduceLT, Int.reduceLE, Int.reduceEq, Int.reduceNe, Int.reduceAdd, Int.reduceSub, Int.reduceMul, Int.reduceToNat, Int.reduceNeg, Int.reducePow, Nat.reducePow, Nat.reduceEqDiff, Nat.reduceBEq, Int.reduceBEq, Int.reduceBNe, Int.reduceNegSucc, hlt] | simp (config := {contextual := true, maxSteps := 1000000}) only [hy, go_sem, reduceCtorEq, Nat.reduceAdd, Nat.reduceSub, Nat.reduceMul, Nat.reduceLT, Nat.reduceLeDiff, Int.reduceLT, Int.reduceLE, Int.reduceEq, Int.reduceNe, Int.reduceAdd, Int.reduceSub, Int.reduceMul, Int.reduceToNat, Int.reduceNeg, Int.reducePow, Nat.reducePow, Nat.reduceEqDiff, Nat.reduceBEq, Int.reduceBEq, Int.reduceBNe, Int.reduceNegSucc, hlt] | simp (config := {contextual := true, maxSteps := 1000000}) only [yieldedV, h0, go_sem, reduceCtorEq, Nat.reduceAdd, Nat.reduceSub, Nat.reduceMul, Nat.reduceLT, Nat.reduceLeDiff, Int.reduceLT, Int.reduceLE, Int.reduceEq, Int.reduceNe, Int.reduceAdd, Int.reduceSub, Int.reduceMul, Int.reduceToNat, Int.reduceNeg, Int.reducePow, Nat.reducePow, Nat.reduceEqDiff, Nat.reduceBEq, Int.reduceBEq, Int.reduceBNe, Int.reduceNegSucc, hlt] | simp (config := {contextual := true, maxSteps := 1000000}) only [yieldedV, go_sem, reduceCtorEq, Nat.reduceAdd, Nat.reduceSub, Nat.reduceMul, Nat.reduceLT, Nat.reduceLeDiff, Int.reduceLT, Int.reduceLE, Int.reduceEq, Int.reduceNe, Int.reduceAdd, Int.reduceSub, Int.reduceMul, Int.reduceToNat, Int.reduceNeg, Int.reducePow, Nat.reducePow, Nat.reduceEqDiff, Nat.reduceBEq, Int.reduceBEq, Int.reduceBNe, Int.reduceNegSucc, hlt]))
      | (refine And.intro (by kernel_rfl : okOrd _ _ = true) ?_)
      | refine Both.mk ?_ ?_
      | ((with_reducible refine CallO.gd 34 ?_); first
        | (refine CallO.fr [] Try.call34 (dnew_s) (by decide) (by first | (simp only [go_sem, reduceCtorEq, Nat.reduceAdd, Nat.reduceSub, Nat.reduceMul, Nat.reduceLT, Nat.reduceLeDiff, Int.reduceLT, Int.reduceLE, Int.reduceEq, Int.reduceNe, Int.reduceAdd, Int.reduceSub, Int.reduceMul, Int.reduceToNat, Int.reduceNeg, Int.reducePow, Nat.reducePow, Nat.reduceEqDiff, Nat.reduceBEq, Int.reduceBEq, Int.reduceBNe, Int.reduceNegSucc]; done) | rfl) ?_ ?_; (focus ((repeat (first | exact Wk.nil | apply Wk.same | apply Wk.own | apply Wk.full | apply Wk.null)); done)); simp (config := {contextual := true, maxSteps := 1000000}) only [go_sem, reduceCtorEq, Nat.reduceAdd, Nat.reduceSub, Nat.reduceMul, Nat.reduceLT, Nat.reduceLeDiff, Int.reduceLT, Int.reduceLE, Int.reduceEq, Int.reduceNe, Int.reduceAdd, Int.reduceSub, Int.reduceMul, Int.reduceToNat, Int.reduceNeg, Int.reducePow, Nat.reducePow, Nat.reduceEqDiff, Nat.reduceBEq, Int.reduceBEq, Int.reduceBNe, Int.reduceNegSucc, hlt]))
      | (refine hN _ ?_; try clear hN N; try clear hy; try clear ops)
      | (clear hN N; refine hN _ ?_; try clear hN N; try clear hy; try clear ops)
      | (clear hN N; clear hN N; refine hN _ ?_; try clear hN N; try clear hy; try clear ops)
      | (clear hN N; clear hN N; clear hN N; refine hN _ ?_; try clear hN N; try clear hy; try clear ops)
      | (clear hN N; clear hN N; clear hN N; clear hN N; refine hN _ ?_; try clear hN N; try clear hy; try clear ops)
      | (clear hN N; clear hN N; clear hN N; clear hN N; clear hN N; refine hN _ ?_; try clear hN N; try clear hy; try clear ops)
      | (refine hA ?_; clear hA A hB B; try simp only [h0])
      | (refine hB ?_; clear hA A hB B; try simp only [h0])
      | ((first | refine guardO.mk (fun h0 => ?_) (fun h0 => ?_) | refine guardD.mk (fun h0 => ?_) (fun h0 => ?_) | refine Br.mk (fun h0 => ?_) (fun h0 => ?_)) <;> (have h := h0; try simp only [decide_eq_true_eq, decide_eq_false_iff_not, Int.not_lt, Int.not_le, beq_iff_eq, beq_eq_false_iff_ne, bne_iff_ne, bne_eq_false_iff_eq, ne_eq, Bool.not_eq_true', Bool.not_eq_false', Decidable.not_not] at h) <;> (try (exfalso; omega)) <;> (try simp only [Bool.not_eq_true', Bool.not_eq_false', beq_true, beq_false] at h0))
      | ((first | rw [if_pos (show _ ∧ _ from ⟨by omega, by omega⟩)] | rw [if_pos (show _ ∧ _ from by simp only [List.length_append, List.length_cons, List.length_nil]; exact ⟨by omega, by omega⟩)]); simp (config := {contextual := true, maxSteps := 1000000}) only [yieldedV, go_sem, reduceCtorEq, Nat.reduceAdd, Nat.reduceSub, Nat.reduceMul, Nat.reduceLT, Nat.reduceLeDiff, Int.reduceLT, Int.reduceLE, Int.reduceEq, Int.reduceNe, Int.reduceAdd, Int.reduceSub, Int.reduceMul, Int.reduceToNat, Int.reduceNeg, Int.reducePow, Nat.reducePow, Nat.reduceEqDiff, Nat.reduceBEq, Int.reduceBEq, Int.reduceBNe, Int.reduceNegSucc, hlt])
      | (simp only [thenV, blockV, if_true, if_false, Nat.reduceEqDiff, reduceCtorEq, imp_self]))
  refine WPV.desc ((Desc.re [some 6, some 7, some 8] rfl).trans (Desc.weak (tm' := [.sl 1 (ds ahead), .any, .any, .any, .any, .any, .any, .any, .sl 1 (ds d1.ks), .any, .any, .any, .any, .any, .any, .any, .any, .ptr 0 0, .any, .any, .any, .any, .any, .any, .any, .any, .any, .any, .any, .any, .any, .any, .any, .any, .any, .any, .any, .any, .any, .any, .any, .any, .any, .any, .any, .any, .any, .any, .any, .any, .any, .any, .any, .any, .any, .any, .any, .any, .any, .any, .any, .any, .any, .any, .any, .any, .any, .any, .any, .any, .any, .any, .any, .any, .any, .any, .any, .any, .any, .any, .any, .any, .any, .any, .any, .any, .any, .any, .any, .any, .any, .any, .any, .any, .any, .any, .any, .any, .any, .any, .any, .any, .any, .any, .any, .any, .any, .sl 1 (ds ahead), .sc (.int .i64 (ahead.length : Int)), .sc (.int .i64 ((0 : Nat) : Int)), .any, .any, .any, .any, .any, .any, .any, .any, .any, .any, .any]) (h' := (dfold Di.new (ahead.take 0)).inn) (by simp only [go_sem, reduceCtorEq, Nat.reduceAdd, Nat.reduceSub, Nat.reduceMul, Nat.reduceLT, Nat.reduceLeDiff, Int.reduceLT, Int.reduceLE, Int.reduceEq, Int.reduceNe, Int.reduceAdd, Int.reduceSub, Int.reduceMul, Int.reduceToNat, Int.reduceNeg, Int.reducePow, Nat.reducePow, Nat.reduceEqDiff, Nat.reduceBEq, Int.reduceBEq, Int.reduceBNe, Int.reduceNegSucc]; (repeat (first | exact Wk.nil | apply Wk.same | apply Wk.own | apply Wk.full | apply Wk.null | apply Wk.any))) (by simp only [List.take_zero, dfold_nil, go_sem, reduceCtorEq, Nat.reduceAdd, Nat.reduceSub, Nat.reduceMul, Nat.reduceLT, Nat.reduceLeDiff, Int.reduceLT, Int.reduceLE, Int.reduceEq, Int.reduceNe, Int.reduceAdd, Int.reduceSub, Int.reduceMul, Int.reduceToNat, Int.reduceNeg, Int.reducePow, Nat.reducePow, Nat.reduceEqDiff, Nat.reduceBEq, Int.reduceBEq, Int.reduceBNe, Int.reduceNegSucc]; exact WkH.refl _))) ?_
  refine WPV.loopA (α := Nat) (fun k => ahead.length - k) (fun k => ⟨[.sl 1 (ds ahead), .any, .any, .any, .any, .any, .any, .any, .sl 1 (ds d1.ks), .any, .any, .any, .any, .any, .any, .any, .any, .ptr 0 0, .any, .any, .any, .any, .any, .any, .any, .any, .any, .any, .any, .any, .any, .any, .any, .any, .any, .any, .any, .any, .any, .any, .any, .any, .any, .any, .any, .any, .any, .any, .any, .any, .any, .any, .any, .any, .any, .any, .any, .any, .any, .any, .any, .any, .any, .any, .any, .any, .any, .any, .any, .any, .any, .any, .any, .any, .any, .any, .any, .any, .any, .any, .any, .any, .any, .any, .any, .any, .any, .any, .any, .any, .any, .any, .any, .any, .any, .any, .any, .any, .any, .any, .any, .any, .any, .any, .any, .any, .any, .sl 1 (ds ahead), .sc (.int .i64 (ahead.length : Int)), .sc (.int .i64 ((k : Nat) : Int)), .any, .any, .any, .any, .any, .any, .any, .any, .any, .any, .any], (dfold Di.new (ahead.take k)).inn⟩) (fun k => k ≤ ahead.length) (fun k hk0 H => ?_) 0 (Nat.zero_le _)
  dsimp only at hk0 H ⊢
  by_cases h : k < ahead.length
  · have hlt : ((k : Int) < (ahead.length : Int)) = True := by simp; omega
    have hget : ahead[k]? = some ahead[k] := List.getElem?_eq_getElem h
    have hw : IntKind.i64.wrap ((k : Int) + 1) = ((k + 1 : Nat) : Int) := by rw [wr_i64 (by omega) (by omega)]; rfl
    generalize ahead[k] = key at hget
    have hts := take_snoc hget
    have H' := H (k + 1) (by omega) (by omega)
    rw [hts, dfold_snoc] at H'
    have ok := dfold_ok (ahead.take k) Di.Ok.nw
    generalize dfold Di.new (ahead.take k) = d at H' ok ⊢
    obtain ⟨x, d', hd⟩ : ∃ x d', d.put key = (x, d') := ⟨_, _, rfl⟩
    rw [hd] at H'
    clear H
    refine loopV ?_
    repeat' (first
        | (refine WPV.seqK ?_; intro N hN)
        | refine WPV.block ?_
        | refine WPV.scope ?_
        | refine WPV.skip ?_
        | refine WPV.label ?_
        | refine WPV.exit ?_
        | refine WPV.ret ?_
        | (refine WPV.regionG (M := noM) ?_; intro N hN ops hy; (try simp only [List.append] at hy ⊢); (try simp only [List.map_cons, List.map_nil] at hy))
        | (refine WPV.drawK (M := noM) (by kernel_rfl) (by kernel_rfl) ?_; intro N hN)
        | (refine WPV.condK ?_; intro A hA B hB)
        | ((with_reducible first | refine opsV.here ?_ | refine guardO.here ?_ | refine resO.here ?_ | refine drawV.here ?_ | refine guardD.here ?_ | refine stepO.here ?_ | refine brO.here ?_ | refine condV.here ?_); (first | simp (config := {contextual := true, maxSteps := 1000000}) only [hy, h0, go_sem, reduceCtorEq, Nat.reduceAdd, Nat.reduceSub, Nat.reduceMul, Nat.reduceLT, Nat.reduceLeDiff, Int.reduceLT, Int.reduceLE, Int.reduceEq, Int.reduceNe, Int.reduceAdd, Int.reduceSub, Int.reduceMul, Int.reduceToNat, Int.reduceNeg, Int.reducePow, Nat.reducePow, Nat.reduceEqDiff, Nat.reduceBEq, Int.reduceBEq, Int.reduceBNe, Int.reduceNegSucc, hlt, hget, hw] | simp (config := {contextual := true, maxSteps := 1000000}) only [hy, go_sem, reduceCtorEq, Nat.reduceAdd, Nat.reduceSub, Nat.reduceMul, Nat.reduceLT, Nat.reduceLeDiff, Int.reduceLT, Int.reduceLE, Int.reduceEq, Int.reduceNe, Int.reduceAdd, Int.reduceSub, Int.reduceMul, Int.reduceToNat, Int.reduceNeg, Int.reducePow, Nat.reducePow, Nat.reduceEqDiff, Nat.reduceBEq, Int.reduceBEq, Int.reduceBNe, Int.reduceNegSucc, hlt, hget, hw] | simp (config := {contextual := true, maxSteps := 1000000}) only [yieldedV, h0, go_sem, reduceCtorEq, Nat.reduceAdd, Nat.reduceSub, Nat.reduceMul, Nat.reduceLT, Nat.reduceLeDiff, Int.reduceLT, Int.reduceLE, Int.reduceEq, Int.reduceNe, Int.reduceAdd, Int.reduceSub, Int.reduceMul, Int.reduceToNat, Int.reduceNeg, Int.reducePow, Nat.reducePow, Nat.reduceEqDiff, Nat.reduceBEq, Int.reduceBEq, Int.reduceBNe, Int.reduceNegSucc, hlt, hget, hw] | simp (config := {contextual := true, maxSteps := 1000000}) only [yieldedV, go_sem, reduceCtorEq, Nat.reduceAdd, Nat.reduceSub, Nat.reduceMul, Nat.reduceLT, Nat.reduceLeDiff, Int.reduceLT, Int.reduceLE, Int.reduceEq, Int.reduceNe, Int.reduceAdd, Int.reduceSub, Int.reduceMul, Int.reduceToNat, Int.reduceNeg, Int.reducePow, Nat.reducePow, Nat.reduceEqDiff, Nat.reduceBEq, Int.reduceBEq, Int.reduceBNe, Int.reduceNegSucc, hlt, hget, hw]))
        | (refine And.intro (by kernel_rfl : okOrd _ _ = true) ?_)
        | refine Both.mk ?_ ?_
        | ((with_reducible refine CallO.gd 35 ?_); first
          | (refine CallO.fr [0, 1, 2] Try.call35 (dput_e hd ok) (by decide) (by first | (simp only [go_sem, reduceCtorEq, Nat.reduceAdd, Nat.reduceSub, Nat.reduceMul, Nat.reduceLT, Nat.reduceLeDiff, Int.reduceLT, Int.reduceLE, Int.reduceEq, Int.reduceNe, Int.reduceAdd, Int.reduceSub, Int.reduceMul, Int.reduceToNat, Int.reduceNeg, Int.reducePow, Nat.reducePow, Nat.reduceEqDiff, Nat.reduceBEq, Int.reduceBEq, Int.reduceBNe, Int.reduceNegSucc]; done) | rfl) ?_ ?_; (focus ((repeat (first | exact Wk.nil | apply Wk.same | apply Wk.own | apply Wk.full | apply Wk.null)); done)); simp (config := {contextual := true, maxSteps := 1000000}) only [go_sem, reduceCtorEq, Nat.reduceAdd, Nat.reduceSub, Nat.reduceMul, Nat.reduceLT, Nat.reduceLeDiff, Int.reduceLT, Int.reduceLE, Int.reduceEq, Int.reduceNe, Int.reduceAdd, Int.reduceSub, Int.reduceMul, Int.reduceToNat, Int.reduceNeg, Int.reducePow, Nat.reducePow, Nat.reduceEqDiff, Nat.reduceBEq, Int.reduceBEq, Int.reduceBNe, Int.reduceNegSucc, hlt, hget, hw]))
        | (refine hN _ ?_; try clear hN N; try clear hy; try clear ops)
        | (clear hN N; refine hN _ ?_; try clear hN N; try clear hy; try clear ops)
        | (clear hN N; clear hN N; refine hN _ ?_; try clear hN N; try clear hy; try clear ops)
        | (clear hN N; clear hN N; clear hN N; refine hN _ ?_; try clear hN N; try clear hy; try clear ops)
        | (clear hN N; clear hN N; clear hN N; clear hN N; refine hN _ ?_; try clear hN N; try clear hy; try clear ops)
        | (clear hN N; clear hN N; clear hN N; clear hN N; clear hN N; refine hN _ ?_; try clear hN N; try clear hy; try clear ops)
        | (refine hA ?_; clear hA A hB B; try simp only [h0])
        | (refine hB ?_; clear hA A hB B; try simp only [h0])
        | ((first | refine guardO.mk (fun h0 => ?_) (fun h0 => ?_) | refine guardD.mk (fun h0 => ?_) (fun h0 => ?_) | refine Br.mk (fun h0 => ?_) (fun h0 => ?_)) <;> (have h := h0; try simp only [decide_eq_true_eq, decide_eq_false_iff_not, Int.not_lt, Int.not_le, beq_iff_eq, beq_eq_false_iff_ne, bne_iff_ne, bne_eq_false_iff_eq, ne_eq, Bool.not_eq_true', Bool.not_eq_false', Decidable.not_not] at h) <;> (try (exfalso; omega)) <;> (try simp only [Bool.not_eq_true', Bool.not_eq_false', beq_true, beq_false] at h0))
        | ((first | rw [if_pos (show _ ∧ _ from ⟨by omega, by omega⟩)] | rw [if_pos (show _ ∧ _ from by simp only [List.length_append, List.length_cons, List.length_nil]; exact ⟨by omega, by omega⟩)]); simp (config := {contextual := true, maxSteps := 1000000}) only [yieldedV, go_sem, reduceCtorEq, Nat.reduceAdd, Nat.reduceSub, Nat.reduceMul, Nat.reduceLT, Nat.reduceLeDiff, Int.reduceLT, Int.reduceLE, Int.reduceEq, Int.reduceNe, Int.reduceAdd, Int.reduceSub, Int.reduceMul, Int.reduceToNat, Int.reduceNeg, Int.reducePow, Nat.reducePow, Nat.reduceEqDiff, Nat.reduceBEq, Int.reduceBEq, Int.reduceBNe, Int.reduceNegSucc, hlt, hget, hw])
        | (simp only [thenV, blockV, if_true, if_false, Nat.reduceEqDiff, reduceCtorEq, imp_self]))
    exact WPV.desc ((Desc.re [some 0, some 3, some 4] rfl).trans (Desc.weak (by simp only [go_sem, reduceCtorEq, Nat.reduceAdd, Nat.reduceSub, Nat.reduceMul, Nat.reduceLT, Nat.reduceLeDiff, Int.reduceLT, Int.reduceLE, Int.reduceEq, Int.reduceNe, Int.reduceAdd, Int.reduceSub, Int.reduceMul, Int.reduceToNat, Int.reduceNeg, Int.reducePow, Nat.reducePow, Nat.reduceEqDiff, Nat.reduceBEq, Int.reduceBEq, Int.reduceBNe, Int.reduceNegSucc]; (repeat (first | exact Wk.nil | apply Wk.same | apply Wk.own | apply Wk.full | apply Wk.null | apply Wk.any))) (by simp only [go_sem, reduceCtorEq, Nat.reduceAdd, Nat.reduceSub, Nat.reduceMul, Nat.reduceLT, Nat.reduceLeDiff, Int.reduceLT, Int.reduceLE, Int.reduceEq, Int.reduceNe, Int.reduceAdd, Int.reduceSub, Int.reduceMul, Int.reduceToNat, Int.reduceNeg, Int.reducePow, Nat.reducePow, Nat.reduceEqDiff, Nat.reduceBEq, Int.reduceBEq, Int.reduceBNe, Int.reduceNegSucc]; exact WkH.refl _))) H'
  obtain rfl : k = ahead.length := by omega
  clear H
  rw [List.take_length, ← hd1]
  have hlt : ((ahead.length : Int) < (ahead.length : Int)) = False := by simp
  have hsk : (d1.ks = d1.ks) = True := eq_self _
  refine loopV ?_
  repeat' (first
      | (refine WPV.seqK ?_; intro N hN)
      | refine WPV.block ?_
      | refine WPV.scope ?_
      | refine WPV.skip ?_
      | refine WPV.label ?_
      | refine WPV.exit ?_
      | refine WPV.ret ?_
      | (refine WPV.regionG (M := noM) ?_; intro N hN ops hy; (try simp only [List.append] at hy ⊢); (try simp only [List.map_cons, List.map_nil] at hy))
      | (refine WPV.drawK (M := noM) (by kernel_rfl) (by kernel_rfl) ?_; intro N hN)
      | (refine WPV.condK ?_; intro A hA B hB)
      | ((with_reducible first | refine opsV.here ?_ | refine guardO.here ?_ | refine resO.here ?_ | refine drawV.here ?_ | refine guardD.here ?_ | refine stepO.here ?_ | refine brO.here ?_ | refine condV.here ?_); (first | simp (config := {contextual := true, maxSteps := 1000000}) only [hy, h0, go_sem, reduceCtorEq, Nat.reduceAdd, Nat.reduceSub, Nat.reduceMul, Nat.reduceLT, Nat.reduceLeDiff, Int.reduceLT, Int.reduceLE, Int.reduceEq, Int.reduceNe, Int.reduceAdd, Int.reduceSub, Int.reduceMul, Int.reduceToNat, Int.reduceNeg, Int.reducePow, Nat.reducePow, Nat.reduceEqDiff, Nat.reduceBEq, Int.reduceBEq, Int.reduceBNe, Int.reduceNegSucc, hlt, hsk] | simp (config := {contextual := true, maxSteps := 1000000}) only [hy, go_sem, reduceCtorEq, Nat.reduceAdd, Nat.reduceSub, Nat.reduceMul, Nat.reduceLT, Nat.reduceLeDiff, Int.reduceLT, Int.reduceLE, Int.reduceEq, Int.reduceNe, Int.reduceAdd, Int.reduceSub, Int.reduceMul, Int.reduceToNat, Int.reduceNeg, Int.reducePow, Nat.reducePow, Nat.reduceEqDiff, Nat.reduceBEq, Int.reduceBEq, Int.reduceBNe, Int.reduceNegSucc, hlt, hsk] | simp (config := {contextual := true, maxSteps := 1000000}) only [yieldedV, h0, go_sem, reduceCtorEq, Nat.reduceAdd, Nat.reduceSub, Nat.reduceMul, Nat.reduceLT, Nat.reduceLeDiff, Int.reduceLT, Int.reduceLE, Int.reduceEq, Int.reduceNe, Int.reduceAdd, Int.reduceSub, Int.reduceMul, Int.reduceToNat, Int.reduceNeg, Int.reducePow, Nat.reducePow, Nat.reduceEqDiff, Nat.reduceBEq, Int.reduceBEq, Int.reduceBNe, Int.reduceNegSucc, hlt, hsk] | simp (config := {contextual := true, maxSteps := 1000000}) only [yieldedV, go_sem, reduceCtorEq, Nat.reduceAdd, Nat.reduceSub, Nat.reduceMul, Nat.reduceLT, Nat.reduceLeDiff, Int.reduceLT, Int.reduceLE, Int.reduceEq, Int.reduceNe, Int.reduceAdd, Int.reduceSub, Int.reduceMul, Int.reduceToNat, Int.reduceNeg, Int.reducePow, Nat.reducePow, Nat.reduceEqDiff, Nat.reduceBEq, Int.reduceBEq, Int.reduceBNe, Int.reduceNegSucc, hlt, hsk]))
      | (refine And.intro (by kernel_rfl : okOrd _ _ = true) ?_)
      | refine Both.mk ?_ ?_
      | ((with_reducible refine CallO.gd 42 ?_); first
        | (refine CallO.fr [0, 1, 2] Try.call42 (dkeys_s d1 ok1.len) (by decide) (by first | (simp only [go_sem, reduceCtorEq, Nat.reduceAdd, Nat.reduceSub, Nat.reduceMul, Nat.reduceLT, Nat.reduceLeDiff, Int.reduceLT, Int.reduceLE, Int.reduceEq, Int.reduceNe, Int.reduceAdd, Int.reduceSub, Int.reduceMul, Int.reduceToNat, Int.reduceNeg, Int.reducePow, Nat.reducePow, Nat.reduceEqDiff, Nat.reduceBEq, Int.reduceBEq, Int.reduceBNe, Int.reduceNegSucc]; done) | rfl) ?_ ?_; (focus ((repeat (first | exact Wk.nil | apply Wk.same | apply Wk.own | apply Wk.full | apply Wk.null)); done)); simp (config := {contextual := true, maxSteps := 1000000}) only [go_sem, reduceCtorEq, Nat.reduceAdd, Nat.reduceSub, Nat.reduceMul, Nat.reduceLT, Nat.reduceLeDiff, Int.reduceLT, Int.reduceLE, Int.reduceEq, Int.reduceNe, Int.reduceAdd, Int.reduceSub, Int.reduceMul, Int.reduceToNat, Int.reduceNeg, Int.reducePow, Nat.reducePow, Nat.reduceEqDiff, Nat.reduceBEq, Int.reduceBEq, Int.reduceBNe, Int.reduceNegSucc, hlt, hsk]))
      | ((with_reducible refine CallO.gd 41 ?_); first
        | refine CallO.to Try.call41 (sames_s d1.ks d1.ks (by have := ok1.len; omega) (by have := ok1.len; omega) _) Wk.refl ?_
        | (refine CallO.to Try.call41 (sames_s d1.ks d1.ks (by have := ok1.len; omega) (by have := ok1.len; omega) _) ?_ ?_; (focus ((repeat (first | exact Wk.nil | apply Wk.same | apply Wk.own | apply Wk.full | apply Wk.null)); done))))
      | ((with_reducible refine CallP.gd 41 ?_); first
        | refine CallP.to Try.call41 (sames_s d1.ks d1.ks (by have := ok1.len; omega) (by have := ok1.len; omega) _) Wk.refl (fun _ => rfl) (fun _ => rfl) ?_
        | (refine CallP.to Try.call41 (sames_s d1.ks d1.ks (by have := ok1.len; omega) (by have := ok1.len; omega) _) ?_ (fun _ => rfl) (fun _ => rfl) ?_; (focus ((repeat (first | exact Wk.nil | apply Wk.same | apply Wk.own | apply Wk.full | apply Wk.null)); done))))
      | (refine hN _ ?_; try clear hN N; try clear hy; try clear ops)
      | (clear hN N; refine hN _ ?_; try clear hN N; try clear hy; try clear ops)
      | (clear hN N; clear hN N; refine hN _ ?_; try clear hN N; try clear hy; try clear ops)
      | (clear hN N; clear hN N; clear hN N; refine hN _ ?_; try clear hN N; try clear hy; try clear ops)
      | (clear hN N; clear hN N; clear hN N; clear hN N; refine hN _ ?_; try clear hN N; try clear hy; try clear ops)
      | (clear hN N; clear hN N; clear hN N; clear hN N; clear hN N; refine hN _ ?_; try clear hN N; try clear hy; try clear ops)
      | (refine hA ?_; clear hA A hB B; try simp only [h0])
      | (refine hB ?_; clear hA A hB B; try simp only [h0])
      | ((first | refine guardO.mk (fun h0 => ?_) (fun h0 => ?_) | refine guardD.mk (fun h0 => ?_) (fun h0 => ?_) | refine Br.mk (fun h0 => ?_) (fun h0 => ?_)) <;> (have h := h0; try simp only [decide_eq_true_eq, decide_eq_false_iff_not, Int.not_lt, Int.not_le, beq_iff_eq, beq_eq_false_iff_ne, bne_iff_ne, bne_eq_false_iff_eq, ne_eq, Bool.not_eq_true', Bool.not_eq_false', Decidable.not_not] at h) <;> (try (exfalso; omega)) <;> (try simp only [Bool.not_eq_true', Bool.not_eq_false', beq_true, beq_false] at h0))
      | ((first | rw [if_pos (show _ ∧ _ from ⟨by omega, by omega⟩)] | rw [if_pos (show _ ∧ _ from by simp only [List.length_append, List.length_cons, List.length_nil]; exact ⟨by omega, by omega⟩)]); simp (config := {contextual := true, maxSteps := 1000000}) only [yieldedV, go_sem, reduceCtorEq, Nat.reduceAdd, Nat.reduceSub, Nat.reduceMul, Nat.reduceLT, Nat.reduceLeDiff, Int.reduceLT, Int.reduceLE, Int.reduceEq, Int.reduceNe, Int.reduceAdd, Int.reduceSub, Int.reduceMul, Int.reduceToNat, Int.reduceNeg, Int.reducePow, Nat.reducePow, Nat.reduceEqDiff, Nat.reduceBEq, Int.reduceBEq, Int.reduceBNe, Int.reduceNegSucc, hlt, hsk])
      | (simp only [thenV, blockV, if_true, if_false, Nat.reduceEqDiff, reduceCtorEq, imp_self]))
  all_goals (apply And.right; refine hQ _ _ _ (Desc.re [] rfl) ?_ ⟨rfl, ?_⟩)
  · (first | (simp only [go_sem, reduceCtorEq, Nat.reduceAdd, Nat.reduceSub, Nat.reduceMul, Nat.reduceLT, Nat.reduceLeDiff, Int.reduceLT, Int.reduceLE, Int.reduceEq, Int.reduceNe, Int.reduceAdd, Int.reduceSub, Int.reduceMul, Int.reduceToNat, Int.reduceNeg, Int.reducePow, Nat.reducePow, Nat.reduceEqDiff, Nat.reduceBEq, Int.reduceBEq, Int.reduceBNe, Int.reduceNegSucc, Try.results8]; done) | (simp only [go_sem, reduceCtorEq, Nat.reduceAdd, Nat.reduceSub, Nat.reduceMul, Nat.reduceLT, Nat.reduceLeDiff, Int.reduceLT, Int.reduceLE, Int.reduceEq, Int.reduceNe, Int.reduceAdd, Int.reduceSub, Int.reduceMul, Int.reduceToNat, Int.reduceNeg, Int.reducePow, Nat.reducePow, Nat.reduceEqDiff, Nat.reduceBEq, Int.reduceBEq, Int.reduceBNe, Int.reduceNegSucc, Try.results8]; rfl) | rfl)
  · (first | (simp only [go_sem, reduceCtorEq, Nat.reduceAdd, Nat.reduceSub, Nat.reduceMul, Nat.reduceLT, Nat.reduceLeDiff, Int.reduceLT, Int.reduceLE, Int.reduceEq, Int.reduceNe, Int.reduceAdd, Int.reduceSub, Int.reduceMul, Int.reduceToNat, Int.reduceNeg, Int.reducePow, Nat.reducePow, Nat.reduceEqDiff, Nat.reduceBEq, Int.reduceBEq, Int.reduceBNe, Int.reduceNegSucc]; done) | (simp only [go_sem, reduceCtorEq, Nat.reduceAdd, Nat.reduceSub, Nat.reduceMul, Nat.reduceLT, Nat.reduceLeDiff, Int.reduceLT, Int.reduceLE, Int.reduceEq, Int.reduceNe, Int.reduceAdd, Int.reduceSub, Int.reduceMul, Int.reduceToNat, Int.reduceNeg, Int.reducePow, Nat.reducePow, Nat.reduceEqDiff, Nat.reduceBEq, Int.reduceBEq, Int.reduceBNe, Int.reduceNegSucc]; rfl) | rfl)
end Go.Proofs.Ytonllhjmoenckaa
