/- Walks: clocks, told by values. -/
import Derived.Test.YtonllhjmoenckaaVsV
import Derived.Test.YtonllhjmoenckaaVsY
import Derived.Test.YtonllhjmoenckaaClkD
namespace Go.Proofs.Ytonllhjmoenckaa
section
open Go Go.RowKit
set_option linter.unusedVariables false
set_option linter.unusedSimpArgs false
variable {K : Nat → Obj → Prop}

theorem vputs_s {m : Int} (h1 : -9223372036854775808 ≤ m) (h2 : m < 9223372036854775808) (h : List Ho) : Sp Try.prog K 108 [.sc (.int .i64 m)] h fun u hh => u = .sl 1 (bs (zz m)) ∧ hh = h :=
  .ofB fun F φ w args hd => by
    obtain ⟨r, rfl, h3⟩ := args1 hd
    rw [h3.sc.1]; exact puts_c m h1 h2 w
theorem vtakes_s {s : List UInt8} {u : UInt64} {n : Nat} {er : Int} (ht : tk s = (u, n, er)) (hl : s.length ≤ 1000000000) (h : List Ho) : Sp Try.prog K 110 [.sl 1 (bs s)] h fun v hh => v = .tup [.sc (.int .i64 (zagF u)), .sc (.int .i64 (n : Int)), .sc (.int .i64 er)] ∧ hh = h :=
  .ofV (r := tkS (tk s)) (fun F φ w => by rw [ht]; exact den_tup (.cons (.d (.sc rfl)) (.cons (.d (.sc rfl)) (.cons (.d (.sc rfl)) .nil)))) fun F φ w args hd => by
    obtain ⟨r, rfl, h3⟩ := args1 hd
    exact takes_c r s w (den_in h3).sb hl
theorem rzig_s {m : Int} (h1 : -9223372036854775808 ≤ m) (h2 : m < 9223372036854775808) (h : List Ho) : Sp Try.prog K 112 [.sc (.int .i64 m)] h fun u hh => u = .sc (.int .u64 ((zigF m).toNat : Int)) ∧ hh = h :=
  .ofV (fun F φ w => .d (.sc rfl)) fun F φ w args hd => by
    obtain ⟨r, rfl, h3⟩ := args1 hd
    rw [h3.sc.1]; exact rzig_c m h1 h2 w
theorem rzag_s (n : UInt64) (h : List Ho) : Sp Try.prog K 118 [.sc (.int .u64 (n.toNat : Int))] h fun u hh => u = .sc (.int .i64 (zagF n)) ∧ hh = h :=
  .ofV (fun F φ w => .d (.sc rfl)) fun F φ w args hd => by
    obtain ⟨r, rfl, h3⟩ := args1 hd
    rw [h3.sc.1]; exact rzag_c n w

abbrev clkV (c : Clk) : V := .agg [.sc (.int .i64 c.x), .sc (.int .i64 c.y), .sc (.int .i64 c.z)]
set_option maxRecDepth 100000 in
set_option maxHeartbeats 1000000 in
theorem cright_s (c : Clk) (h : List Ho) : Sp Try.prog K 92 [clkV c] h fun u hh => u = .sc (.bool (rightF c)) ∧ hh = h := by
  refine Sp.pure_ (R := fun u hh => Wk [u] [.sc (.bool (rightF c))]) ?_ (fun _ => rfl) (fun _ => rfl) (fun v h e => e) h
  obtain ⟨x, y, z⟩ := c
  cases hr : rightF ⟨x, y, z⟩ with
  | true =>
    have hb := right_bounds hr
    dsimp only at hb
    refine Sp.of_bodyD Try.func92 rfl ?_
    intro Q hQ
    simp only [List.replicate, List.length_cons, List.length_nil, Try.ntmps92, Nat.reduceAdd, Nat.reduceSub, List.cons_append, List.nil_append, go_sem]
    iterate 5
      all_goals try refine loopV ?_
      have hz : True := trivial
      have hy := yieldedV_eq
      have hL := True.intro
      repeat' (first | (refine WPV.seqK ?_; intro N hN) | refine WPV.block ?_ | refine WPV.scope ?_ | refine WPV.skip ?_ | refine WPV.label ?_ | refine WPV.exit ?_ | refine WPV.ret ?_ | (refine WPV.regionG (M := noM) ?_; intro N hN ops hy; (try simp only [List.append] at hy ⊢); (try simp only [List.map_cons, List.map_nil] at hy)) | (refine WPV.drawK (M := noM) (by kernel_rfl) (by kernel_rfl) ?_; intro N hN; have hy := yieldedV_eq) | (refine WPV.condK ?_; intro A hA B hB) | (refine here ?_; refine sM ?_) | (refine And.intro (by kernel_rfl : okOrd _ _ = true) ?_) | refine Both.mk ?_ ?_ | (refine hN _ ?_; try clear hN N; try clear hy ops) | (refine hA ?_; clear hA A hB B; try simp only [hz]) | (refine hB ?_; clear hA A hB B; try simp only [hz]) | ((first | refine guardO.mk ?_ ?_ | refine guardD.mk ?_ ?_ | refine Br.mk ?_ ?_) <;> (intro hz; have h := nm hz; try (exfalso; omega)) <;> (have hz := nz hz)) | ((first | rw [if_pos (show _ ∧ _ from ⟨by omega, by omega⟩)] | rw [if_pos (show _ ∧ _ from by simp only [List.length_append, List.length_cons, List.length_nil]; exact ⟨by omega, by omega⟩)]); refine sM ?_) | (simp only [thenV, blockV, if_true, if_false, Nat.reduceEqDiff, reduceCtorEq, imp_self]) | (clear hN N))
    all_goals (apply And.right; refine hQ _ _ _ Desc.refl ?_ Wk.refl)
    · (first | (simp only [go_sem, reduceCtorEq, Nat.reduceAdd, Nat.reduceSub, Nat.reduceMul, Nat.reduceLT, Nat.reduceLeDiff, Int.reduceLT, Int.reduceLE, Int.reduceEq, Int.reduceNe, Int.reduceAdd, Int.reduceSub, Int.reduceMul, Int.reduceToNat, Int.reduceNeg, Int.reducePow, Nat.reducePow, Nat.reduceEqDiff, Nat.reduceBEq, Int.reduceBEq, Int.reduceBNe, Int.reduceNegSucc, Try.results92]; done) | (simp only [go_sem, reduceCtorEq, Nat.reduceAdd, Nat.reduceSub, Nat.reduceMul, Nat.reduceLT, Nat.reduceLeDiff, Int.reduceLT, Int.reduceLE, Int.reduceEq, Int.reduceNe, Int.reduceAdd, Int.reduceSub, Int.reduceMul, Int.reduceToNat, Int.reduceNeg, Int.reducePow, Nat.reducePow, Nat.reduceEqDiff, Nat.reduceBEq, Int.reduceBEq, Int.reduceBNe, Int.reduceNegSucc, Try.results92]; rfl) | rfl)
  | false =>
    have hb := right_not hr
    dsimp only at hb
    refine Sp.of_bodyD Try.func92 rfl ?_
    intro Q hQ
    simp only [List.replicate, List.length_cons, List.length_nil, Try.ntmps92, Nat.reduceAdd, Nat.reduceSub, List.cons_append, List.nil_append, go_sem]
    iterate 5
      all_goals try refine loopV ?_
      have hz : True := trivial
      have hy := yieldedV_eq
      have hL := True.intro
      repeat' (first | (refine WPV.seqK ?_; intro N hN) | refine WPV.block ?_ | refine WPV.scope ?_ | refine WPV.skip ?_ | refine WPV.label ?_ | refine WPV.exit ?_ | refine WPV.ret ?_ | (refine WPV.regionG (M := noM) ?_; intro N hN ops hy; (try simp only [List.append] at hy ⊢); (try simp only [List.map_cons, List.map_nil] at hy)) | (refine WPV.drawK (M := noM) (by kernel_rfl) (by kernel_rfl) ?_; intro N hN; have hy := yieldedV_eq) | (refine WPV.condK ?_; intro A hA B hB) | (refine here ?_; refine sM ?_) | (refine And.intro (by kernel_rfl : okOrd _ _ = true) ?_) | refine Both.mk ?_ ?_ | (refine hN _ ?_; try clear hN N; try clear hy ops) | (refine hA ?_; clear hA A hB B; try simp only [hz]) | (refine hB ?_; clear hA A hB B; try simp only [hz]) | ((first | refine guardO.mk ?_ ?_ | refine guardD.mk ?_ ?_ | refine Br.mk ?_ ?_) <;> (intro hz; have h := nm hz; try (exfalso; omega)) <;> (have hz := nz hz)) | ((first | rw [if_pos (show _ ∧ _ from ⟨by omega, by omega⟩)] | rw [if_pos (show _ ∧ _ from by simp only [List.length_append, List.length_cons, List.length_nil]; exact ⟨by omega, by omega⟩)]); refine sM ?_) | (simp only [thenV, blockV, if_true, if_false, Nat.reduceEqDiff, reduceCtorEq, imp_self]) | (clear hN N))
    all_goals (apply And.right; refine hQ _ _ _ Desc.refl ?_ Wk.refl)
    all_goals (first | (simp only [go_sem, reduceCtorEq, Nat.reduceAdd, Nat.reduceSub, Nat.reduceMul, Nat.reduceLT, Nat.reduceLeDiff, Int.reduceLT, Int.reduceLE, Int.reduceEq, Int.reduceNe, Int.reduceAdd, Int.reduceSub, Int.reduceMul, Int.reduceToNat, Int.reduceNeg, Int.reducePow, Nat.reducePow, Nat.reduceEqDiff, Nat.reduceBEq, Int.reduceBEq, Int.reduceBNe, Int.reduceNegSucc, Try.results92]; done) | (simp only [go_sem, reduceCtorEq, Nat.reduceAdd, Nat.reduceSub, Nat.reduceMul, Nat.reduceLT, Nat.reduceLeDiff, Int.reduceLT, Int.reduceLE, Int.reduceEq, Int.reduceNe, Int.reduceAdd, Int.reduceSub, Int.reduceMul, Int.reduceToNat, Int.reduceNeg, Int.reducePow, Nat.reducePow, Nat.reduceEqDiff, Nat.reduceBEq, Int.reduceBEq, Int.reduceBNe, Int.reduceNegSucc, Try.results92]; rfl) | rfl)
set_option maxRecDepth 100000 in
set_option maxHeartbeats 1000000 in
theorem rcright_s (c : Clk) (h : List Ho) : Sp Try.prog K 99 [clkV c] h fun u hh => u = .sc (.bool (rightF c)) ∧ hh = h := by
  refine Sp.pure_ (R := fun u hh => Wk [u] [.sc (.bool (rightF c))]) ?_ (fun _ => rfl) (fun _ => rfl) (fun v h e => e) h
  obtain ⟨x, y, z⟩ := c
  cases hr : rightF ⟨x, y, z⟩ with
  | true =>
    have hb := right_bounds hr
    dsimp only at hb
    have q0 : (0 ≤ x) = True := eq_true (by omega)
    have q1 : (x ≤ 4611686018427387903) = True := eq_true (by omega)
    have q2 : (0 ≤ y) = True := eq_true (by omega)
    have q3 : (y ≤ 4611686018427387903) = True := eq_true (by omega)
    have q4 : (0 ≤ z) = True := eq_true (by omega)
    have q5 : (z ≤ 4611686018427387903) = True := eq_true (by omega)
    refine Sp.of_bodyD Try.func99 rfl ?_
    intro Q hQ
    simp only [List.replicate, List.length_cons, List.length_nil, Try.ntmps99, Nat.reduceAdd, Nat.reduceSub, List.cons_append, List.nil_append, go_sem]
    have hz : True := trivial
    have hy := yieldedV_eq
    have hL := And.intro @q0 (And.intro @q1 (And.intro @q2 (And.intro @q3 (And.intro @q4 (@q5)))))
    repeat' (first | (refine WPV.seqK ?_; intro N hN) | refine WPV.block ?_ | refine WPV.scope ?_ | refine WPV.skip ?_ | refine WPV.label ?_ | refine WPV.exit ?_ | refine WPV.ret ?_ | (refine WPV.regionG (M := noM) ?_; intro N hN ops hy; (try simp only [List.append] at hy ⊢); (try simp only [List.map_cons, List.map_nil] at hy)) | (refine WPV.drawK (M := noM) (by kernel_rfl) (by kernel_rfl) ?_; intro N hN; have hy := yieldedV_eq) | (refine WPV.condK ?_; intro A hA B hB) | (refine here ?_; refine sM ?_) | (refine And.intro (by kernel_rfl : okOrd _ _ = true) ?_) | refine Both.mk ?_ ?_ | (refine hN _ ?_; try clear hN N; try clear hy ops) | (refine hA ?_; clear hA A hB B; try simp only [hz]) | (refine hB ?_; clear hA A hB B; try simp only [hz]) | ((first | refine guardO.mk ?_ ?_ | refine guardD.mk ?_ ?_ | refine Br.mk ?_ ?_) <;> (intro hz; have h := nm hz; try (exfalso; omega)) <;> (have hz := nz hz)) | ((first | rw [if_pos (show _ ∧ _ from ⟨by omega, by omega⟩)] | rw [if_pos (show _ ∧ _ from by simp only [List.length_append, List.length_cons, List.length_nil]; exact ⟨by omega, by omega⟩)]); refine sM ?_) | (simp only [thenV, blockV, if_true, if_false, Nat.reduceEqDiff, reduceCtorEq, imp_self]) | (clear hN N))
    all_goals (apply And.right; refine hQ _ _ _ Desc.refl ?_ Wk.refl)
    · (first | (simp only [go_sem, reduceCtorEq, Nat.reduceAdd, Nat.reduceSub, Nat.reduceMul, Nat.reduceLT, Nat.reduceLeDiff, Int.reduceLT, Int.reduceLE, Int.reduceEq, Int.reduceNe, Int.reduceAdd, Int.reduceSub, Int.reduceMul, Int.reduceToNat, Int.reduceNeg, Int.reducePow, Nat.reducePow, Nat.reduceEqDiff, Nat.reduceBEq, Int.reduceBEq, Int.reduceBNe, Int.reduceNegSucc, Try.results99]; done) | (simp only [go_sem, reduceCtorEq, Nat.reduceAdd, Nat.reduceSub, Nat.reduceMul, Nat.reduceLT, Nat.reduceLeDiff, Int.reduceLT, Int.reduceLE, Int.reduceEq, Int.reduceNe, Int.reduceAdd, Int.reduceSub, Int.reduceMul, Int.reduceToNat, Int.reduceNeg, Int.reducePow, Nat.reducePow, Nat.reduceEqDiff, Nat.reduceBEq, Int.reduceBEq, Int.reduceBNe, Int.reduceNegSucc, Try.results99]; rfl) | rfl)
  | false =>
    have hb := right_not hr
    dsimp only at hb
    by_cases hz5 : z ≤ 4611686018427387903
    · have q5 : (z ≤ 4611686018427387903) = True := eq_true hz5
      refine Sp.of_bodyD Try.func99 rfl ?_
      intro Q hQ
      simp only [List.replicate, List.length_cons, List.length_nil, Try.ntmps99, Nat.reduceAdd, Nat.reduceSub, List.cons_append, List.nil_append, go_sem]
      have hz : True := trivial
      have hy := yieldedV_eq
      have hL := @q5
      repeat' (first | (refine WPV.seqK ?_; intro N hN) | refine WPV.block ?_ | refine WPV.scope ?_ | refine WPV.skip ?_ | refine WPV.label ?_ | refine WPV.exit ?_ | refine WPV.ret ?_ | (refine WPV.regionG (M := noM) ?_; intro N hN ops hy; (try simp only [List.append] at hy ⊢); (try simp only [List.map_cons, List.map_nil] at hy)) | (refine WPV.drawK (M := noM) (by kernel_rfl) (by kernel_rfl) ?_; intro N hN; have hy := yieldedV_eq) | (refine WPV.condK ?_; intro A hA B hB) | (refine here ?_; refine sM ?_) | (refine And.intro (by kernel_rfl : okOrd _ _ = true) ?_) | refine Both.mk ?_ ?_ | (refine hN _ ?_; try clear hN N; try clear hy ops) | (refine hA ?_; clear hA A hB B; try simp only [hz]) | (refine hB ?_; clear hA A hB B; try simp only [hz]) | ((first | refine guardO.mk ?_ ?_ | refine guardD.mk ?_ ?_ | refine Br.mk ?_ ?_) <;> (intro hz; have h := nm hz; try (exfalso; omega)) <;> (have hz := nz hz)) | ((first | rw [if_pos (show _ ∧ _ from ⟨by omega, by omega⟩)] | rw [if_pos (show _ ∧ _ from by simp only [List.length_append, List.length_cons, List.length_nil]; exact ⟨by omega, by omega⟩)]); refine sM ?_) | (simp only [thenV, blockV, if_true, if_false, Nat.reduceEqDiff, reduceCtorEq, imp_self]) | (clear hN N))
      all_goals (apply And.right; refine hQ _ _ _ Desc.refl ?_ Wk.refl)
      all_goals (first | (simp only [go_sem, reduceCtorEq, Nat.reduceAdd, Nat.reduceSub, Nat.reduceMul, Nat.reduceLT, Nat.reduceLeDiff, Int.reduceLT, Int.reduceLE, Int.reduceEq, Int.reduceNe, Int.reduceAdd, Int.reduceSub, Int.reduceMul, Int.reduceToNat, Int.reduceNeg, Int.reducePow, Nat.reducePow, Nat.reduceEqDiff, Nat.reduceBEq, Int.reduceBEq, Int.reduceBNe, Int.reduceNegSucc, Try.results99]; done) | (simp only [go_sem, reduceCtorEq, Nat.reduceAdd, Nat.reduceSub, Nat.reduceMul, Nat.reduceLT, Nat.reduceLeDiff, Int.reduceLT, Int.reduceLE, Int.reduceEq, Int.reduceNe, Int.reduceAdd, Int.reduceSub, Int.reduceMul, Int.reduceToNat, Int.reduceNeg, Int.reducePow, Nat.reducePow, Nat.reduceEqDiff, Nat.reduceBEq, Int.reduceBEq, Int.reduceBNe, Int.reduceNegSucc, Try.results99]; rfl) | rfl)
    · have q5 : (z ≤ 4611686018427387903) = False := eq_false hz5
      refine Sp.of_bodyD Try.func99 rfl ?_
      intro Q hQ
      simp only [List.replicate, List.length_cons, List.length_nil, Try.ntmps99, Nat.reduceAdd, Nat.reduceSub, List.cons_append, List.nil_append, go_sem]
      have hz : True := trivial
      have hy := yieldedV_eq
      have hL := @q5
      repeat' (first | (refine WPV.seqK ?_; intro N hN) | refine WPV.block ?_ | refine WPV.scope ?_ | refine WPV.skip ?_ | refine WPV.label ?_ | refine WPV.exit ?_ | refine WPV.ret ?_ | (refine WPV.regionG (M := noM) ?_; intro N hN ops hy; (try simp only [List.append] at hy ⊢); (try simp only [List.map_cons, List.map_nil] at hy)) | (refine WPV.drawK (M := noM) (by kernel_rfl) (by kernel_rfl) ?_; intro N hN; have hy := yieldedV_eq) | (refine WPV.condK ?_; intro A hA B hB) | (refine here ?_; refine sM ?_) | (refine And.intro (by kernel_rfl : okOrd _ _ = true) ?_) | refine Both.mk ?_ ?_ | (refine hN _ ?_; try clear hN N; try clear hy ops) | (refine hA ?_; clear hA A hB B; try simp only [hz]) | (refine hB ?_; clear hA A hB B; try simp only [hz]) | ((first | refine guardO.mk ?_ ?_ | refine guardD.mk ?_ ?_ | refine Br.mk ?_ ?_) <;> (intro hz; have h := nm hz; try (exfalso; omega)) <;> (have hz := nz hz)) | ((first | rw [if_pos (show _ ∧ _ from ⟨by omega, by omega⟩)] | rw [if_pos (show _ ∧ _ from by simp only [List.length_append, List.length_cons, List.length_nil]; exact ⟨by omega, by omega⟩)]); refine sM ?_) | (simp only [thenV, blockV, if_true, if_false, Nat.reduceEqDiff, reduceCtorEq, imp_self]) | (clear hN N))
      all_goals (apply And.right; refine hQ _ _ _ Desc.refl ?_ Wk.refl)
      all_goals (first | (simp only [go_sem, reduceCtorEq, Nat.reduceAdd, Nat.reduceSub, Nat.reduceMul, Nat.reduceLT, Nat.reduceLeDiff, Int.reduceLT, Int.reduceLE, Int.reduceEq, Int.reduceNe, Int.reduceAdd, Int.reduceSub, Int.reduceMul, Int.reduceToNat, Int.reduceNeg, Int.reducePow, Nat.reducePow, Nat.reduceEqDiff, Nat.reduceBEq, Int.reduceBEq, Int.reduceBNe, Int.reduceNegSucc, Try.results99]; done) | (simp only [go_sem, reduceCtorEq, Nat.reduceAdd, Nat.reduceSub, Nat.reduceMul, Nat.reduceLT, Nat.reduceLeDiff, Int.reduceLT, Int.reduceLE, Int.reduceEq, Int.reduceNe, Int.reduceAdd, Int.reduceSub, Int.reduceMul, Int.reduceToNat, Int.reduceNeg, Int.reducePow, Nat.reducePow, Nat.reduceEqDiff, Nat.reduceBEq, Int.reduceBEq, Int.reduceBNe, Int.reduceNegSucc, Try.results99]; rfl) | rfl)

abbrev byV (r : List UInt8 × Int) : V := .tup [.sl 1 (bs r.1), .sc (.int .i64 r.2)]
set_option maxRecDepth 100000 in
set_option maxHeartbeats 2000000 in
theorem cput_s (p c : Clk) (h : List Ho) : Sp Try.prog K 91 [clkV p, clkV c] h fun u hh => u = byV (cputF p c) ∧ hh = h := by
  refine Sp.pure_ (R := fun u hh => Wk [u] [byV (cputF p c)]) ?_ (fun _ => rfl) (fun _ => rfl) (fun v h e => e) h
  have c1 := fun h => cright_s (K := K) p h
  have c2 := fun h => cright_s (K := K) c h
  unfold cputF
  obtain ⟨x, y, z⟩ := c
  obtain ⟨px, py, pz⟩ := p
  cases hp : rightF ⟨px, py, pz⟩ with
  | false =>
    rw [if_neg (by simp)]
    rw [hp] at c1
    have c1 := c1
    refine Sp.of_bodyD Try.func91 rfl ?_
    intro Q hQ
    simp only [List.replicate, List.length_cons, List.length_nil, Try.ntmps91, Nat.reduceAdd, Nat.reduceSub, List.cons_append, List.nil_append, go_sem]
    have hz : True := trivial
    have hy := yieldedV_eq
    have hL := True.intro
    repeat' (first | (refine WPV.seqK ?_; intro N hN) | refine WPV.block ?_ | refine WPV.scope ?_ | refine WPV.skip ?_ | refine WPV.label ?_ | refine WPV.exit ?_ | refine WPV.ret ?_ | (refine WPV.regionG (M := noM) ?_; intro N hN ops hy; (try simp only [List.append] at hy ⊢); (try simp only [List.map_cons, List.map_nil] at hy)) | (refine WPV.drawK (M := noM) (by kernel_rfl) (by kernel_rfl) ?_; intro N hN; have hy := yieldedV_eq) | (refine WPV.condK ?_; intro A hA B hB) | (refine here ?_; refine sM ?_) | (refine And.intro (by kernel_rfl : okOrd _ _ = true) ?_) | refine Both.mk ?_ ?_ | ((with_reducible refine CallO.gd 92 ?_); first | refine CallO.toA Try.call92 (c1 _) ?_ | refine CallO.toA Try.call92 (c2 _) ?_) | ((with_reducible refine CallP.gd 92 ?_); first | refine CallP.toA Try.call92 (c1 _) ?_ | refine CallP.toA Try.call92 (c2 _) ?_) | (refine hN _ ?_; try clear hN N; try clear hy ops) | (refine hA ?_; clear hA A hB B; try simp only [hz]) | (refine hB ?_; clear hA A hB B; try simp only [hz]) | ((first | refine guardO.mk ?_ ?_ | refine guardD.mk ?_ ?_ | refine Br.mk ?_ ?_) <;> (intro hz; have h := nm hz; try (exfalso; omega)) <;> (have hz := nz hz)) | ((first | rw [if_pos (show _ ∧ _ from ⟨by omega, by omega⟩)] | rw [if_pos (show _ ∧ _ from by simp only [List.length_append, List.length_cons, List.length_nil]; exact ⟨by omega, by omega⟩)]); refine sM ?_) | (simp only [thenV, blockV, if_true, if_false, Nat.reduceEqDiff, reduceCtorEq, imp_self]) | (clear hN N))
    all_goals (apply And.right; refine hQ _ _ _ Desc.refl ?_ (Wk.tupC (Wk.null Wk.refl) Wk.nil))
    · (first | (simp only [go_sem, reduceCtorEq, Nat.reduceAdd, Nat.reduceSub, Nat.reduceMul, Nat.reduceLT, Nat.reduceLeDiff, Int.reduceLT, Int.reduceLE, Int.reduceEq, Int.reduceNe, Int.reduceAdd, Int.reduceSub, Int.reduceMul, Int.reduceToNat, Int.reduceNeg, Int.reducePow, Nat.reducePow, Nat.reduceEqDiff, Nat.reduceBEq, Int.reduceBEq, Int.reduceBNe, Int.reduceNegSucc, Try.results91]; done) | (simp only [go_sem, reduceCtorEq, Nat.reduceAdd, Nat.reduceSub, Nat.reduceMul, Nat.reduceLT, Nat.reduceLeDiff, Int.reduceLT, Int.reduceLE, Int.reduceEq, Int.reduceNe, Int.reduceAdd, Int.reduceSub, Int.reduceMul, Int.reduceToNat, Int.reduceNeg, Int.reducePow, Nat.reducePow, Nat.reduceEqDiff, Nat.reduceBEq, Int.reduceBEq, Int.reduceBNe, Int.reduceNegSucc, Try.results91]; rfl) | rfl)
  | true =>
  cases hc : rightF ⟨x, y, z⟩ with
  | false =>
    rw [if_neg (by simp)]
    rw [hp] at c1
    rw [hc] at c2
    refine Sp.of_bodyD Try.func91 rfl ?_
    intro Q hQ
    simp only [List.replicate, List.length_cons, List.length_nil, Try.ntmps91, Nat.reduceAdd, Nat.reduceSub, List.cons_append, List.nil_append, go_sem]
    have hz : True := trivial
    have hy := yieldedV_eq
    have hL := True.intro
    repeat' (first | (refine WPV.seqK ?_; intro N hN) | refine WPV.block ?_ | refine WPV.scope ?_ | refine WPV.skip ?_ | refine WPV.label ?_ | refine WPV.exit ?_ | refine WPV.ret ?_ | (refine WPV.regionG (M := noM) ?_; intro N hN ops hy; (try simp only [List.append] at hy ⊢); (try simp only [List.map_cons, List.map_nil] at hy)) | (refine WPV.drawK (M := noM) (by kernel_rfl) (by kernel_rfl) ?_; intro N hN; have hy := yieldedV_eq) | (refine WPV.condK ?_; intro A hA B hB) | (refine here ?_; refine sM ?_) | (refine And.intro (by kernel_rfl : okOrd _ _ = true) ?_) | refine Both.mk ?_ ?_ | ((with_reducible refine CallO.gd 92 ?_); first | refine CallO.toA Try.call92 (c1 _) ?_ | refine CallO.toA Try.call92 (c2 _) ?_) | ((with_reducible refine CallP.gd 92 ?_); first | refine CallP.toA Try.call92 (c1 _) ?_ | refine CallP.toA Try.call92 (c2 _) ?_) | (refine hN _ ?_; try clear hN N; try clear hy ops) | (refine hA ?_; clear hA A hB B; try simp only [hz]) | (refine hB ?_; clear hA A hB B; try simp only [hz]) | ((first | refine guardO.mk ?_ ?_ | refine guardD.mk ?_ ?_ | refine Br.mk ?_ ?_) <;> (intro hz; have h := nm hz; try (exfalso; omega)) <;> (have hz := nz hz)) | ((first | rw [if_pos (show _ ∧ _ from ⟨by omega, by omega⟩)] | rw [if_pos (show _ ∧ _ from by simp only [List.length_append, List.length_cons, List.length_nil]; exact ⟨by omega, by omega⟩)]); refine sM ?_) | (simp only [thenV, blockV, if_true, if_false, Nat.reduceEqDiff, reduceCtorEq, imp_self]) | (clear hN N))
    all_goals (apply And.right; refine hQ _ _ _ Desc.refl ?_ (Wk.tupC (Wk.null Wk.refl) Wk.nil))
    · (first | (simp only [go_sem, reduceCtorEq, Nat.reduceAdd, Nat.reduceSub, Nat.reduceMul, Nat.reduceLT, Nat.reduceLeDiff, Int.reduceLT, Int.reduceLE, Int.reduceEq, Int.reduceNe, Int.reduceAdd, Int.reduceSub, Int.reduceMul, Int.reduceToNat, Int.reduceNeg, Int.reducePow, Nat.reducePow, Nat.reduceEqDiff, Nat.reduceBEq, Int.reduceBEq, Int.reduceBNe, Int.reduceNegSucc, Try.results91]; done) | (simp only [go_sem, reduceCtorEq, Nat.reduceAdd, Nat.reduceSub, Nat.reduceMul, Nat.reduceLT, Nat.reduceLeDiff, Int.reduceLT, Int.reduceLE, Int.reduceEq, Int.reduceNe, Int.reduceAdd, Int.reduceSub, Int.reduceMul, Int.reduceToNat, Int.reduceNeg, Int.reducePow, Nat.reducePow, Nat.reduceEqDiff, Nat.reduceBEq, Int.reduceBEq, Int.reduceBNe, Int.reduceNegSucc, Try.results91]; rfl) | rfl)
  | true =>
    rw [if_pos (by simp)]
    rw [hp] at c1
    rw [hc] at c2
    have b1 := right_bounds hp
    have b2 := right_bounds hc
    dsimp only at b1 b2
    have l1 := zz_len (x - px)
    have l2 := zz_len (y - py)
    have l3 := zz_len (z - pz)
    have q0 : IntKind.i64.wrap (x - px) = x - px := wr_i64 (by omega) (by omega)
    have q1 : IntKind.i64.wrap (y - py) = y - py := wr_i64 (by omega) (by omega)
    have q2 : IntKind.i64.wrap (z - pz) = z - pz := wr_i64 (by omega) (by omega)
    refine Sp.of_bodyD Try.func91 rfl ?_
    intro Q hQ
    simp only [List.replicate, List.length_cons, List.length_nil, Try.ntmps91, Nat.reduceAdd, Nat.reduceSub, List.cons_append, List.nil_append, go_sem]
    iterate 5
      all_goals try refine loopV ?_
      have hz : True := trivial
      have hy := yieldedV_eq
      have hL := And.intro @q0 (And.intro @q1 (@q2))
      repeat' (first | (refine WPV.seqK ?_; intro N hN) | refine WPV.block ?_ | refine WPV.scope ?_ | refine WPV.skip ?_ | refine WPV.label ?_ | refine WPV.exit ?_ | refine WPV.ret ?_ | (refine WPV.regionG (M := noM) ?_; intro N hN ops hy; (try simp only [List.append] at hy ⊢); (try simp only [List.map_cons, List.map_nil] at hy)) | (refine WPV.drawK (M := noM) (by kernel_rfl) (by kernel_rfl) ?_; intro N hN; have hy := yieldedV_eq) | (refine WPV.condK ?_; intro A hA B hB) | (refine here ?_; refine sM ?_) | (refine And.intro (by kernel_rfl : okOrd _ _ = true) ?_) | refine Both.mk ?_ ?_ | ((with_reducible refine CallO.gd 92 ?_); first | refine CallO.toA Try.call92 (c1 _) ?_ | refine CallO.toA Try.call92 (c2 _) ?_) | ((with_reducible refine CallO.gd 108 ?_); first | refine CallO.toA Try.call108 (vputs_s (m := x - px) (by omega) (by omega) _) ?_ | refine CallO.toA Try.call108 (vputs_s (m := y - py) (by omega) (by omega) _) ?_ | refine CallO.toA Try.call108 (vputs_s (m := z - pz) (by omega) (by omega) _) ?_) | ((with_reducible refine CallP.gd 92 ?_); first | refine CallP.toA Try.call92 (c1 _) ?_ | refine CallP.toA Try.call92 (c2 _) ?_) | ((with_reducible refine CallP.gd 108 ?_); first | refine CallP.toA Try.call108 (vputs_s (m := x - px) (by omega) (by omega) _) ?_ | refine CallP.toA Try.call108 (vputs_s (m := y - py) (by omega) (by omega) _) ?_ | refine CallP.toA Try.call108 (vputs_s (m := z - pz) (by omega) (by omega) _) ?_) | (refine hN _ ?_; try clear hN N; try clear hy ops) | (refine hA ?_; clear hA A hB B; try simp only [hz]) | (refine hB ?_; clear hA A hB B; try simp only [hz]) | ((first | refine guardO.mk ?_ ?_ | refine guardD.mk ?_ ?_ | refine Br.mk ?_ ?_) <;> (intro hz; have h := nm hz; try (exfalso; omega)) <;> (have hz := nz hz)) | ((first | rw [if_pos (show _ ∧ _ from ⟨by omega, by omega⟩)] | rw [if_pos (show _ ∧ _ from by simp only [List.length_append, List.length_cons, List.length_nil]; exact ⟨by omega, by omega⟩)]); refine sM ?_) | (simp only [thenV, blockV, if_true, if_false, Nat.reduceEqDiff, reduceCtorEq, imp_self]) | (clear hN N))
    apply And.right
    refine hQ _ _ ?_ Desc.refl ?_ ?_
    rotate_left
    · (first | (simp only [go_sem, reduceCtorEq, Nat.reduceAdd, Nat.reduceSub, Nat.reduceMul, Nat.reduceLT, Nat.reduceLeDiff, Int.reduceLT, Int.reduceLE, Int.reduceEq, Int.reduceNe, Int.reduceAdd, Int.reduceSub, Int.reduceMul, Int.reduceToNat, Int.reduceNeg, Int.reducePow, Nat.reducePow, Nat.reduceEqDiff, Nat.reduceBEq, Int.reduceBEq, Int.reduceBNe, Int.reduceNegSucc, Try.results91]; done) | (simp only [go_sem, reduceCtorEq, Nat.reduceAdd, Nat.reduceSub, Nat.reduceMul, Nat.reduceLT, Nat.reduceLeDiff, Int.reduceLT, Int.reduceLE, Int.reduceEq, Int.reduceNe, Int.reduceAdd, Int.reduceSub, Int.reduceMul, Int.reduceToNat, Int.reduceNeg, Int.reducePow, Nat.reducePow, Nat.reduceEqDiff, Nat.reduceBEq, Int.reduceBEq, Int.reduceBNe, Int.reduceNegSucc, Try.results91]; rfl) | rfl)
    · exact Wk.tupC (Wk.own Wk.refl) Wk.nil
end

section
open Go Go.RowKit
set_option linter.unusedVariables false
set_option linter.unusedSimpArgs false
variable {K : Nat → Obj → Prop}

theorem zag_bounds (n : UInt64) : -9223372036854775808 ≤ zagF n ∧ zagF n < 9223372036854775808 := by
  have := UInt64.toNat_lt n
  unfold zagF
  split <;> omega
abbrev ckV (t : Clk × Nat × Int) : V := .tup [clkV t.1, .sc (.int .i64 (t.2.1 : Int)), .sc (.int .i64 t.2.2)]
set_option maxRecDepth 100000 in
set_option maxHeartbeats 8000000 in
theorem ctake_s (p : Clk) (b : List UInt8) (hl : b.length ≤ 1000000000) (h : List Ho) : Sp Try.prog K 97 [clkV p, .sl 1 (bs b)] h fun u hh => u = ckV (ctakeF p b) ∧ hh = h := by
  refine Sp.pure_ (R := fun u hh => Wk [u] [ckV (ctakeF p b)]) ?_ (fun _ => rfl) (fun _ => rfl) (fun v h e => e) h
  have c1 := fun h => cright_s (K := K) p h
  obtain ⟨px, py, pz⟩ := p
  have q0 : True := trivial
  have q1 : True := trivial
  have q2 : True := trivial
  have q3 : True := trivial
  have q4 : True := trivial
  have q5 : True := trivial
  have q6 : True := trivial
  have q7 : True := trivial
  have q8 : True := trivial
  have q9 : True := trivial
  have s1 : True := trivial
  have s2 : True := trivial
  have s3 : True := trivial
  have g1 : True := trivial
  have g2 : True := trivial
  have z0 : ((0 : Int) != 0) = false := rfl
  have w1 : True := trivial
  have g0 : True := trivial
  have w2 : True := trivial
  have t1 : True := trivial
  have t2 : True := trivial
  have t3 : True := trivial
  cases hp : rightF ⟨px, py, pz⟩ with
  | false =>
    have e : ctakeF ⟨px, py, pz⟩ b = (⟨0, 0, 0⟩, 0, 1) := by unfold ctakeF; rw [if_pos hp]
    rw [e]
    rw [hp] at c1
    refine Sp.of_bodyD Try.func97 rfl ?_
    intro Q hQ
    simp only [List.replicate, List.length_cons, List.length_nil, Try.ntmps97, Nat.reduceAdd, Nat.reduceSub, List.cons_append, List.nil_append, go_sem]
    iterate 1
      all_goals try refine loopV ?_
      have hz : True := trivial
      have hy := yieldedV_eq
      have hL := And.intro @q0 (And.intro @q1 (And.intro @q2 (And.intro @q3 (And.intro @q4 (And.intro @q5 (And.intro @q6 (And.intro @q7 (And.intro @q8 (And.intro @q9 (And.intro @s1 (And.intro @s2 (And.intro @s3 (And.intro @g1 (And.intro @g2 (And.intro @z0 (And.intro @w1 (And.intro @w2 (@g0))))))))))))))))))
      repeat' (first | (refine WPV.seqK ?_; intro N hN) | refine WPV.block ?_ | refine WPV.scope ?_ | refine WPV.skip ?_ | refine WPV.label ?_ | refine WPV.exit ?_ | refine WPV.ret ?_ | (refine WPV.regionG (M := noM) ?_; intro N hN ops hy; (try simp only [List.append] at hy ⊢); (try simp only [List.map_cons, List.map_nil] at hy)) | (refine WPV.drawK (M := noM) (by kernel_rfl) (by kernel_rfl) ?_; intro N hN; have hy := yieldedV_eq) | (refine WPV.condK ?_; intro A hA B hB) | (refine here ?_; refine sM ?_) | (refine And.intro (by kernel_rfl : okOrd _ _ = true) ?_) | refine Both.mk ?_ ?_ | ((with_reducible refine CallO.gd 92 ?_); refine CallO.toA Try.call92 (c1 _) ?_) | ((with_reducible refine CallO.gd 110 ?_); first | refine CallO.toA Try.call110 (t1 _) ?_ | refine CallO.toA Try.call110 (t2 _) ?_ | refine CallO.toA Try.call110 (t3 _) ?_) | ((with_reducible refine CallP.gd 92 ?_); refine CallP.toA Try.call92 (c1 _) ?_) | ((with_reducible refine CallP.gd 110 ?_); first | refine CallP.toA Try.call110 (t1 _) ?_ | refine CallP.toA Try.call110 (t2 _) ?_ | refine CallP.toA Try.call110 (t3 _) ?_) | (refine hN _ ?_; try clear hN N; try clear hy ops) | (refine hA ?_; clear hA A hB B; try simp only [hz]) | (refine hB ?_; clear hA A hB B; try simp only [hz]) | ((first | refine guardO.mk ?_ ?_ | refine guardD.mk ?_ ?_ | refine Br.mk ?_ ?_) <;> (intro hz; have h := nm hz; try (exfalso; omega)) <;> (have hz := nz hz)) | ((first | rw [if_pos (show _ ∧ _ from ⟨by omega, by omega⟩)] | rw [if_pos (show _ ∧ _ from by simp only [List.length_append, List.length_cons, List.length_nil]; exact ⟨by omega, by omega⟩)]); refine sM ?_) | (simp only [thenV, blockV, if_true, if_false, Nat.reduceEqDiff, reduceCtorEq, imp_self]) | (clear hN N))
    all_goals (apply And.right; refine hQ _ _ _ Desc.refl ?_ Wk.refl)
    all_goals (first | (simp only [go_sem, reduceCtorEq, Nat.reduceAdd, Nat.reduceSub, Nat.reduceMul, Nat.reduceLT, Nat.reduceLeDiff, Int.reduceLT, Int.reduceLE, Int.reduceEq, Int.reduceNe, Int.reduceAdd, Int.reduceSub, Int.reduceMul, Int.reduceToNat, Int.reduceNeg, Int.reducePow, Nat.reducePow, Nat.reduceEqDiff, Nat.reduceBEq, Int.reduceBEq, Int.reduceBNe, Int.reduceNegSucc, Try.results97]; done) | (simp only [go_sem, reduceCtorEq, Nat.reduceAdd, Nat.reduceSub, Nat.reduceMul, Nat.reduceLT, Nat.reduceLeDiff, Int.reduceLT, Int.reduceLE, Int.reduceEq, Int.reduceNe, Int.reduceAdd, Int.reduceSub, Int.reduceMul, Int.reduceToNat, Int.reduceNeg, Int.reducePow, Nat.reducePow, Nat.reduceEqDiff, Nat.reduceBEq, Int.reduceBEq, Int.reduceBNe, Int.reduceNegSucc, Try.results97]; rfl) | rfl)
  | true =>
    rw [hp] at c1
    have hb := right_bounds hp
    dsimp only at hb
    clear q6 q7 q8
    have q6 : IntKind.i64.wrap (0 - px) = -px := by rw [wr_i64 (by omega) (by omega)]; omega
    have q7 : IntKind.i64.wrap (0 - py) = -py := by rw [wr_i64 (by omega) (by omega)]; omega
    have q8 : IntKind.i64.wrap (0 - pz) = -pz := by rw [wr_i64 (by omega) (by omega)]; omega
    have s1 : IntKind.i64.wrap (4611686018427387903 - px) = 4611686018427387903 - px := wr_i64 (by omega) (by omega)
    have s2 : IntKind.i64.wrap (4611686018427387903 - py) = 4611686018427387903 - py := wr_i64 (by omega) (by omega)
    have s3 : IntKind.i64.wrap (4611686018427387903 - pz) = 4611686018427387903 - pz := wr_i64 (by omega) (by omega)
    obtain ⟨u1, n1, e1, ht1⟩ : ∃ u n e, tk b = (u, n, e) := ⟨_, _, _, rfl⟩
    clear t1
    have t1 := fun h => vtakes_s (K := K) ht1 (by first | exact hl | (rw [List.length_drop]; omega)) h
    have hn1 := tk_le b
    rw [ht1] at hn1
    dsimp only at hn1
    have hz1 := zag_bounds u1
    by_cases he1 : e1 ≠ 0
    · have e : ctakeF ⟨px, py, pz⟩ b = (⟨0, 0, 0⟩, 0, e1) := by unfold ctakeF ct1; simp [hp, ht1, he1]
      rw [e]
      have q2 : (e1 != 0) = true := by simpa using he1
      refine Sp.of_bodyD Try.func97 rfl ?_
      intro Q hQ
      simp only [List.replicate, List.length_cons, List.length_nil, Try.ntmps97, Nat.reduceAdd, Nat.reduceSub, List.cons_append, List.nil_append, go_sem]
      iterate 2
        all_goals try refine loopV ?_
        have hz : True := trivial
        have hy := yieldedV_eq
        have hL := And.intro @q0 (And.intro @q1 (And.intro @q2 (And.intro @q3 (And.intro @q4 (And.intro @q5 (And.intro @q6 (And.intro @q7 (And.intro @q8 (And.intro @q9 (And.intro @s1 (And.intro @s2 (And.intro @s3 (And.intro @g1 (And.intro @g2 (And.intro @z0 (And.intro @w1 (And.intro @w2 (@g0))))))))))))))))))
        repeat' (first | (refine WPV.seqK ?_; intro N hN) | refine WPV.block ?_ | refine WPV.scope ?_ | refine WPV.skip ?_ | refine WPV.label ?_ | refine WPV.exit ?_ | refine WPV.ret ?_ | (refine WPV.regionG (M := noM) ?_; intro N hN ops hy; (try simp only [List.append] at hy ⊢); (try simp only [List.map_cons, List.map_nil] at hy)) | (refine WPV.drawK (M := noM) (by kernel_rfl) (by kernel_rfl) ?_; intro N hN; have hy := yieldedV_eq) | (refine WPV.condK ?_; intro A hA B hB) | (refine here ?_; refine sM ?_) | (refine And.intro (by kernel_rfl : okOrd _ _ = true) ?_) | refine Both.mk ?_ ?_ | ((with_reducible refine CallO.gd 92 ?_); refine CallO.toA Try.call92 (c1 _) ?_) | ((with_reducible refine CallO.gd 110 ?_); first | refine CallO.toA Try.call110 (t1 _) ?_ | refine CallO.toA Try.call110 (t2 _) ?_ | refine CallO.toA Try.call110 (t3 _) ?_) | ((with_reducible refine CallP.gd 92 ?_); refine CallP.toA Try.call92 (c1 _) ?_) | ((with_reducible refine CallP.gd 110 ?_); first | refine CallP.toA Try.call110 (t1 _) ?_ | refine CallP.toA Try.call110 (t2 _) ?_ | refine CallP.toA Try.call110 (t3 _) ?_) | (refine hN _ ?_; try clear hN N; try clear hy ops) | (refine hA ?_; clear hA A hB B; try simp only [hz]) | (refine hB ?_; clear hA A hB B; try simp only [hz]) | ((first | refine guardO.mk ?_ ?_ | refine guardD.mk ?_ ?_ | refine Br.mk ?_ ?_) <;> (intro hz; have h := nm hz; try (exfalso; omega)) <;> (have hz := nz hz)) | ((first | rw [if_pos (show _ ∧ _ from ⟨by omega, by omega⟩)] | rw [if_pos (show _ ∧ _ from by simp only [List.length_append, List.length_cons, List.length_nil]; exact ⟨by omega, by omega⟩)]); refine sM ?_) | (simp only [thenV, blockV, if_true, if_false, Nat.reduceEqDiff, reduceCtorEq, imp_self]) | (clear hN N))
      all_goals (apply And.right; refine hQ _ _ _ Desc.refl ?_ Wk.refl)
      all_goals (first | (simp only [go_sem, reduceCtorEq, Nat.reduceAdd, Nat.reduceSub, Nat.reduceMul, Nat.reduceLT, Nat.reduceLeDiff, Int.reduceLT, Int.reduceLE, Int.reduceEq, Int.reduceNe, Int.reduceAdd, Int.reduceSub, Int.reduceMul, Int.reduceToNat, Int.reduceNeg, Int.reducePow, Nat.reducePow, Nat.reduceEqDiff, Nat.reduceBEq, Int.reduceBEq, Int.reduceBNe, Int.reduceNegSucc, Try.results97]; done) | (simp only [go_sem, reduceCtorEq, Nat.reduceAdd, Nat.reduceSub, Nat.reduceMul, Nat.reduceLT, Nat.reduceLeDiff, Int.reduceLT, Int.reduceLE, Int.reduceEq, Int.reduceNe, Int.reduceAdd, Int.reduceSub, Int.reduceMul, Int.reduceToNat, Int.reduceNeg, Int.reducePow, Nat.reducePow, Nat.reduceEqDiff, Nat.reduceBEq, Int.reduceBEq, Int.reduceBNe, Int.reduceNegSucc, Try.results97]; rfl) | rfl)
    have he1 := Decidable.not_not.1 he1
    subst he1
    clear g0
    have g0 : IntKind.i64.wrap (n1 : Int) = (n1 : Int) := wr_i64 (by omega) (by omega)
    clear w1
    have w1 : ((n1 : Int) ≤ (b.length : Int)) = True := eq_true (by omega)
    by_cases hr1 : zagF u1 < -px ∨ 4611686018427387903 - px < zagF u1
    · have e : ctakeF ⟨px, py, pz⟩ b = (⟨0, 0, 0⟩, 0, 3) := by unfold ctakeF ct1; simp [hp, ht1, hr1]
      rw [e]
      refine Sp.of_bodyD Try.func97 rfl ?_
      intro Q hQ
      simp only [List.replicate, List.length_cons, List.length_nil, Try.ntmps97, Nat.reduceAdd, Nat.reduceSub, List.cons_append, List.nil_append, go_sem]
      iterate 2
        all_goals try refine loopV ?_
        have hz : True := trivial
        have hy := yieldedV_eq
        have hL := And.intro @q0 (And.intro @q1 (And.intro @q2 (And.intro @q3 (And.intro @q4 (And.intro @q5 (And.intro @q6 (And.intro @q7 (And.intro @q8 (And.intro @q9 (And.intro @s1 (And.intro @s2 (And.intro @s3 (And.intro @g1 (And.intro @g2 (And.intro @z0 (And.intro @w1 (And.intro @w2 (@g0))))))))))))))))))
        repeat' (first | (refine WPV.seqK ?_; intro N hN) | refine WPV.block ?_ | refine WPV.scope ?_ | refine WPV.skip ?_ | refine WPV.label ?_ | refine WPV.exit ?_ | refine WPV.ret ?_ | (refine WPV.regionG (M := noM) ?_; intro N hN ops hy; (try simp only [List.append] at hy ⊢); (try simp only [List.map_cons, List.map_nil] at hy)) | (refine WPV.drawK (M := noM) (by kernel_rfl) (by kernel_rfl) ?_; intro N hN; have hy := yieldedV_eq) | (refine WPV.condK ?_; intro A hA B hB) | (refine here ?_; refine sM ?_) | (refine And.intro (by kernel_rfl : okOrd _ _ = true) ?_) | refine Both.mk ?_ ?_ | ((with_reducible refine CallO.gd 92 ?_); refine CallO.toA Try.call92 (c1 _) ?_) | ((with_reducible refine CallO.gd 110 ?_); first | refine CallO.toA Try.call110 (t1 _) ?_ | refine CallO.toA Try.call110 (t2 _) ?_ | refine CallO.toA Try.call110 (t3 _) ?_) | ((with_reducible refine CallP.gd 92 ?_); refine CallP.toA Try.call92 (c1 _) ?_) | ((with_reducible refine CallP.gd 110 ?_); first | refine CallP.toA Try.call110 (t1 _) ?_ | refine CallP.toA Try.call110 (t2 _) ?_ | refine CallP.toA Try.call110 (t3 _) ?_) | (refine hN _ ?_; try clear hN N; try clear hy ops) | (refine hA ?_; clear hA A hB B; try simp only [hz]) | (refine hB ?_; clear hA A hB B; try simp only [hz]) | ((first | refine guardO.mk ?_ ?_ | refine guardD.mk ?_ ?_ | refine Br.mk ?_ ?_) <;> (intro hz; have h := nm hz; try (exfalso; omega)) <;> (have hz := nz hz)) | ((first | rw [if_pos (show _ ∧ _ from ⟨by omega, by omega⟩)] | rw [if_pos (show _ ∧ _ from by simp only [List.length_append, List.length_cons, List.length_nil]; exact ⟨by omega, by omega⟩)]); refine sM ?_) | (simp only [thenV, blockV, if_true, if_false, Nat.reduceEqDiff, reduceCtorEq, imp_self]) | (clear hN N))
      all_goals (apply And.right; refine hQ _ _ _ Desc.refl ?_ Wk.refl)
      all_goals (first | (simp only [go_sem, reduceCtorEq, Nat.reduceAdd, Nat.reduceSub, Nat.reduceMul, Nat.reduceLT, Nat.reduceLeDiff, Int.reduceLT, Int.reduceLE, Int.reduceEq, Int.reduceNe, Int.reduceAdd, Int.reduceSub, Int.reduceMul, Int.reduceToNat, Int.reduceNeg, Int.reducePow, Nat.reducePow, Nat.reduceEqDiff, Nat.reduceBEq, Int.reduceBEq, Int.reduceBNe, Int.reduceNegSucc, Try.results97]; done) | (simp only [go_sem, reduceCtorEq, Nat.reduceAdd, Nat.reduceSub, Nat.reduceMul, Nat.reduceLT, Nat.reduceLeDiff, Int.reduceLT, Int.reduceLE, Int.reduceEq, Int.reduceNe, Int.reduceAdd, Int.reduceSub, Int.reduceMul, Int.reduceToNat, Int.reduceNeg, Int.reducePow, Nat.reducePow, Nat.reduceEqDiff, Nat.reduceBEq, Int.reduceBEq, Int.reduceBNe, Int.reduceNegSucc, Try.results97]; rfl) | rfl)
    clear q0
    have q0 : IntKind.i64.wrap (px + zagF u1) = px + zagF u1 := wr_i64 (by omega) (by omega)
    obtain ⟨u2, n2, e2, ht2⟩ : ∃ u n e, tk (b.drop n1) = (u, n, e) := ⟨_, _, _, rfl⟩
    clear t2
    have t2 := fun h => vtakes_s (K := K) ht2 (by first | exact hl | (rw [List.length_drop]; omega)) h
    have hn2 := tk_le (b.drop n1)
    rw [ht2, List.length_drop] at hn2
    dsimp only at hn2
    have hz2 := zag_bounds u2
    by_cases he2 : e2 ≠ 0
    · have e : ctakeF ⟨px, py, pz⟩ b = (⟨0, 0, 0⟩, 0, e2) := by unfold ctakeF ct1; simp [hp, ht1, ht2, hr1, he2]
      rw [e]
      have q3 : (e2 != 0) = true := by simpa using he2
      refine Sp.of_bodyD Try.func97 rfl ?_
      intro Q hQ
      simp only [List.replicate, List.length_cons, List.length_nil, Try.ntmps97, Nat.reduceAdd, Nat.reduceSub, List.cons_append, List.nil_append, go_sem]
      iterate 3
        all_goals try refine loopV ?_
        have hz : True := trivial
        have hy := yieldedV_eq
        have hL := And.intro @q0 (And.intro @q1 (And.intro @q2 (And.intro @q3 (And.intro @q4 (And.intro @q5 (And.intro @q6 (And.intro @q7 (And.intro @q8 (And.intro @q9 (And.intro @s1 (And.intro @s2 (And.intro @s3 (And.intro @g1 (And.intro @g2 (And.intro @z0 (And.intro @w1 (And.intro @w2 (@g0))))))))))))))))))
        repeat' (first | (refine WPV.seqK ?_; intro N hN) | refine WPV.block ?_ | refine WPV.scope ?_ | refine WPV.skip ?_ | refine WPV.label ?_ | refine WPV.exit ?_ | refine WPV.ret ?_ | (refine WPV.regionG (M := noM) ?_; intro N hN ops hy; (try simp only [List.append] at hy ⊢); (try simp only [List.map_cons, List.map_nil] at hy)) | (refine WPV.drawK (M := noM) (by kernel_rfl) (by kernel_rfl) ?_; intro N hN; have hy := yieldedV_eq) | (refine WPV.condK ?_; intro A hA B hB) | (refine here ?_; refine sM ?_) | (refine And.intro (by kernel_rfl : okOrd _ _ = true) ?_) | refine Both.mk ?_ ?_ | ((with_reducible refine CallO.gd 92 ?_); refine CallO.toA Try.call92 (c1 _) ?_) | ((with_reducible refine CallO.gd 110 ?_); first | refine CallO.toA Try.call110 (t1 _) ?_ | refine CallO.toA Try.call110 (t2 _) ?_ | refine CallO.toA Try.call110 (t3 _) ?_) | ((with_reducible refine CallP.gd 92 ?_); refine CallP.toA Try.call92 (c1 _) ?_) | ((with_reducible refine CallP.gd 110 ?_); first | refine CallP.toA Try.call110 (t1 _) ?_ | refine CallP.toA Try.call110 (t2 _) ?_ | refine CallP.toA Try.call110 (t3 _) ?_) | (refine hN _ ?_; try clear hN N; try clear hy ops) | (refine hA ?_; clear hA A hB B; try simp only [hz]) | (refine hB ?_; clear hA A hB B; try simp only [hz]) | ((first | refine guardO.mk ?_ ?_ | refine guardD.mk ?_ ?_ | refine Br.mk ?_ ?_) <;> (intro hz; have h := nm hz; try (exfalso; omega)) <;> (have hz := nz hz)) | ((first | rw [if_pos (show _ ∧ _ from ⟨by omega, by omega⟩)] | rw [if_pos (show _ ∧ _ from by simp only [List.length_append, List.length_cons, List.length_nil]; exact ⟨by omega, by omega⟩)]); refine sM ?_) | (simp only [thenV, blockV, if_true, if_false, Nat.reduceEqDiff, reduceCtorEq, imp_self]) | (clear hN N))
      all_goals (apply And.right; refine hQ _ _ _ Desc.refl ?_ Wk.refl)
      all_goals (first | (simp only [go_sem, reduceCtorEq, Nat.reduceAdd, Nat.reduceSub, Nat.reduceMul, Nat.reduceLT, Nat.reduceLeDiff, Int.reduceLT, Int.reduceLE, Int.reduceEq, Int.reduceNe, Int.reduceAdd, Int.reduceSub, Int.reduceMul, Int.reduceToNat, Int.reduceNeg, Int.reducePow, Nat.reducePow, Nat.reduceEqDiff, Nat.reduceBEq, Int.reduceBEq, Int.reduceBNe, Int.reduceNegSucc, Try.results97]; done) | (simp only [go_sem, reduceCtorEq, Nat.reduceAdd, Nat.reduceSub, Nat.reduceMul, Nat.reduceLT, Nat.reduceLeDiff, Int.reduceLT, Int.reduceLE, Int.reduceEq, Int.reduceNe, Int.reduceAdd, Int.reduceSub, Int.reduceMul, Int.reduceToNat, Int.reduceNeg, Int.reducePow, Nat.reducePow, Nat.reduceEqDiff, Nat.reduceBEq, Int.reduceBEq, Int.reduceBNe, Int.reduceNegSucc, Try.results97]; rfl) | rfl)
    have he2 := Decidable.not_not.1 he2
    subst he2
    clear w2
    have w2 : (((n1 + n2 : Nat) : Int) ≤ (b.length : Int)) = True := eq_true (by omega)
    by_cases hr2 : zagF u2 < -py ∨ 4611686018427387903 - py < zagF u2
    · have e : ctakeF ⟨px, py, pz⟩ b = (⟨0, 0, 0⟩, 0, 3) := by unfold ctakeF ct1; simp [hp, ht1, ht2, hr1, hr2]
      rw [e]
      refine Sp.of_bodyD Try.func97 rfl ?_
      intro Q hQ
      simp only [List.replicate, List.length_cons, List.length_nil, Try.ntmps97, Nat.reduceAdd, Nat.reduceSub, List.cons_append, List.nil_append, go_sem]
      iterate 3
        all_goals try refine loopV ?_
        have hz : True := trivial
        have hy := yieldedV_eq
        have hL := And.intro @q0 (And.intro @q1 (And.intro @q2 (And.intro @q3 (And.intro @q4 (And.intro @q5 (And.intro @q6 (And.intro @q7 (And.intro @q8 (And.intro @q9 (And.intro @s1 (And.intro @s2 (And.intro @s3 (And.intro @g1 (And.intro @g2 (And.intro @z0 (And.intro @w1 (And.intro @w2 (@g0))))))))))))))))))
        repeat' (first | (refine WPV.seqK ?_; intro N hN) | refine WPV.block ?_ | refine WPV.scope ?_ | refine WPV.skip ?_ | refine WPV.label ?_ | refine WPV.exit ?_ | refine WPV.ret ?_ | (refine WPV.regionG (M := noM) ?_; intro N hN ops hy; (try simp only [List.append] at hy ⊢); (try simp only [List.map_cons, List.map_nil] at hy)) | (refine WPV.drawK (M := noM) (by kernel_rfl) (by kernel_rfl) ?_; intro N hN; have hy := yieldedV_eq) | (refine WPV.condK ?_; intro A hA B hB) | (refine here ?_; refine sM ?_) | (refine And.intro (by kernel_rfl : okOrd _ _ = true) ?_) | refine Both.mk ?_ ?_ | ((with_reducible refine CallO.gd 92 ?_); refine CallO.toA Try.call92 (c1 _) ?_) | ((with_reducible refine CallO.gd 110 ?_); first | refine CallO.toA Try.call110 (t1 _) ?_ | refine CallO.toA Try.call110 (t2 _) ?_ | refine CallO.toA Try.call110 (t3 _) ?_) | ((with_reducible refine CallP.gd 92 ?_); refine CallP.toA Try.call92 (c1 _) ?_) | ((with_reducible refine CallP.gd 110 ?_); first | refine CallP.toA Try.call110 (t1 _) ?_ | refine CallP.toA Try.call110 (t2 _) ?_ | refine CallP.toA Try.call110 (t3 _) ?_) | (refine hN _ ?_; try clear hN N; try clear hy ops) | (refine hA ?_; clear hA A hB B; try simp only [hz]) | (refine hB ?_; clear hA A hB B; try simp only [hz]) | ((first | refine guardO.mk ?_ ?_ | refine guardD.mk ?_ ?_ | refine Br.mk ?_ ?_) <;> (intro hz; have h := nm hz; try (exfalso; omega)) <;> (have hz := nz hz)) | ((first | rw [if_pos (show _ ∧ _ from ⟨by omega, by omega⟩)] | rw [if_pos (show _ ∧ _ from by simp only [List.length_append, List.length_cons, List.length_nil]; exact ⟨by omega, by omega⟩)]); refine sM ?_) | (simp only [thenV, blockV, if_true, if_false, Nat.reduceEqDiff, reduceCtorEq, imp_self]) | (clear hN N))
      all_goals (apply And.right; refine hQ _ _ _ Desc.refl ?_ Wk.refl)
      all_goals (first | (simp only [go_sem, reduceCtorEq, Nat.reduceAdd, Nat.reduceSub, Nat.reduceMul, Nat.reduceLT, Nat.reduceLeDiff, Int.reduceLT, Int.reduceLE, Int.reduceEq, Int.reduceNe, Int.reduceAdd, Int.reduceSub, Int.reduceMul, Int.reduceToNat, Int.reduceNeg, Int.reducePow, Nat.reducePow, Nat.reduceEqDiff, Nat.reduceBEq, Int.reduceBEq, Int.reduceBNe, Int.reduceNegSucc, Try.results97]; done) | (simp only [go_sem, reduceCtorEq, Nat.reduceAdd, Nat.reduceSub, Nat.reduceMul, Nat.reduceLT, Nat.reduceLeDiff, Int.reduceLT, Int.reduceLE, Int.reduceEq, Int.reduceNe, Int.reduceAdd, Int.reduceSub, Int.reduceMul, Int.reduceToNat, Int.reduceNeg, Int.reducePow, Nat.reducePow, Nat.reduceEqDiff, Nat.reduceBEq, Int.reduceBEq, Int.reduceBNe, Int.reduceNegSucc, Try.results97]; rfl) | rfl)
    clear q1
    have q1 : IntKind.i64.wrap (py + zagF u2) = py + zagF u2 := wr_i64 (by omega) (by omega)
    clear g1
    have g1 : IntKind.i64.wrap ((n1 : Int) + (n2 : Int)) = ((n1 + n2 : Nat) : Int) := by rw [wr_i64 (by omega) (by omega)]; rfl
    obtain ⟨u3, n3, e3, ht3⟩ : ∃ u n e, tk (b.drop (n1 + n2)) = (u, n, e) := ⟨_, _, _, rfl⟩
    clear t3
    have t3 := fun h => vtakes_s (K := K) ht3 (by first | exact hl | (rw [List.length_drop]; omega)) h
    have hn3 := tk_le (b.drop (n1 + n2))
    rw [ht3, List.length_drop] at hn3
    dsimp only at hn3
    have hz3 := zag_bounds u3
    by_cases he3 : e3 ≠ 0
    · have e : ctakeF ⟨px, py, pz⟩ b = (⟨0, 0, 0⟩, 0, e3) := by unfold ctakeF ct1; simp [hp, ht1, ht2, ht3, hr1, hr2, he3]
      rw [e]
      have q4 : (e3 != 0) = true := by simpa using he3
      refine Sp.of_bodyD Try.func97 rfl ?_
      intro Q hQ
      simp only [List.replicate, List.length_cons, List.length_nil, Try.ntmps97, Nat.reduceAdd, Nat.reduceSub, List.cons_append, List.nil_append, go_sem]
      iterate 4
        all_goals try refine loopV ?_
        have hz : True := trivial
        have hy := yieldedV_eq
        have hL := And.intro @q0 (And.intro @q1 (And.intro @q2 (And.intro @q3 (And.intro @q4 (And.intro @q5 (And.intro @q6 (And.intro @q7 (And.intro @q8 (And.intro @q9 (And.intro @s1 (And.intro @s2 (And.intro @s3 (And.intro @g1 (And.intro @g2 (And.intro @z0 (And.intro @w1 (And.intro @w2 (@g0))))))))))))))))))
        repeat' (first | (refine WPV.seqK ?_; intro N hN) | refine WPV.block ?_ | refine WPV.scope ?_ | refine WPV.skip ?_ | refine WPV.label ?_ | refine WPV.exit ?_ | refine WPV.ret ?_ | (refine WPV.regionG (M := noM) ?_; intro N hN ops hy; (try simp only [List.append] at hy ⊢); (try simp only [List.map_cons, List.map_nil] at hy)) | (refine WPV.drawK (M := noM) (by kernel_rfl) (by kernel_rfl) ?_; intro N hN; have hy := yieldedV_eq) | (refine WPV.condK ?_; intro A hA B hB) | (refine here ?_; refine sM ?_) | (refine And.intro (by kernel_rfl : okOrd _ _ = true) ?_) | refine Both.mk ?_ ?_ | ((with_reducible refine CallO.gd 92 ?_); refine CallO.toA Try.call92 (c1 _) ?_) | ((with_reducible refine CallO.gd 110 ?_); first | refine CallO.toA Try.call110 (t1 _) ?_ | refine CallO.toA Try.call110 (t2 _) ?_ | refine CallO.toA Try.call110 (t3 _) ?_) | ((with_reducible refine CallP.gd 92 ?_); refine CallP.toA Try.call92 (c1 _) ?_) | ((with_reducible refine CallP.gd 110 ?_); first | refine CallP.toA Try.call110 (t1 _) ?_ | refine CallP.toA Try.call110 (t2 _) ?_ | refine CallP.toA Try.call110 (t3 _) ?_) | (refine hN _ ?_; try clear hN N; try clear hy ops) | (refine hA ?_; clear hA A hB B; try simp only [hz]) | (refine hB ?_; clear hA A hB B; try simp only [hz]) | ((first | refine guardO.mk ?_ ?_ | refine guardD.mk ?_ ?_ | refine Br.mk ?_ ?_) <;> (intro hz; have h := nm hz; try (exfalso; omega)) <;> (have hz := nz hz)) | ((first | rw [if_pos (show _ ∧ _ from ⟨by omega, by omega⟩)] | rw [if_pos (show _ ∧ _ from by simp only [List.length_append, List.length_cons, List.length_nil]; exact ⟨by omega, by omega⟩)]); refine sM ?_) | (simp only [thenV, blockV, if_true, if_false, Nat.reduceEqDiff, reduceCtorEq, imp_self]) | (clear hN N))
      all_goals (apply And.right; refine hQ _ _ _ Desc.refl ?_ Wk.refl)
      all_goals (first | (simp only [go_sem, reduceCtorEq, Nat.reduceAdd, Nat.reduceSub, Nat.reduceMul, Nat.reduceLT, Nat.reduceLeDiff, Int.reduceLT, Int.reduceLE, Int.reduceEq, Int.reduceNe, Int.reduceAdd, Int.reduceSub, Int.reduceMul, Int.reduceToNat, Int.reduceNeg, Int.reducePow, Nat.reducePow, Nat.reduceEqDiff, Nat.reduceBEq, Int.reduceBEq, Int.reduceBNe, Int.reduceNegSucc, Try.results97]; done) | (simp only [go_sem, reduceCtorEq, Nat.reduceAdd, Nat.reduceSub, Nat.reduceMul, Nat.reduceLT, Nat.reduceLeDiff, Int.reduceLT, Int.reduceLE, Int.reduceEq, Int.reduceNe, Int.reduceAdd, Int.reduceSub, Int.reduceMul, Int.reduceToNat, Int.reduceNeg, Int.reducePow, Nat.reducePow, Nat.reduceEqDiff, Nat.reduceBEq, Int.reduceBEq, Int.reduceBNe, Int.reduceNegSucc, Try.results97]; rfl) | rfl)
    have he3 := Decidable.not_not.1 he3
    subst he3
    by_cases hr3 : zagF u3 < -pz ∨ 4611686018427387903 - pz < zagF u3
    · have e : ctakeF ⟨px, py, pz⟩ b = (⟨0, 0, 0⟩, 0, 3) := by unfold ctakeF ct1; simp [hp, ht1, ht2, ht3, hr1, hr2, hr3]
      rw [e]
      refine Sp.of_bodyD Try.func97 rfl ?_
      intro Q hQ
      simp only [List.replicate, List.length_cons, List.length_nil, Try.ntmps97, Nat.reduceAdd, Nat.reduceSub, List.cons_append, List.nil_append, go_sem]
      iterate 4
        all_goals try refine loopV ?_
        have hz : True := trivial
        have hy := yieldedV_eq
        have hL := And.intro @q0 (And.intro @q1 (And.intro @q2 (And.intro @q3 (And.intro @q4 (And.intro @q5 (And.intro @q6 (And.intro @q7 (And.intro @q8 (And.intro @q9 (And.intro @s1 (And.intro @s2 (And.intro @s3 (And.intro @g1 (And.intro @g2 (And.intro @z0 (And.intro @w1 (And.intro @w2 (@g0))))))))))))))))))
        repeat' (first | (refine WPV.seqK ?_; intro N hN) | refine WPV.block ?_ | refine WPV.scope ?_ | refine WPV.skip ?_ | refine WPV.label ?_ | refine WPV.exit ?_ | refine WPV.ret ?_ | (refine WPV.regionG (M := noM) ?_; intro N hN ops hy; (try simp only [List.append] at hy ⊢); (try simp only [List.map_cons, List.map_nil] at hy)) | (refine WPV.drawK (M := noM) (by kernel_rfl) (by kernel_rfl) ?_; intro N hN; have hy := yieldedV_eq) | (refine WPV.condK ?_; intro A hA B hB) | (refine here ?_; refine sM ?_) | (refine And.intro (by kernel_rfl : okOrd _ _ = true) ?_) | refine Both.mk ?_ ?_ | ((with_reducible refine CallO.gd 92 ?_); refine CallO.toA Try.call92 (c1 _) ?_) | ((with_reducible refine CallO.gd 110 ?_); first | refine CallO.toA Try.call110 (t1 _) ?_ | refine CallO.toA Try.call110 (t2 _) ?_ | refine CallO.toA Try.call110 (t3 _) ?_) | ((with_reducible refine CallP.gd 92 ?_); refine CallP.toA Try.call92 (c1 _) ?_) | ((with_reducible refine CallP.gd 110 ?_); first | refine CallP.toA Try.call110 (t1 _) ?_ | refine CallP.toA Try.call110 (t2 _) ?_ | refine CallP.toA Try.call110 (t3 _) ?_) | (refine hN _ ?_; try clear hN N; try clear hy ops) | (refine hA ?_; clear hA A hB B; try simp only [hz]) | (refine hB ?_; clear hA A hB B; try simp only [hz]) | ((first | refine guardO.mk ?_ ?_ | refine guardD.mk ?_ ?_ | refine Br.mk ?_ ?_) <;> (intro hz; have h := nm hz; try (exfalso; omega)) <;> (have hz := nz hz)) | ((first | rw [if_pos (show _ ∧ _ from ⟨by omega, by omega⟩)] | rw [if_pos (show _ ∧ _ from by simp only [List.length_append, List.length_cons, List.length_nil]; exact ⟨by omega, by omega⟩)]); refine sM ?_) | (simp only [thenV, blockV, if_true, if_false, Nat.reduceEqDiff, reduceCtorEq, imp_self]) | (clear hN N))
      all_goals (apply And.right; refine hQ _ _ _ Desc.refl ?_ Wk.refl)
      all_goals (first | (simp only [go_sem, reduceCtorEq, Nat.reduceAdd, Nat.reduceSub, Nat.reduceMul, Nat.reduceLT, Nat.reduceLeDiff, Int.reduceLT, Int.reduceLE, Int.reduceEq, Int.reduceNe, Int.reduceAdd, Int.reduceSub, Int.reduceMul, Int.reduceToNat, Int.reduceNeg, Int.reducePow, Nat.reducePow, Nat.reduceEqDiff, Nat.reduceBEq, Int.reduceBEq, Int.reduceBNe, Int.reduceNegSucc, Try.results97]; done) | (simp only [go_sem, reduceCtorEq, Nat.reduceAdd, Nat.reduceSub, Nat.reduceMul, Nat.reduceLT, Nat.reduceLeDiff, Int.reduceLT, Int.reduceLE, Int.reduceEq, Int.reduceNe, Int.reduceAdd, Int.reduceSub, Int.reduceMul, Int.reduceToNat, Int.reduceNeg, Int.reducePow, Nat.reducePow, Nat.reduceEqDiff, Nat.reduceBEq, Int.reduceBEq, Int.reduceBNe, Int.reduceNegSucc, Try.results97]; rfl) | rfl)
    clear q9
    have q9 : IntKind.i64.wrap (pz + zagF u3) = pz + zagF u3 := wr_i64 (by omega) (by omega)
    clear g2
    have g2 : IntKind.i64.wrap (((n1 + n2 : Nat) : Int) + (n3 : Int)) = ((n1 + n2 + n3 : Nat) : Int) := by rw [wr_i64 (by omega) (by omega)]; rfl
    have e : ctakeF ⟨px, py, pz⟩ b = (⟨px + zagF u1, py + zagF u2, pz + zagF u3⟩, n1 + n2 + n3, 0) := by unfold ctakeF ct1; simp [hp, ht1, ht2, ht3, hr1, hr2, hr3]
    rw [e]
    refine Sp.of_bodyD Try.func97 rfl ?_
    intro Q hQ
    simp only [List.replicate, List.length_cons, List.length_nil, Try.ntmps97, Nat.reduceAdd, Nat.reduceSub, List.cons_append, List.nil_append, go_sem]
    iterate 5
      all_goals try refine loopV ?_
      have hz : True := trivial
      have hy := yieldedV_eq
      have hL := And.intro @q0 (And.intro @q1 (And.intro @q2 (And.intro @q3 (And.intro @q4 (And.intro @q5 (And.intro @q6 (And.intro @q7 (And.intro @q8 (And.intro @q9 (And.intro @s1 (And.intro @s2 (And.intro @s3 (And.intro @g1 (And.intro @g2 (And.intro @z0 (And.intro @w1 (And.intro @w2 (@g0))))))))))))))))))
      repeat' (first | (refine WPV.seqK ?_; intro N hN) | refine WPV.block ?_ | refine WPV.scope ?_ | refine WPV.skip ?_ | refine WPV.label ?_ | refine WPV.exit ?_ | refine WPV.ret ?_ | (refine WPV.regionG (M := noM) ?_; intro N hN ops hy; (try simp only [List.append] at hy ⊢); (try simp only [List.map_cons, List.map_nil] at hy)) | (refine WPV.drawK (M := noM) (by kernel_rfl) (by kernel_rfl) ?_; intro N hN; have hy := yieldedV_eq) | (refine WPV.condK ?_; intro A hA B hB) | (refine here ?_; refine sM ?_) | (refine And.intro (by kernel_rfl : okOrd _ _ = true) ?_) | refine Both.mk ?_ ?_ | ((with_reducible refine CallO.gd 92 ?_); refine CallO.toA Try.call92 (c1 _) ?_) | ((with_reducible refine CallO.gd 110 ?_); first | refine CallO.toA Try.call110 (t1 _) ?_ | refine CallO.toA Try.call110 (t2 _) ?_ | refine CallO.toA Try.call110 (t3 _) ?_) | ((with_reducible refine CallP.gd 92 ?_); refine CallP.toA Try.call92 (c1 _) ?_) | ((with_reducible refine CallP.gd 110 ?_); first | refine CallP.toA Try.call110 (t1 _) ?_ | refine CallP.toA Try.call110 (t2 _) ?_ | refine CallP.toA Try.call110 (t3 _) ?_) | (refine hN _ ?_; try clear hN N; try clear hy ops) | (refine hA ?_; clear hA A hB B; try simp only [hz]) | (refine hB ?_; clear hA A hB B; try simp only [hz]) | ((first | refine guardO.mk ?_ ?_ | refine guardD.mk ?_ ?_ | refine Br.mk ?_ ?_) <;> (intro hz; have h := nm hz; try (exfalso; omega)) <;> (have hz := nz hz)) | ((first | rw [if_pos (show _ ∧ _ from ⟨by omega, by omega⟩)] | rw [if_pos (show _ ∧ _ from by simp only [List.length_append, List.length_cons, List.length_nil]; exact ⟨by omega, by omega⟩)]); refine sM ?_) | (simp only [thenV, blockV, if_true, if_false, Nat.reduceEqDiff, reduceCtorEq, imp_self]) | (clear hN N))
    all_goals (apply And.right; refine hQ _ _ _ Desc.refl ?_ Wk.refl)
    all_goals (first | (simp only [go_sem, reduceCtorEq, Nat.reduceAdd, Nat.reduceSub, Nat.reduceMul, Nat.reduceLT, Nat.reduceLeDiff, Int.reduceLT, Int.reduceLE, Int.reduceEq, Int.reduceNe, Int.reduceAdd, Int.reduceSub, Int.reduceMul, Int.reduceToNat, Int.reduceNeg, Int.reducePow, Nat.reducePow, Nat.reduceEqDiff, Nat.reduceBEq, Int.reduceBEq, Int.reduceBNe, Int.reduceNegSucc, Try.results97]; done) | (simp only [go_sem, reduceCtorEq, Nat.reduceAdd, Nat.reduceSub, Nat.reduceMul, Nat.reduceLT, Nat.reduceLeDiff, Int.reduceLT, Int.reduceLE, Int.reduceEq, Int.reduceNe, Int.reduceAdd, Int.reduceSub, Int.reduceMul, Int.reduceToNat, Int.reduceNeg, Int.reducePow, Nat.reducePow, Nat.reduceEqDiff, Nat.reduceBEq, Int.reduceBEq, Int.reduceBNe, Int.reduceNegSucc, Try.results97]; rfl) | rfl)
end
end Go.Proofs.Ytonllhjmoenckaa
