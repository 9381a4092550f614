/- Walks: DictFew. -/
import Derived.Test.YtonllhjmoenckaaDictB
import Derived.Test.YtonllhjmoenckaaDictZ
namespace Go.Proofs.Ytonllhjmoenckaa
open Go Go.RowKit
set_option linter.unusedVariables false
set_option linter.unusedSimpArgs false
variable {K : Nat → Obj → Prop}

set_option maxRecDepth 100000 in
set_option maxHeartbeats 4000000 in
theorem dictfew_s (l : List Dact) (hl : l.length ≤ 9223372036854775807) : Sp Try.prog K 9 [.sl 3 (dacts l)] [] fun u hh => u = .sc (.bool true) ∧ hh = [] := by
  by_cases hg : dlarge l = true
  · skip
    refine Sp.of_bodyD Try.func9 rfl ?_
    intro Q hQ
    simp only [List.replicate, List.length_cons, List.length_nil, Try.ntmps9, Nat.reduceAdd, Nat.reduceSub, List.cons_append, List.nil_append, go_sem]
    have hz : True := trivial
    have hy := yieldedV_eq
    repeat' (first
        | (refine WPV.seqK ?_; intro N hN)
        | refine WPV.block ?_
        | refine WPV.scope ?_
        | refine WPV.skip ?_
        | refine WPV.label ?_
        | refine WPV.exit ?_
        | refine WPV.ret ?_
        | (refine WPV.regionG (M := noM) ?_; intro N hN ops hy; (try simp only [List.append] at hy ⊢); (try simp only [List.map_cons, List.map_nil] at hy))
        | (refine WPV.drawK (M := noM) (by kernel_rfl) (by kernel_rfl) ?_; intro N hN; have hy := yieldedV_eq)
        | (refine WPV.condK ?_; intro A hA B hB)
        | ((with_reducible first | refine opsV.here ?_ | refine guardO.here ?_ | refine resO.here ?_ | refine drawV.here ?_ | refine guardD.here ?_ | refine stepO.here ?_ | refine brO.here ?_ | refine condV.here ?_); simp (config := {contextual := true, maxSteps := 1000000}) only [hy, hz, go_sem, reduceCtorEq, Nat.reduceAdd, Nat.reduceSub, Nat.reduceMul, Nat.reduceLT, Nat.reduceLeDiff, Int.reduceLT, Int.reduceLE, Int.reduceEq, Int.reduceNe, Int.reduceAdd, Int.reduceSub, Int.reduceMul, Int.reduceToNat, Int.reduceNeg, Int.reducePow, Nat.reducePow, Nat.reduceEqDiff, Nat.reduceBEq, Int.reduceBEq, Int.reduceBNe, Int.reduceNegSucc, hg])
        | (refine And.intro (by kernel_rfl : okOrd _ _ = true) ?_)
        | refine Both.mk ?_ ?_
        | ((with_reducible refine CallO.gd 32 ?_); refine CallO.frA [] Try.call32 (awake05_s) ?_)
        | ((with_reducible refine CallO.gd 33 ?_); refine CallO.frA [] Try.call33 (large_s l hl) ?_)
        | ((with_reducible refine CallO.gd 34 ?_); refine CallO.frA [] Try.call34 (dnew_s) ?_)
        | (first | refine hN _ ?_ | (clear hN N; refine hN _ ?_) | (iterate 2 clear hN N); refine hN _ ?_ | (iterate 3 clear hN N); refine hN _ ?_ | (iterate 4 clear hN N); refine hN _ ?_ | (iterate 5 clear hN N); refine hN _ ?_); try clear hN N; try clear hy ops
        | (refine hA ?_; clear hA A hB B; try simp only [hz])
        | (refine hB ?_; clear hA A hB B; try simp only [hz])
        | ((first | refine guardO.mk (fun hz => ?_) (fun hz => ?_) | refine guardD.mk (fun hz => ?_) (fun hz => ?_) | refine Br.mk (fun hz => ?_) (fun hz => ?_)) <;> (have h := hz; try simp only [decide_eq_true_eq, decide_eq_false_iff_not, Int.not_lt, Int.not_le, beq_iff_eq, beq_eq_false_iff_ne, bne_iff_ne, bne_eq_false_iff_eq, ne_eq, Bool.not_eq_true', Bool.not_eq_false', Decidable.not_not] at h) <;> (try (exfalso; omega)) <;> (try simp only [Bool.not_eq_true', Bool.not_eq_false', beq_true, beq_false] at hz))
        | ((first | rw [if_pos (show _ ∧ _ from ⟨by omega, by omega⟩)] | rw [if_pos (show _ ∧ _ from by simp only [List.length_append, List.length_cons, List.length_nil]; exact ⟨by omega, by omega⟩)]); simp (config := {contextual := true, maxSteps := 1000000}) only [hy, hz, go_sem, reduceCtorEq, Nat.reduceAdd, Nat.reduceSub, Nat.reduceMul, Nat.reduceLT, Nat.reduceLeDiff, Int.reduceLT, Int.reduceLE, Int.reduceEq, Int.reduceNe, Int.reduceAdd, Int.reduceSub, Int.reduceMul, Int.reduceToNat, Int.reduceNeg, Int.reducePow, Nat.reducePow, Nat.reduceEqDiff, Nat.reduceBEq, Int.reduceBEq, Int.reduceBNe, Int.reduceNegSucc, hg])
        | (simp only [thenV, blockV, if_true, if_false, Nat.reduceEqDiff, reduceCtorEq, imp_self]))
    all_goals (first | exact retA hQ Try.results9 (Desc.re [] rfl) | exact retN hQ Try.results9 (Desc.re [] rfl))
  · have hg : dlarge l = false := by simpa using hg
    refine Sp.of_bodyD Try.func9 rfl ?_
    intro Q hQ
    simp only [List.replicate, List.length_cons, List.length_nil, Try.ntmps9, Nat.reduceAdd, Nat.reduceSub, List.cons_append, List.nil_append, go_sem]
    have hz : True := trivial
    have hy := yieldedV_eq
    repeat' (first
        | (refine WPV.seqK ?_; intro N hN)
        | refine WPV.block ?_
        | refine WPV.scope ?_
        | refine WPV.skip ?_
        | refine WPV.label ?_
        | refine WPV.exit ?_
        | refine WPV.ret ?_
        | (refine WPV.regionG (M := noM) ?_; intro N hN ops hy; (try simp only [List.append] at hy ⊢); (try simp only [List.map_cons, List.map_nil] at hy))
        | (refine WPV.drawK (M := noM) (by kernel_rfl) (by kernel_rfl) ?_; intro N hN; have hy := yieldedV_eq)
        | (refine WPV.condK ?_; intro A hA B hB)
        | ((with_reducible first | refine opsV.here ?_ | refine guardO.here ?_ | refine resO.here ?_ | refine drawV.here ?_ | refine guardD.here ?_ | refine stepO.here ?_ | refine brO.here ?_ | refine condV.here ?_); simp (config := {contextual := true, maxSteps := 1000000}) only [hy, hz, go_sem, reduceCtorEq, Nat.reduceAdd, Nat.reduceSub, Nat.reduceMul, Nat.reduceLT, Nat.reduceLeDiff, Int.reduceLT, Int.reduceLE, Int.reduceEq, Int.reduceNe, Int.reduceAdd, Int.reduceSub, Int.reduceMul, Int.reduceToNat, Int.reduceNeg, Int.reducePow, Nat.reducePow, Nat.reduceEqDiff, Nat.reduceBEq, Int.reduceBEq, Int.reduceBNe, Int.reduceNegSucc, hg])
        | (refine And.intro (by kernel_rfl : okOrd _ _ = true) ?_)
        | refine Both.mk ?_ ?_
        | ((with_reducible refine CallO.gd 32 ?_); refine CallO.frA [] Try.call32 (awake05_s) ?_)
        | ((with_reducible refine CallO.gd 33 ?_); refine CallO.frA [] Try.call33 (large_s l hl) ?_)
        | ((with_reducible refine CallO.gd 34 ?_); refine CallO.frA [] Try.call34 (dnew_s) ?_)
        | (first | refine hN _ ?_ | (clear hN N; refine hN _ ?_) | (iterate 2 clear hN N); refine hN _ ?_ | (iterate 3 clear hN N); refine hN _ ?_ | (iterate 4 clear hN N); refine hN _ ?_ | (iterate 5 clear hN N); refine hN _ ?_); try clear hN N; try clear hy ops
        | (refine hA ?_; clear hA A hB B; try simp only [hz])
        | (refine hB ?_; clear hA A hB B; try simp only [hz])
        | ((first | refine guardO.mk (fun hz => ?_) (fun hz => ?_) | refine guardD.mk (fun hz => ?_) (fun hz => ?_) | refine Br.mk (fun hz => ?_) (fun hz => ?_)) <;> (have h := hz; try simp only [decide_eq_true_eq, decide_eq_false_iff_not, Int.not_lt, Int.not_le, beq_iff_eq, beq_eq_false_iff_ne, bne_iff_ne, bne_eq_false_iff_eq, ne_eq, Bool.not_eq_true', Bool.not_eq_false', Decidable.not_not] at h) <;> (try (exfalso; omega)) <;> (try simp only [Bool.not_eq_true', Bool.not_eq_false', beq_true, beq_false] at hz))
        | ((first | rw [if_pos (show _ ∧ _ from ⟨by omega, by omega⟩)] | rw [if_pos (show _ ∧ _ from by simp only [List.length_append, List.length_cons, List.length_nil]; exact ⟨by omega, by omega⟩)]); simp (config := {contextual := true, maxSteps := 1000000}) only [hy, hz, go_sem, reduceCtorEq, Nat.reduceAdd, Nat.reduceSub, Nat.reduceMul, Nat.reduceLT, Nat.reduceLeDiff, Int.reduceLT, Int.reduceLE, Int.reduceEq, Int.reduceNe, Int.reduceAdd, Int.reduceSub, Int.reduceMul, Int.reduceToNat, Int.reduceNeg, Int.reducePow, Nat.reducePow, Nat.reduceEqDiff, Nat.reduceBEq, Int.reduceBEq, Int.reduceBNe, Int.reduceNegSucc, hg])
        | (simp only [thenV, blockV, if_true, if_false, Nat.reduceEqDiff, reduceCtorEq, imp_self]))
    refine WPV.desc (Desc.weakA (tm' := [.sl 3 (dacts l), .any, .sc (.bool false), .ptr 0 0, .any, .any, .any, .any, .any, .any, .any, .any, .any, .any, .any, .any, .any, .any, .any, .any, .any, .any, .any, .sl 3 (dacts l), .sc (.int .i64 (l.length : Int)), .sc (.int .i64 (((0 : Nat) : Int))), .any, .any, .any, .any, .any, .any, .any, .any, .any, .any, .any, .any, .any, .any, .any, .any, .any, .any, .any, .any, .any, .any, .any, .any, .any, .any, .any, .any, .any, .any, .any, .any, .any, .any, .any, .any, .any, .any, .any, .any, .any, .any, .any, .any, .any, .any, .any, .any, .any, .any, .any, .any, .any, .any, .any, .any, .any, .any, .any, .any, .any, .any, .any, .any, .any, .any, .any, .any]) (h' := Di.new.inn) (by (repeat (first | exact Wk.nil | apply Wk.same | apply Wk.own | apply Wk.full | apply Wk.null | apply Wk.any))) (by simp only [go_sem]; (repeat (first | exact WkH.nil | apply WkH.same | (refine WkH.cells ?_ ?_; focus (repeat (first | exact Wk.nil | apply Wk.same | apply Wk.own | apply Wk.full | apply Wk.null | apply Wk.any))))))) ?_
    refine WPV.loopA (α := Nat × Di) (fun s => l.length - s.1) (fun s => ⟨[.sl 3 (dacts l), .any, .sc (.bool false), .ptr 0 0, .any, .any, .any, .any, .any, .any, .any, .any, .any, .any, .any, .any, .any, .any, .any, .any, .any, .any, .any, .sl 3 (dacts l), .sc (.int .i64 (l.length : Int)), .sc (.int .i64 ((s.1 : Nat) : Int)), .any, .any, .any, .any, .any, .any, .any, .any, .any, .any, .any, .any, .any, .any, .any, .any, .any, .any, .any, .any, .any, .any, .any, .any, .any, .any, .any, .any, .any, .any, .any, .any, .any, .any, .any, .any, .any, .any, .any, .any, .any, .any, .any, .any, .any, .any, .any, .any, .any, .any, .any, .any, .any, .any, .any, .any, .any, .any, .any, .any, .any, .any, .any, .any, .any, .any, .any, .any], s.2.inn⟩) (fun s => s.1 ≤ l.length ∧ s.2.Ok) (fun s hJ H => ?_) (0, Di.new) ⟨Nat.zero_le _, .nw⟩
    obtain ⟨k, d⟩ := s
    obtain ⟨hk0, ok⟩ := hJ
    dsimp only at hk0 ok H ⊢
    by_cases h : k < l.length
    · have hlt : ((k : Int) < (l.length : Int)) = True := by simp; omega
      have hget : l[k]? = some l[k] := List.getElem?_eq_getElem h
      have hw : IntKind.i64.wrap ((k : Int) + 1) = ((k + 1 : Nat) : Int) := by rw [wr_i64 (by omega) (by omega)]; rfl
      have hbig : l[k].big = false := by
        have h2 : l.any Dact.big = false := by unfold dlarge at hg; simp at hg; simpa using hg.2
        have := List.any_eq_false.1 h2 l[k] (List.getElem_mem h)
        simpa using this
      generalize l[k] = a at hget hbig
      have hab : a.b.length ≤ 200 := by simp [Dact.big] at hbig; omega
      -- the round behind the act: the same for all acts
      have T : ∀ (d' : Di), d'.Ok → ∀ i : Nat, i ≤ d'.ks.length → ((i < d'.ks.length → ∃ key, d'.ks[i]? = some key ∧ d'.at_ key = i ∧ key.size ≤ 64)) := fun d' o i hi h2 => by
        refine ⟨d'.ks[i], List.getElem?_eq_getElem h2, o.at_get (List.getElem?_eq_getElem h2), o.sz _ (List.getElem_mem h2)⟩
      have H' := fun d' o => H (k + 1, d') ⟨by dsimp only; omega, o⟩ (by dsimp only; omega)
      clear H
      dsimp only at H'
      by_cases h0 : a.o = 0
      · skip
        have ho0 : (a.o == 0) = true := by simpa using h0
        have ho1 : (a.o == 1) = false := by simp; omega
        have ho2 : (a.o == 2) = false := by simp; omega
        obtain ⟨x, d', hd⟩ : ∃ x d', d.put a.k = (x, d') := ⟨_, _, rfl⟩
        have ok' := ok.pe hd
        have hkn : x.2 = 0 → 0 ≤ d'.at_ a.k := fun e => by have := d.put_known a.k; rw [hd] at this; exact this e
        have h8 : ((8 : Int) < (d'.ks.length : Int)) = False := by have := ok'.len; simp; omega
        refine loopV ?_
        have hz : True := trivial
        have hy := yieldedV_eq
        repeat' (first
            | (refine WPV.seqK ?_; intro N hN)
            | refine WPV.block ?_
            | refine WPV.scope ?_
            | refine WPV.skip ?_
            | refine WPV.label ?_
            | refine WPV.exit ?_
            | refine WPV.ret ?_
            | (refine WPV.regionG (M := noM) ?_; intro N hN ops hy; (try simp only [List.append] at hy ⊢); (try simp only [List.map_cons, List.map_nil] at hy))
            | (refine WPV.drawK (M := noM) (by kernel_rfl) (by kernel_rfl) ?_; intro N hN; have hy := yieldedV_eq)
            | (refine WPV.condK ?_; intro A hA B hB)
            | ((with_reducible first | refine opsV.here ?_ | refine guardO.here ?_ | refine resO.here ?_ | refine drawV.here ?_ | refine guardD.here ?_ | refine stepO.here ?_ | refine brO.here ?_ | refine condV.here ?_); simp (config := {contextual := true, maxSteps := 1000000}) only [hy, hz, go_sem, reduceCtorEq, Nat.reduceAdd, Nat.reduceSub, Nat.reduceMul, Nat.reduceLT, Nat.reduceLeDiff, Int.reduceLT, Int.reduceLE, Int.reduceEq, Int.reduceNe, Int.reduceAdd, Int.reduceSub, Int.reduceMul, Int.reduceToNat, Int.reduceNeg, Int.reducePow, Nat.reducePow, Nat.reduceEqDiff, Nat.reduceBEq, Int.reduceBEq, Int.reduceBNe, Int.reduceNegSucc, hlt, hget, hw, ho0, ho1, ho2, h8])
            | (refine And.intro (by kernel_rfl : okOrd _ _ = true) ?_)
            | refine Both.mk ?_ ?_
            | ((with_reducible refine CallO.gd 35 ?_); refine CallO.frA [0, 1, 2] Try.call35 (dput_e hd ok) ?_)
            | ((with_reducible refine CallO.gd 42 ?_); refine CallO.frA [0, 4, 5] Try.call42 (dkeys_s d' ok'.len) ?_)
            | ((with_reducible refine CallO.gd 43 ?_); refine CallO.frA [0, 4, 5] Try.call43 (dat_s d' a.k) ?_)
            | (first | refine hN _ ?_ | (clear hN N; refine hN _ ?_) | (iterate 2 clear hN N); refine hN _ ?_ | (iterate 3 clear hN N); refine hN _ ?_ | (iterate 4 clear hN N); refine hN _ ?_ | (iterate 5 clear hN N); refine hN _ ?_); try clear hN N; try clear hy ops
            | (refine hA ?_; clear hA A hB B; try simp only [hz])
            | (refine hB ?_; clear hA A hB B; try simp only [hz])
            | ((first | refine guardO.mk (fun hz => ?_) (fun hz => ?_) | refine guardD.mk (fun hz => ?_) (fun hz => ?_) | refine Br.mk (fun hz => ?_) (fun hz => ?_)) <;> (have h := hz; try simp only [decide_eq_true_eq, decide_eq_false_iff_not, Int.not_lt, Int.not_le, beq_iff_eq, beq_eq_false_iff_ne, bne_iff_ne, bne_eq_false_iff_eq, ne_eq, Bool.not_eq_true', Bool.not_eq_false', Decidable.not_not] at h) <;> (try (exfalso; omega)) <;> (try simp only [Bool.not_eq_true', Bool.not_eq_false', beq_true, beq_false] at hz))
            | ((first | rw [if_pos (show _ ∧ _ from ⟨by omega, by omega⟩)] | rw [if_pos (show _ ∧ _ from by simp only [List.length_append, List.length_cons, List.length_nil]; exact ⟨by omega, by omega⟩)]); simp (config := {contextual := true, maxSteps := 1000000}) only [hy, hz, go_sem, reduceCtorEq, Nat.reduceAdd, Nat.reduceSub, Nat.reduceMul, Nat.reduceLT, Nat.reduceLeDiff, Int.reduceLT, Int.reduceLE, Int.reduceEq, Int.reduceNe, Int.reduceAdd, Int.reduceSub, Int.reduceMul, Int.reduceToNat, Int.reduceNeg, Int.reducePow, Nat.reducePow, Nat.reduceEqDiff, Nat.reduceBEq, Int.reduceBEq, Int.reduceBNe, Int.reduceNegSucc, hlt, hget, hw, ho0, ho1, ho2, h8])
            | (simp only [thenV, blockV, if_true, if_false, Nat.reduceEqDiff, reduceCtorEq, imp_self]))
        all_goals
          refine WPV.desc ((Desc.re [some 0, some 4, some 5] rfl).trans (Desc.weakA (tm' := [.sl 3 (dacts l), .any, .sc (.bool false), .ptr 0 0, .any, .any, .any, .any, .any, .any, .any, .any, .any, .any, .any, .any, .any, .any, .any, .any, .any, .any, .any, .sl 3 (dacts l), .sc (.int .i64 (l.length : Int)), .sc (.int .i64 (k : Int)), .any, .any, .any, .any, .any, .any, .any, .any, .any, .any, .any, .any, .any, .any, .any, .any, .any, .any, .any, .any, .any, .any, .any, .any, .any, .any, .any, .any, .any, .any, .any, .any, .any, .any, .any, .any, .any, .any, .any, .any, .any, .any, .any, .any, .any, .any, .any, .any, .any, .sl 1 (ds d'.ks), .sc (.int .i64 (d'.ks.length : Int)), .sc (.int .i64 ((0 : Nat) : Int)), .any, .any, .any, .any, .any, .any, .any, .any, .any, .any, .any, .any, .any, .any, .any, .any]) (h' := d'.inn) )) ?_
          refine WPV.loopA (α := Nat) (fun i => d'.ks.length - i) (fun i => ⟨[.sl 3 (dacts l), .any, .sc (.bool false), .ptr 0 0, .any, .any, .any, .any, .any, .any, .any, .any, .any, .any, .any, .any, .any, .any, .any, .any, .any, .any, .any, .sl 3 (dacts l), .sc (.int .i64 (l.length : Int)), .sc (.int .i64 (k : Int)), .any, .any, .any, .any, .any, .any, .any, .any, .any, .any, .any, .any, .any, .any, .any, .any, .any, .any, .any, .any, .any, .any, .any, .any, .any, .any, .any, .any, .any, .any, .any, .any, .any, .any, .any, .any, .any, .any, .any, .any, .any, .any, .any, .any, .any, .any, .any, .any, .any, .sl 1 (ds d'.ks), .sc (.int .i64 (d'.ks.length : Int)), .sc (.int .i64 ((i : Nat) : Int)), .any, .any, .any, .any, .any, .any, .any, .any, .any, .any, .any, .any, .any, .any, .any, .any], d'.inn⟩) (fun i => i ≤ d'.ks.length) (fun i hi HI => ?_) 0 (Nat.zero_le _)
          dsimp only at hi HI ⊢
          by_cases hi2 : i < d'.ks.length
          · obtain ⟨key, hg2, hat2, hsz⟩ := T d' ok' i hi hi2
            have hlt2 : ((i : Int) < (d'.ks.length : Int)) = True := by simp; omega
            have hw2 : IntKind.i64.wrap ((i : Int) + 1) = ((i + 1 : Nat) : Int) := by rw [wr_i64 (by omega) (by have := ok'.len; omega)]; rfl
            have hne : ((i : Int) != (i : Int)) = false := by simp
            have hsz2 : ((64 : Int) < (key.size : Int)) = False := by simp; omega
            have HI' := HI (i + 1) (by omega) (by omega)
            clear HI H'
            refine loopV ?_
            have hz : True := trivial
            have hy := yieldedV_eq
            repeat' (first
                | (refine WPV.seqK ?_; intro N hN)
                | refine WPV.block ?_
                | refine WPV.scope ?_
                | refine WPV.skip ?_
                | refine WPV.label ?_
                | refine WPV.exit ?_
                | refine WPV.ret ?_
                | (refine WPV.regionG (M := noM) ?_; intro N hN ops hy; (try simp only [List.append] at hy ⊢); (try simp only [List.map_cons, List.map_nil] at hy))
                | (refine WPV.drawK (M := noM) (by kernel_rfl) (by kernel_rfl) ?_; intro N hN; have hy := yieldedV_eq)
                | (refine WPV.condK ?_; intro A hA B hB)
                | ((with_reducible first | refine opsV.here ?_ | refine guardO.here ?_ | refine resO.here ?_ | refine drawV.here ?_ | refine guardD.here ?_ | refine stepO.here ?_ | refine brO.here ?_ | refine condV.here ?_); simp (config := {contextual := true, maxSteps := 1000000}) only [hy, hz, go_sem, reduceCtorEq, Nat.reduceAdd, Nat.reduceSub, Nat.reduceMul, Nat.reduceLT, Nat.reduceLeDiff, Int.reduceLT, Int.reduceLE, Int.reduceEq, Int.reduceNe, Int.reduceAdd, Int.reduceSub, Int.reduceMul, Int.reduceToNat, Int.reduceNeg, Int.reducePow, Nat.reducePow, Nat.reduceEqDiff, Nat.reduceBEq, Int.reduceBEq, Int.reduceBNe, Int.reduceNegSucc, hlt2, hg2, hat2, hw2, hne, hsz2])
                | (refine And.intro (by kernel_rfl : okOrd _ _ = true) ?_)
                | refine Both.mk ?_ ?_
                | ((with_reducible refine CallO.gd 43 ?_); refine CallO.frA [0, 1, 2] Try.call43 (dat_s d' key) ?_)
                | (first | refine hN _ ?_ | (clear hN N; refine hN _ ?_) | (iterate 2 clear hN N); refine hN _ ?_ | (iterate 3 clear hN N); refine hN _ ?_ | (iterate 4 clear hN N); refine hN _ ?_ | (iterate 5 clear hN N); refine hN _ ?_); try clear hN N; try clear hy ops
                | (refine hA ?_; clear hA A hB B; try simp only [hz])
                | (refine hB ?_; clear hA A hB B; try simp only [hz])
                | ((first | refine guardO.mk (fun hz => ?_) (fun hz => ?_) | refine guardD.mk (fun hz => ?_) (fun hz => ?_) | refine Br.mk (fun hz => ?_) (fun hz => ?_)) <;> (have h := hz; try simp only [decide_eq_true_eq, decide_eq_false_iff_not, Int.not_lt, Int.not_le, beq_iff_eq, beq_eq_false_iff_ne, bne_iff_ne, bne_eq_false_iff_eq, ne_eq, Bool.not_eq_true', Bool.not_eq_false', Decidable.not_not] at h) <;> (try (exfalso; omega)) <;> (try simp only [Bool.not_eq_true', Bool.not_eq_false', beq_true, beq_false] at hz))
                | ((first | rw [if_pos (show _ ∧ _ from ⟨by omega, by omega⟩)] | rw [if_pos (show _ ∧ _ from by simp only [List.length_append, List.length_cons, List.length_nil]; exact ⟨by omega, by omega⟩)]); simp (config := {contextual := true, maxSteps := 1000000}) only [hy, hz, go_sem, reduceCtorEq, Nat.reduceAdd, Nat.reduceSub, Nat.reduceMul, Nat.reduceLT, Nat.reduceLeDiff, Int.reduceLT, Int.reduceLE, Int.reduceEq, Int.reduceNe, Int.reduceAdd, Int.reduceSub, Int.reduceMul, Int.reduceToNat, Int.reduceNeg, Int.reducePow, Nat.reducePow, Nat.reduceEqDiff, Nat.reduceBEq, Int.reduceBEq, Int.reduceBNe, Int.reduceNegSucc, hlt2, hg2, hat2, hw2, hne, hsz2])
                | (simp only [thenV, blockV, if_true, if_false, Nat.reduceEqDiff, reduceCtorEq, imp_self]))
            exact WPV.desc ((Desc.re [some 0, some 1, some 2] rfl).trans Desc.weakA) HI'
          · obtain rfl : i = d'.ks.length := by omega
            have hlt2 : ((d'.ks.length : Int) < (d'.ks.length : Int)) = False := by simp
            have H1 := H' d' ok'
            clear HI H'
            refine loopV ?_
            have hz : True := trivial
            have hy := yieldedV_eq
            repeat' (first
                | (refine WPV.seqK ?_; intro N hN)
                | refine WPV.block ?_
                | refine WPV.scope ?_
                | refine WPV.skip ?_
                | refine WPV.label ?_
                | refine WPV.exit ?_
                | refine WPV.ret ?_
                | (refine WPV.regionG (M := noM) ?_; intro N hN ops hy; (try simp only [List.append] at hy ⊢); (try simp only [List.map_cons, List.map_nil] at hy))
                | (refine WPV.drawK (M := noM) (by kernel_rfl) (by kernel_rfl) ?_; intro N hN; have hy := yieldedV_eq)
                | (refine WPV.condK ?_; intro A hA B hB)
                | ((with_reducible first | refine opsV.here ?_ | refine guardO.here ?_ | refine resO.here ?_ | refine drawV.here ?_ | refine guardD.here ?_ | refine stepO.here ?_ | refine brO.here ?_ | refine condV.here ?_); simp (config := {contextual := true, maxSteps := 1000000}) only [hy, hz, go_sem, reduceCtorEq, Nat.reduceAdd, Nat.reduceSub, Nat.reduceMul, Nat.reduceLT, Nat.reduceLeDiff, Int.reduceLT, Int.reduceLE, Int.reduceEq, Int.reduceNe, Int.reduceAdd, Int.reduceSub, Int.reduceMul, Int.reduceToNat, Int.reduceNeg, Int.reducePow, Nat.reducePow, Nat.reduceEqDiff, Nat.reduceBEq, Int.reduceBEq, Int.reduceBNe, Int.reduceNegSucc, hlt2, hw])
                | (refine And.intro (by kernel_rfl : okOrd _ _ = true) ?_)
                | refine Both.mk ?_ ?_
                | (first | refine hN _ ?_ | (clear hN N; refine hN _ ?_) | (iterate 2 clear hN N); refine hN _ ?_ | (iterate 3 clear hN N); refine hN _ ?_ | (iterate 4 clear hN N); refine hN _ ?_ | (iterate 5 clear hN N); refine hN _ ?_); try clear hN N; try clear hy ops
                | (refine hA ?_; clear hA A hB B; try simp only [hz])
                | (refine hB ?_; clear hA A hB B; try simp only [hz])
                | ((first | refine guardO.mk (fun hz => ?_) (fun hz => ?_) | refine guardD.mk (fun hz => ?_) (fun hz => ?_) | refine Br.mk (fun hz => ?_) (fun hz => ?_)) <;> (have h := hz; try simp only [decide_eq_true_eq, decide_eq_false_iff_not, Int.not_lt, Int.not_le, beq_iff_eq, beq_eq_false_iff_ne, bne_iff_ne, bne_eq_false_iff_eq, ne_eq, Bool.not_eq_true', Bool.not_eq_false', Decidable.not_not] at h) <;> (try (exfalso; omega)) <;> (try simp only [Bool.not_eq_true', Bool.not_eq_false', beq_true, beq_false] at hz))
                | ((first | rw [if_pos (show _ ∧ _ from ⟨by omega, by omega⟩)] | rw [if_pos (show _ ∧ _ from by simp only [List.length_append, List.length_cons, List.length_nil]; exact ⟨by omega, by omega⟩)]); simp (config := {contextual := true, maxSteps := 1000000}) only [hy, hz, go_sem, reduceCtorEq, Nat.reduceAdd, Nat.reduceSub, Nat.reduceMul, Nat.reduceLT, Nat.reduceLeDiff, Int.reduceLT, Int.reduceLE, Int.reduceEq, Int.reduceNe, Int.reduceAdd, Int.reduceSub, Int.reduceMul, Int.reduceToNat, Int.reduceNeg, Int.reducePow, Nat.reducePow, Nat.reduceEqDiff, Nat.reduceBEq, Int.reduceBEq, Int.reduceBNe, Int.reduceNegSucc, hlt2, hw])
                | (simp only [thenV, blockV, if_true, if_false, Nat.reduceEqDiff, reduceCtorEq, imp_self]))
            exact WPV.desc ((Desc.re [some 0, some 1, some 2] rfl).trans Desc.weakA) H1
      · by_cases h1 : a.o = 1
        · skip
          have ho0 : (a.o == 0) = false := by simp; omega
          have ho1 : (a.o == 1) = true := by simpa using h1
          have ho2 : (a.o == 2) = false := by simp; omega
          obtain ⟨x, d', hd⟩ : ∃ x d', d.take a.b = (x, d') := ⟨_, _, rfl⟩
          have ok' := ok.te hd
          have hkn : x.2.2 = 0 → 0 ≤ d'.at_ x.1 := fun e => by have := Di.take_known ok a.b; rw [hd] at this; exact this e
          have h8 : ((8 : Int) < (d'.ks.length : Int)) = False := by have := ok'.len; simp; omega
          refine loopV ?_
          have hz : True := trivial
          have hy := yieldedV_eq
          repeat' (first
              | (refine WPV.seqK ?_; intro N hN)
              | refine WPV.block ?_
              | refine WPV.scope ?_
              | refine WPV.skip ?_
              | refine WPV.label ?_
              | refine WPV.exit ?_
              | refine WPV.ret ?_
              | (refine WPV.regionG (M := noM) ?_; intro N hN ops hy; (try simp only [List.append] at hy ⊢); (try simp only [List.map_cons, List.map_nil] at hy))
              | (refine WPV.drawK (M := noM) (by kernel_rfl) (by kernel_rfl) ?_; intro N hN; have hy := yieldedV_eq)
              | (refine WPV.condK ?_; intro A hA B hB)
              | ((with_reducible first | refine opsV.here ?_ | refine guardO.here ?_ | refine resO.here ?_ | refine drawV.here ?_ | refine guardD.here ?_ | refine stepO.here ?_ | refine brO.here ?_ | refine condV.here ?_); simp (config := {contextual := true, maxSteps := 1000000}) only [hy, hz, go_sem, reduceCtorEq, Nat.reduceAdd, Nat.reduceSub, Nat.reduceMul, Nat.reduceLT, Nat.reduceLeDiff, Int.reduceLT, Int.reduceLE, Int.reduceEq, Int.reduceNe, Int.reduceAdd, Int.reduceSub, Int.reduceMul, Int.reduceToNat, Int.reduceNeg, Int.reducePow, Nat.reducePow, Nat.reduceEqDiff, Nat.reduceBEq, Int.reduceBEq, Int.reduceBNe, Int.reduceNegSucc, hlt, hget, hw, ho0, ho1, ho2, h8])
              | (refine And.intro (by kernel_rfl : okOrd _ _ = true) ?_)
              | refine Both.mk ?_ ?_
              | ((with_reducible refine CallO.gd 38 ?_); refine CallO.frA [0, 1, 2] Try.call38 (dtake_e hd ok (by omega)) ?_)
              | ((with_reducible refine CallO.gd 42 ?_); refine CallO.frA [0, 4, 5] Try.call42 (dkeys_s d' ok'.len) ?_)
              | ((with_reducible refine CallO.gd 43 ?_); refine CallO.frA [0, 4, 5] Try.call43 (dat_s d' x.1) ?_)
              | (first | refine hN _ ?_ | (clear hN N; refine hN _ ?_) | (iterate 2 clear hN N); refine hN _ ?_ | (iterate 3 clear hN N); refine hN _ ?_ | (iterate 4 clear hN N); refine hN _ ?_ | (iterate 5 clear hN N); refine hN _ ?_); try clear hN N; try clear hy ops
              | (refine hA ?_; clear hA A hB B; try simp only [hz])
              | (refine hB ?_; clear hA A hB B; try simp only [hz])
              | ((first | refine guardO.mk (fun hz => ?_) (fun hz => ?_) | refine guardD.mk (fun hz => ?_) (fun hz => ?_) | refine Br.mk (fun hz => ?_) (fun hz => ?_)) <;> (have h := hz; try simp only [decide_eq_true_eq, decide_eq_false_iff_not, Int.not_lt, Int.not_le, beq_iff_eq, beq_eq_false_iff_ne, bne_iff_ne, bne_eq_false_iff_eq, ne_eq, Bool.not_eq_true', Bool.not_eq_false', Decidable.not_not] at h) <;> (try (exfalso; omega)) <;> (try simp only [Bool.not_eq_true', Bool.not_eq_false', beq_true, beq_false] at hz))
              | ((first | rw [if_pos (show _ ∧ _ from ⟨by omega, by omega⟩)] | rw [if_pos (show _ ∧ _ from by simp only [List.length_append, List.length_cons, List.length_nil]; exact ⟨by omega, by omega⟩)]); simp (config := {contextual := true, maxSteps := 1000000}) only [hy, hz, go_sem, reduceCtorEq, Nat.reduceAdd, Nat.reduceSub, Nat.reduceMul, Nat.reduceLT, Nat.reduceLeDiff, Int.reduceLT, Int.reduceLE, Int.reduceEq, Int.reduceNe, Int.reduceAdd, Int.reduceSub, Int.reduceMul, Int.reduceToNat, Int.reduceNeg, Int.reducePow, Nat.reducePow, Nat.reduceEqDiff, Nat.reduceBEq, Int.reduceBEq, Int.reduceBNe, Int.reduceNegSucc, hlt, hget, hw, ho0, ho1, ho2, h8])
              | (simp only [thenV, blockV, if_true, if_false, Nat.reduceEqDiff, reduceCtorEq, imp_self]))
          all_goals
            refine WPV.desc ((Desc.re [some 0, some 4, some 5] rfl).trans (Desc.weakA (tm' := [.sl 3 (dacts l), .any, .sc (.bool false), .ptr 0 0, .any, .any, .any, .any, .any, .any, .any, .any, .any, .any, .any, .any, .any, .any, .any, .any, .any, .any, .any, .sl 3 (dacts l), .sc (.int .i64 (l.length : Int)), .sc (.int .i64 (k : Int)), .any, .any, .any, .any, .any, .any, .any, .any, .any, .any, .any, .any, .any, .any, .any, .any, .any, .any, .any, .any, .any, .any, .any, .any, .any, .any, .any, .any, .any, .any, .any, .any, .any, .any, .any, .any, .any, .any, .any, .any, .any, .any, .any, .any, .any, .any, .any, .any, .any, .sl 1 (ds d'.ks), .sc (.int .i64 (d'.ks.length : Int)), .sc (.int .i64 ((0 : Nat) : Int)), .any, .any, .any, .any, .any, .any, .any, .any, .any, .any, .any, .any, .any, .any, .any, .any]) (h' := d'.inn) )) ?_
            refine WPV.loopA (α := Nat) (fun i => d'.ks.length - i) (fun i => ⟨[.sl 3 (dacts l), .any, .sc (.bool false), .ptr 0 0, .any, .any, .any, .any, .any, .any, .any, .any, .any, .any, .any, .any, .any, .any, .any, .any, .any, .any, .any, .sl 3 (dacts l), .sc (.int .i64 (l.length : Int)), .sc (.int .i64 (k : Int)), .any, .any, .any, .any, .any, .any, .any, .any, .any, .any, .any, .any, .any, .any, .any, .any, .any, .any, .any, .any, .any, .any, .any, .any, .any, .any, .any, .any, .any, .any, .any, .any, .any, .any, .any, .any, .any, .any, .any, .any, .any, .any, .any, .any, .any, .any, .any, .any, .any, .sl 1 (ds d'.ks), .sc (.int .i64 (d'.ks.length : Int)), .sc (.int .i64 ((i : Nat) : Int)), .any, .any, .any, .any, .any, .any, .any, .any, .any, .any, .any, .any, .any, .any, .any, .any], d'.inn⟩) (fun i => i ≤ d'.ks.length) (fun i hi HI => ?_) 0 (Nat.zero_le _)
            dsimp only at hi HI ⊢
            by_cases hi2 : i < d'.ks.length
            · obtain ⟨key, hg2, hat2, hsz⟩ := T d' ok' i hi hi2
              have hlt2 : ((i : Int) < (d'.ks.length : Int)) = True := by simp; omega
              have hw2 : IntKind.i64.wrap ((i : Int) + 1) = ((i + 1 : Nat) : Int) := by rw [wr_i64 (by omega) (by have := ok'.len; omega)]; rfl
              have hne : ((i : Int) != (i : Int)) = false := by simp
              have hsz2 : ((64 : Int) < (key.size : Int)) = False := by simp; omega
              have HI' := HI (i + 1) (by omega) (by omega)
              clear HI H'
              refine loopV ?_
              have hz : True := trivial
              have hy := yieldedV_eq
              repeat' (first
                  | (refine WPV.seqK ?_; intro N hN)
                  | refine WPV.block ?_
                  | refine WPV.scope ?_
                  | refine WPV.skip ?_
                  | refine WPV.label ?_
                  | refine WPV.exit ?_
                  | refine WPV.ret ?_
                  | (refine WPV.regionG (M := noM) ?_; intro N hN ops hy; (try simp only [List.append] at hy ⊢); (try simp only [List.map_cons, List.map_nil] at hy))
                  | (refine WPV.drawK (M := noM) (by kernel_rfl) (by kernel_rfl) ?_; intro N hN; have hy := yieldedV_eq)
                  | (refine WPV.condK ?_; intro A hA B hB)
                  | ((with_reducible first | refine opsV.here ?_ | refine guardO.here ?_ | refine resO.here ?_ | refine drawV.here ?_ | refine guardD.here ?_ | refine stepO.here ?_ | refine brO.here ?_ | refine condV.here ?_); simp (config := {contextual := true, maxSteps := 1000000}) only [hy, hz, go_sem, reduceCtorEq, Nat.reduceAdd, Nat.reduceSub, Nat.reduceMul, Nat.reduceLT, Nat.reduceLeDiff, Int.reduceLT, Int.reduceLE, Int.reduceEq, Int.reduceNe, Int.reduceAdd, Int.reduceSub, Int.reduceMul, Int.reduceToNat, Int.reduceNeg, Int.reducePow, Nat.reducePow, Nat.reduceEqDiff, Nat.reduceBEq, Int.reduceBEq, Int.reduceBNe, Int.reduceNegSucc, hlt2, hg2, hat2, hw2, hne, hsz2])
                  | (refine And.intro (by kernel_rfl : okOrd _ _ = true) ?_)
                  | refine Both.mk ?_ ?_
                  | ((with_reducible refine CallO.gd 43 ?_); refine CallO.frA [0, 1, 2] Try.call43 (dat_s d' key) ?_)
                  | (first | refine hN _ ?_ | (clear hN N; refine hN _ ?_) | (iterate 2 clear hN N); refine hN _ ?_ | (iterate 3 clear hN N); refine hN _ ?_ | (iterate 4 clear hN N); refine hN _ ?_ | (iterate 5 clear hN N); refine hN _ ?_); try clear hN N; try clear hy ops
                  | (refine hA ?_; clear hA A hB B; try simp only [hz])
                  | (refine hB ?_; clear hA A hB B; try simp only [hz])
                  | ((first | refine guardO.mk (fun hz => ?_) (fun hz => ?_) | refine guardD.mk (fun hz => ?_) (fun hz => ?_) | refine Br.mk (fun hz => ?_) (fun hz => ?_)) <;> (have h := hz; try simp only [decide_eq_true_eq, decide_eq_false_iff_not, Int.not_lt, Int.not_le, beq_iff_eq, beq_eq_false_iff_ne, bne_iff_ne, bne_eq_false_iff_eq, ne_eq, Bool.not_eq_true', Bool.not_eq_false', Decidable.not_not] at h) <;> (try (exfalso; omega)) <;> (try simp only [Bool.not_eq_true', Bool.not_eq_false', beq_true, beq_false] at hz))
                  | ((first | rw [if_pos (show _ ∧ _ from ⟨by omega, by omega⟩)] | rw [if_pos (show _ ∧ _ from by simp only [List.length_append, List.length_cons, List.length_nil]; exact ⟨by omega, by omega⟩)]); simp (config := {contextual := true, maxSteps := 1000000}) only [hy, hz, go_sem, reduceCtorEq, Nat.reduceAdd, Nat.reduceSub, Nat.reduceMul, Nat.reduceLT, Nat.reduceLeDiff, Int.reduceLT, Int.reduceLE, Int.reduceEq, Int.reduceNe, Int.reduceAdd, Int.reduceSub, Int.reduceMul, Int.reduceToNat, Int.reduceNeg, Int.reducePow, Nat.reducePow, Nat.reduceEqDiff, Nat.reduceBEq, Int.reduceBEq, Int.reduceBNe, Int.reduceNegSucc, hlt2, hg2, hat2, hw2, hne, hsz2])
                  | (simp only [thenV, blockV, if_true, if_false, Nat.reduceEqDiff, reduceCtorEq, imp_self]))
              exact WPV.desc ((Desc.re [some 0, some 1, some 2] rfl).trans Desc.weakA) HI'
            · obtain rfl : i = d'.ks.length := by omega
              have hlt2 : ((d'.ks.length : Int) < (d'.ks.length : Int)) = False := by simp
              have H1 := H' d' ok'
              clear HI H'
              refine loopV ?_
              have hz : True := trivial
              have hy := yieldedV_eq
              repeat' (first
                  | (refine WPV.seqK ?_; intro N hN)
                  | refine WPV.block ?_
                  | refine WPV.scope ?_
                  | refine WPV.skip ?_
                  | refine WPV.label ?_
                  | refine WPV.exit ?_
                  | refine WPV.ret ?_
                  | (refine WPV.regionG (M := noM) ?_; intro N hN ops hy; (try simp only [List.append] at hy ⊢); (try simp only [List.map_cons, List.map_nil] at hy))
                  | (refine WPV.drawK (M := noM) (by kernel_rfl) (by kernel_rfl) ?_; intro N hN; have hy := yieldedV_eq)
                  | (refine WPV.condK ?_; intro A hA B hB)
                  | ((with_reducible first | refine opsV.here ?_ | refine guardO.here ?_ | refine resO.here ?_ | refine drawV.here ?_ | refine guardD.here ?_ | refine stepO.here ?_ | refine brO.here ?_ | refine condV.here ?_); simp (config := {contextual := true, maxSteps := 1000000}) only [hy, hz, go_sem, reduceCtorEq, Nat.reduceAdd, Nat.reduceSub, Nat.reduceMul, Nat.reduceLT, Nat.reduceLeDiff, Int.reduceLT, Int.reduceLE, Int.reduceEq, Int.reduceNe, Int.reduceAdd, Int.reduceSub, Int.reduceMul, Int.reduceToNat, Int.reduceNeg, Int.reducePow, Nat.reducePow, Nat.reduceEqDiff, Nat.reduceBEq, Int.reduceBEq, Int.reduceBNe, Int.reduceNegSucc, hlt2, hw])
                  | (refine And.intro (by kernel_rfl : okOrd _ _ = true) ?_)
                  | refine Both.mk ?_ ?_
                  | (first | refine hN _ ?_ | (clear hN N; refine hN _ ?_) | (iterate 2 clear hN N); refine hN _ ?_ | (iterate 3 clear hN N); refine hN _ ?_ | (iterate 4 clear hN N); refine hN _ ?_ | (iterate 5 clear hN N); refine hN _ ?_); try clear hN N; try clear hy ops
                  | (refine hA ?_; clear hA A hB B; try simp only [hz])
                  | (refine hB ?_; clear hA A hB B; try simp only [hz])
                  | ((first | refine guardO.mk (fun hz => ?_) (fun hz => ?_) | refine guardD.mk (fun hz => ?_) (fun hz => ?_) | refine Br.mk (fun hz => ?_) (fun hz => ?_)) <;> (have h := hz; try simp only [decide_eq_true_eq, decide_eq_false_iff_not, Int.not_lt, Int.not_le, beq_iff_eq, beq_eq_false_iff_ne, bne_iff_ne, bne_eq_false_iff_eq, ne_eq, Bool.not_eq_true', Bool.not_eq_false', Decidable.not_not] at h) <;> (try (exfalso; omega)) <;> (try simp only [Bool.not_eq_true', Bool.not_eq_false', beq_true, beq_false] at hz))
                  | ((first | rw [if_pos (show _ ∧ _ from ⟨by omega, by omega⟩)] | rw [if_pos (show _ ∧ _ from by simp only [List.length_append, List.length_cons, List.length_nil]; exact ⟨by omega, by omega⟩)]); simp (config := {contextual := true, maxSteps := 1000000}) only [hy, hz, go_sem, reduceCtorEq, Nat.reduceAdd, Nat.reduceSub, Nat.reduceMul, Nat.reduceLT, Nat.reduceLeDiff, Int.reduceLT, Int.reduceLE, Int.reduceEq, Int.reduceNe, Int.reduceAdd, Int.reduceSub, Int.reduceMul, Int.reduceToNat, Int.reduceNeg, Int.reducePow, Nat.reducePow, Nat.reduceEqDiff, Nat.reduceBEq, Int.reduceBEq, Int.reduceBNe, Int.reduceNegSucc, hlt2, hw])
                  | (simp only [thenV, blockV, if_true, if_false, Nat.reduceEqDiff, reduceCtorEq, imp_self]))
              exact WPV.desc ((Desc.re [some 0, some 1, some 2] rfl).trans Desc.weakA) H1
        · by_cases h2 : a.o = 2
          · skip
            have ho0 : (a.o == 0) = false := by simp; omega
            have ho1 : (a.o == 1) = false := by simp; omega
            have ho2 : (a.o == 2) = true := by simpa using h2
            obtain ⟨d', hd'⟩ : ∃ d', d' = Di.new := ⟨_, rfl⟩
            have ok' : d'.Ok := by rw [hd']; exact .nw
            have hres := dreset_s (K := K) d
            rw [← hd'] at hres
            have h8 : ((8 : Int) < (d'.ks.length : Int)) = False := by have := ok'.len; simp; omega
            refine loopV ?_
            have hz : True := trivial
            have hy := yieldedV_eq
            repeat' (first
                | (refine WPV.seqK ?_; intro N hN)
                | refine WPV.block ?_
                | refine WPV.scope ?_
                | refine WPV.skip ?_
                | refine WPV.label ?_
                | refine WPV.exit ?_
                | refine WPV.ret ?_
                | (refine WPV.regionG (M := noM) ?_; intro N hN ops hy; (try simp only [List.append] at hy ⊢); (try simp only [List.map_cons, List.map_nil] at hy))
                | (refine WPV.drawK (M := noM) (by kernel_rfl) (by kernel_rfl) ?_; intro N hN; have hy := yieldedV_eq)
                | (refine WPV.condK ?_; intro A hA B hB)
                | ((with_reducible first | refine opsV.here ?_ | refine guardO.here ?_ | refine resO.here ?_ | refine drawV.here ?_ | refine guardD.here ?_ | refine stepO.here ?_ | refine brO.here ?_ | refine condV.here ?_); simp (config := {contextual := true, maxSteps := 1000000}) only [hy, hz, go_sem, reduceCtorEq, Nat.reduceAdd, Nat.reduceSub, Nat.reduceMul, Nat.reduceLT, Nat.reduceLeDiff, Int.reduceLT, Int.reduceLE, Int.reduceEq, Int.reduceNe, Int.reduceAdd, Int.reduceSub, Int.reduceMul, Int.reduceToNat, Int.reduceNeg, Int.reducePow, Nat.reducePow, Nat.reduceEqDiff, Nat.reduceBEq, Int.reduceBEq, Int.reduceBNe, Int.reduceNegSucc, hlt, hget, hw, ho0, ho1, ho2, h8])
                | (refine And.intro (by kernel_rfl : okOrd _ _ = true) ?_)
                | refine Both.mk ?_ ?_
                | ((with_reducible refine CallO.gd 40 ?_); refine CallO.frA [0, 1, 2] Try.call40 (hres) ?_)
                | ((with_reducible refine CallO.gd 42 ?_); refine CallO.frA [0, 4, 5] Try.call42 (dkeys_s d' ok'.len) ?_)
                | (first | refine hN _ ?_ | (clear hN N; refine hN _ ?_) | (iterate 2 clear hN N); refine hN _ ?_ | (iterate 3 clear hN N); refine hN _ ?_ | (iterate 4 clear hN N); refine hN _ ?_ | (iterate 5 clear hN N); refine hN _ ?_); try clear hN N; try clear hy ops
                | (refine hA ?_; clear hA A hB B; try simp only [hz])
                | (refine hB ?_; clear hA A hB B; try simp only [hz])
                | ((first | refine guardO.mk (fun hz => ?_) (fun hz => ?_) | refine guardD.mk (fun hz => ?_) (fun hz => ?_) | refine Br.mk (fun hz => ?_) (fun hz => ?_)) <;> (have h := hz; try simp only [decide_eq_true_eq, decide_eq_false_iff_not, Int.not_lt, Int.not_le, beq_iff_eq, beq_eq_false_iff_ne, bne_iff_ne, bne_eq_false_iff_eq, ne_eq, Bool.not_eq_true', Bool.not_eq_false', Decidable.not_not] at h) <;> (try (exfalso; omega)) <;> (try simp only [Bool.not_eq_true', Bool.not_eq_false', beq_true, beq_false] at hz))
                | ((first | rw [if_pos (show _ ∧ _ from ⟨by omega, by omega⟩)] | rw [if_pos (show _ ∧ _ from by simp only [List.length_append, List.length_cons, List.length_nil]; exact ⟨by omega, by omega⟩)]); simp (config := {contextual := true, maxSteps := 1000000}) only [hy, hz, go_sem, reduceCtorEq, Nat.reduceAdd, Nat.reduceSub, Nat.reduceMul, Nat.reduceLT, Nat.reduceLeDiff, Int.reduceLT, Int.reduceLE, Int.reduceEq, Int.reduceNe, Int.reduceAdd, Int.reduceSub, Int.reduceMul, Int.reduceToNat, Int.reduceNeg, Int.reducePow, Nat.reducePow, Nat.reduceEqDiff, Nat.reduceBEq, Int.reduceBEq, Int.reduceBNe, Int.reduceNegSucc, hlt, hget, hw, ho0, ho1, ho2, h8])
                | (simp only [thenV, blockV, if_true, if_false, Nat.reduceEqDiff, reduceCtorEq, imp_self]))
            refine WPV.desc ((Desc.re [some 0, some 4, some 5] rfl).trans (Desc.weakA (tm' := [.sl 3 (dacts l), .any, .sc (.bool false), .ptr 0 0, .any, .any, .any, .any, .any, .any, .any, .any, .any, .any, .any, .any, .any, .any, .any, .any, .any, .any, .any, .sl 3 (dacts l), .sc (.int .i64 (l.length : Int)), .sc (.int .i64 (k : Int)), .any, .any, .any, .any, .any, .any, .any, .any, .any, .any, .any, .any, .any, .any, .any, .any, .any, .any, .any, .any, .any, .any, .any, .any, .any, .any, .any, .any, .any, .any, .any, .any, .any, .any, .any, .any, .any, .any, .any, .any, .any, .any, .any, .any, .any, .any, .any, .any, .any, .sl 1 (ds d'.ks), .sc (.int .i64 (d'.ks.length : Int)), .sc (.int .i64 ((0 : Nat) : Int)), .any, .any, .any, .any, .any, .any, .any, .any, .any, .any, .any, .any, .any, .any, .any, .any]) (h' := d'.inn) )) ?_
            refine WPV.loopA (α := Nat) (fun i => d'.ks.length - i) (fun i => ⟨[.sl 3 (dacts l), .any, .sc (.bool false), .ptr 0 0, .any, .any, .any, .any, .any, .any, .any, .any, .any, .any, .any, .any, .any, .any, .any, .any, .any, .any, .any, .sl 3 (dacts l), .sc (.int .i64 (l.length : Int)), .sc (.int .i64 (k : Int)), .any, .any, .any, .any, .any, .any, .any, .any, .any, .any, .any, .any, .any, .any, .any, .any, .any, .any, .any, .any, .any, .any, .any, .any, .any, .any, .any, .any, .any, .any, .any, .any, .any, .any, .any, .any, .any, .any, .any, .any, .any, .any, .any, .any, .any, .any, .any, .any, .any, .sl 1 (ds d'.ks), .sc (.int .i64 (d'.ks.length : Int)), .sc (.int .i64 ((i : Nat) : Int)), .any, .any, .any, .any, .any, .any, .any, .any, .any, .any, .any, .any, .any, .any, .any, .any], d'.inn⟩) (fun i => i ≤ d'.ks.length) (fun i hi HI => ?_) 0 (Nat.zero_le _)
            dsimp only at hi HI ⊢
            by_cases hi2 : i < d'.ks.length
            · obtain ⟨key, hg2, hat2, hsz⟩ := T d' ok' i hi hi2
              have hlt2 : ((i : Int) < (d'.ks.length : Int)) = True := by simp; omega
              have hw2 : IntKind.i64.wrap ((i : Int) + 1) = ((i + 1 : Nat) : Int) := by rw [wr_i64 (by omega) (by have := ok'.len; omega)]; rfl
              have hne : ((i : Int) != (i : Int)) = false := by simp
              have hsz2 : ((64 : Int) < (key.size : Int)) = False := by simp; omega
              have HI' := HI (i + 1) (by omega) (by omega)
              clear HI H'
              refine loopV ?_
              have hz : True := trivial
              have hy := yieldedV_eq
              repeat' (first
                  | (refine WPV.seqK ?_; intro N hN)
                  | refine WPV.block ?_
                  | refine WPV.scope ?_
                  | refine WPV.skip ?_
                  | refine WPV.label ?_
                  | refine WPV.exit ?_
                  | refine WPV.ret ?_
                  | (refine WPV.regionG (M := noM) ?_; intro N hN ops hy; (try simp only [List.append] at hy ⊢); (try simp only [List.map_cons, List.map_nil] at hy))
                  | (refine WPV.drawK (M := noM) (by kernel_rfl) (by kernel_rfl) ?_; intro N hN; have hy := yieldedV_eq)
                  | (refine WPV.condK ?_; intro A hA B hB)
                  | ((with_reducible first | refine opsV.here ?_ | refine guardO.here ?_ | refine resO.here ?_ | refine drawV.here ?_ | refine guardD.here ?_ | refine stepO.here ?_ | refine brO.here ?_ | refine condV.here ?_); simp (config := {contextual := true, maxSteps := 1000000}) only [hy, hz, go_sem, reduceCtorEq, Nat.reduceAdd, Nat.reduceSub, Nat.reduceMul, Nat.reduceLT, Nat.reduceLeDiff, Int.reduceLT, Int.reduceLE, Int.reduceEq, Int.reduceNe, Int.reduceAdd, Int.reduceSub, Int.reduceMul, Int.reduceToNat, Int.reduceNeg, Int.reducePow, Nat.reducePow, Nat.reduceEqDiff, Nat.reduceBEq, Int.reduceBEq, Int.reduceBNe, Int.reduceNegSucc, hlt2, hg2, hat2, hw2, hne, hsz2])
                  | (refine And.intro (by kernel_rfl : okOrd _ _ = true) ?_)
                  | refine Both.mk ?_ ?_
                  | ((with_reducible refine CallO.gd 43 ?_); refine CallO.frA [0, 1, 2] Try.call43 (dat_s d' key) ?_)
                  | (first | refine hN _ ?_ | (clear hN N; refine hN _ ?_) | (iterate 2 clear hN N); refine hN _ ?_ | (iterate 3 clear hN N); refine hN _ ?_ | (iterate 4 clear hN N); refine hN _ ?_ | (iterate 5 clear hN N); refine hN _ ?_); try clear hN N; try clear hy ops
                  | (refine hA ?_; clear hA A hB B; try simp only [hz])
                  | (refine hB ?_; clear hA A hB B; try simp only [hz])
                  | ((first | refine guardO.mk (fun hz => ?_) (fun hz => ?_) | refine guardD.mk (fun hz => ?_) (fun hz => ?_) | refine Br.mk (fun hz => ?_) (fun hz => ?_)) <;> (have h := hz; try simp only [decide_eq_true_eq, decide_eq_false_iff_not, Int.not_lt, Int.not_le, beq_iff_eq, beq_eq_false_iff_ne, bne_iff_ne, bne_eq_false_iff_eq, ne_eq, Bool.not_eq_true', Bool.not_eq_false', Decidable.not_not] at h) <;> (try (exfalso; omega)) <;> (try simp only [Bool.not_eq_true', Bool.not_eq_false', beq_true, beq_false] at hz))
                  | ((first | rw [if_pos (show _ ∧ _ from ⟨by omega, by omega⟩)] | rw [if_pos (show _ ∧ _ from by simp only [List.length_append, List.length_cons, List.length_nil]; exact ⟨by omega, by omega⟩)]); simp (config := {contextual := true, maxSteps := 1000000}) only [hy, hz, go_sem, reduceCtorEq, Nat.reduceAdd, Nat.reduceSub, Nat.reduceMul, Nat.reduceLT, Nat.reduceLeDiff, Int.reduceLT, Int.reduceLE, Int.reduceEq, Int.reduceNe, Int.reduceAdd, Int.reduceSub, Int.reduceMul, Int.reduceToNat, Int.reduceNeg, Int.reducePow, Nat.reducePow, Nat.reduceEqDiff, Nat.reduceBEq, Int.reduceBEq, Int.reduceBNe, Int.reduceNegSucc, hlt2, hg2, hat2, hw2, hne, hsz2])
                  | (simp only [thenV, blockV, if_true, if_false, Nat.reduceEqDiff, reduceCtorEq, imp_self]))
              exact WPV.desc ((Desc.re [some 0, some 1, some 2] rfl).trans Desc.weakA) HI'
            · obtain rfl : i = d'.ks.length := by omega
              have hlt2 : ((d'.ks.length : Int) < (d'.ks.length : Int)) = False := by simp
              have H1 := H' d' ok'
              clear HI H'
              refine loopV ?_
              have hz : True := trivial
              have hy := yieldedV_eq
              repeat' (first
                  | (refine WPV.seqK ?_; intro N hN)
                  | refine WPV.block ?_
                  | refine WPV.scope ?_
                  | refine WPV.skip ?_
                  | refine WPV.label ?_
                  | refine WPV.exit ?_
                  | refine WPV.ret ?_
                  | (refine WPV.regionG (M := noM) ?_; intro N hN ops hy; (try simp only [List.append] at hy ⊢); (try simp only [List.map_cons, List.map_nil] at hy))
                  | (refine WPV.drawK (M := noM) (by kernel_rfl) (by kernel_rfl) ?_; intro N hN; have hy := yieldedV_eq)
                  | (refine WPV.condK ?_; intro A hA B hB)
                  | ((with_reducible first | refine opsV.here ?_ | refine guardO.here ?_ | refine resO.here ?_ | refine drawV.here ?_ | refine guardD.here ?_ | refine stepO.here ?_ | refine brO.here ?_ | refine condV.here ?_); simp (config := {contextual := true, maxSteps := 1000000}) only [hy, hz, go_sem, reduceCtorEq, Nat.reduceAdd, Nat.reduceSub, Nat.reduceMul, Nat.reduceLT, Nat.reduceLeDiff, Int.reduceLT, Int.reduceLE, Int.reduceEq, Int.reduceNe, Int.reduceAdd, Int.reduceSub, Int.reduceMul, Int.reduceToNat, Int.reduceNeg, Int.reducePow, Nat.reducePow, Nat.reduceEqDiff, Nat.reduceBEq, Int.reduceBEq, Int.reduceBNe, Int.reduceNegSucc, hlt2, hw])
                  | (refine And.intro (by kernel_rfl : okOrd _ _ = true) ?_)
                  | refine Both.mk ?_ ?_
                  | (first | refine hN _ ?_ | (clear hN N; refine hN _ ?_) | (iterate 2 clear hN N); refine hN _ ?_ | (iterate 3 clear hN N); refine hN _ ?_ | (iterate 4 clear hN N); refine hN _ ?_ | (iterate 5 clear hN N); refine hN _ ?_); try clear hN N; try clear hy ops
                  | (refine hA ?_; clear hA A hB B; try simp only [hz])
                  | (refine hB ?_; clear hA A hB B; try simp only [hz])
                  | ((first | refine guardO.mk (fun hz => ?_) (fun hz => ?_) | refine guardD.mk (fun hz => ?_) (fun hz => ?_) | refine Br.mk (fun hz => ?_) (fun hz => ?_)) <;> (have h := hz; try simp only [decide_eq_true_eq, decide_eq_false_iff_not, Int.not_lt, Int.not_le, beq_iff_eq, beq_eq_false_iff_ne, bne_iff_ne, bne_eq_false_iff_eq, ne_eq, Bool.not_eq_true', Bool.not_eq_false', Decidable.not_not] at h) <;> (try (exfalso; omega)) <;> (try simp only [Bool.not_eq_true', Bool.not_eq_false', beq_true, beq_false] at hz))
                  | ((first | rw [if_pos (show _ ∧ _ from ⟨by omega, by omega⟩)] | rw [if_pos (show _ ∧ _ from by simp only [List.length_append, List.length_cons, List.length_nil]; exact ⟨by omega, by omega⟩)]); simp (config := {contextual := true, maxSteps := 1000000}) only [hy, hz, go_sem, reduceCtorEq, Nat.reduceAdd, Nat.reduceSub, Nat.reduceMul, Nat.reduceLT, Nat.reduceLeDiff, Int.reduceLT, Int.reduceLE, Int.reduceEq, Int.reduceNe, Int.reduceAdd, Int.reduceSub, Int.reduceMul, Int.reduceToNat, Int.reduceNeg, Int.reducePow, Nat.reducePow, Nat.reduceEqDiff, Nat.reduceBEq, Int.reduceBEq, Int.reduceBNe, Int.reduceNegSucc, hlt2, hw])
                  | (simp only [thenV, blockV, if_true, if_false, Nat.reduceEqDiff, reduceCtorEq, imp_self]))
              exact WPV.desc ((Desc.re [some 0, some 1, some 2] rfl).trans Desc.weakA) H1
          · skip
            have ho0 : (a.o == 0) = false := by simp; omega
            have ho1 : (a.o == 1) = false := by simp; omega
            have ho2 : (a.o == 2) = false := by simp; omega
            obtain ⟨d', hd'⟩ : ∃ d', d' = d := ⟨_, rfl⟩
            rw [← hd'] at ok ⊢
            have ok' := ok
            have h8 : ((8 : Int) < (d'.ks.length : Int)) = False := by have := ok'.len; simp; omega
            refine loopV ?_
            have hz : True := trivial
            have hy := yieldedV_eq
            repeat' (first
                | (refine WPV.seqK ?_; intro N hN)
                | refine WPV.block ?_
                | refine WPV.scope ?_
                | refine WPV.skip ?_
                | refine WPV.label ?_
                | refine WPV.exit ?_
                | refine WPV.ret ?_
                | (refine WPV.regionG (M := noM) ?_; intro N hN ops hy; (try simp only [List.append] at hy ⊢); (try simp only [List.map_cons, List.map_nil] at hy))
                | (refine WPV.drawK (M := noM) (by kernel_rfl) (by kernel_rfl) ?_; intro N hN; have hy := yieldedV_eq)
                | (refine WPV.condK ?_; intro A hA B hB)
                | ((with_reducible first | refine opsV.here ?_ | refine guardO.here ?_ | refine resO.here ?_ | refine drawV.here ?_ | refine guardD.here ?_ | refine stepO.here ?_ | refine brO.here ?_ | refine condV.here ?_); simp (config := {contextual := true, maxSteps := 1000000}) only [hy, hz, go_sem, reduceCtorEq, Nat.reduceAdd, Nat.reduceSub, Nat.reduceMul, Nat.reduceLT, Nat.reduceLeDiff, Int.reduceLT, Int.reduceLE, Int.reduceEq, Int.reduceNe, Int.reduceAdd, Int.reduceSub, Int.reduceMul, Int.reduceToNat, Int.reduceNeg, Int.reducePow, Nat.reducePow, Nat.reduceEqDiff, Nat.reduceBEq, Int.reduceBEq, Int.reduceBNe, Int.reduceNegSucc, hlt, hget, hw, ho0, ho1, ho2, h8])
                | (refine And.intro (by kernel_rfl : okOrd _ _ = true) ?_)
                | refine Both.mk ?_ ?_
                | ((with_reducible refine CallO.gd 42 ?_); refine CallO.frA [0, 1, 2] Try.call42 (dkeys_s d' ok'.len) ?_)
                | (first | refine hN _ ?_ | (clear hN N; refine hN _ ?_) | (iterate 2 clear hN N); refine hN _ ?_ | (iterate 3 clear hN N); refine hN _ ?_ | (iterate 4 clear hN N); refine hN _ ?_ | (iterate 5 clear hN N); refine hN _ ?_); try clear hN N; try clear hy ops
                | (refine hA ?_; clear hA A hB B; try simp only [hz])
                | (refine hB ?_; clear hA A hB B; try simp only [hz])
                | ((first | refine guardO.mk (fun hz => ?_) (fun hz => ?_) | refine guardD.mk (fun hz => ?_) (fun hz => ?_) | refine Br.mk (fun hz => ?_) (fun hz => ?_)) <;> (have h := hz; try simp only [decide_eq_true_eq, decide_eq_false_iff_not, Int.not_lt, Int.not_le, beq_iff_eq, beq_eq_false_iff_ne, bne_iff_ne, bne_eq_false_iff_eq, ne_eq, Bool.not_eq_true', Bool.not_eq_false', Decidable.not_not] at h) <;> (try (exfalso; omega)) <;> (try simp only [Bool.not_eq_true', Bool.not_eq_false', beq_true, beq_false] at hz))
                | ((first | rw [if_pos (show _ ∧ _ from ⟨by omega, by omega⟩)] | rw [if_pos (show _ ∧ _ from by simp only [List.length_append, List.length_cons, List.length_nil]; exact ⟨by omega, by omega⟩)]); simp (config := {contextual := true, maxSteps := 1000000}) only [hy, hz, go_sem, reduceCtorEq, Nat.reduceAdd, Nat.reduceSub, Nat.reduceMul, Nat.reduceLT, Nat.reduceLeDiff, Int.reduceLT, Int.reduceLE, Int.reduceEq, Int.reduceNe, Int.reduceAdd, Int.reduceSub, Int.reduceMul, Int.reduceToNat, Int.reduceNeg, Int.reducePow, Nat.reducePow, Nat.reduceEqDiff, Nat.reduceBEq, Int.reduceBEq, Int.reduceBNe, Int.reduceNegSucc, hlt, hget, hw, ho0, ho1, ho2, h8])
                | (simp only [thenV, blockV, if_true, if_false, Nat.reduceEqDiff, reduceCtorEq, imp_self]))
            refine WPV.desc ((Desc.re [some 0, some 1, some 2] rfl).trans (Desc.weakA (tm' := [.sl 3 (dacts l), .any, .sc (.bool false), .ptr 0 0, .any, .any, .any, .any, .any, .any, .any, .any, .any, .any, .any, .any, .any, .any, .any, .any, .any, .any, .any, .sl 3 (dacts l), .sc (.int .i64 (l.length : Int)), .sc (.int .i64 (k : Int)), .any, .any, .any, .any, .any, .any, .any, .any, .any, .any, .any, .any, .any, .any, .any, .any, .any, .any, .any, .any, .any, .any, .any, .any, .any, .any, .any, .any, .any, .any, .any, .any, .any, .any, .any, .any, .any, .any, .any, .any, .any, .any, .any, .any, .any, .any, .any, .any, .any, .sl 1 (ds d'.ks), .sc (.int .i64 (d'.ks.length : Int)), .sc (.int .i64 ((0 : Nat) : Int)), .any, .any, .any, .any, .any, .any, .any, .any, .any, .any, .any, .any, .any, .any, .any, .any]) (h' := d'.inn) )) ?_
            refine WPV.loopA (α := Nat) (fun i => d'.ks.length - i) (fun i => ⟨[.sl 3 (dacts l), .any, .sc (.bool false), .ptr 0 0, .any, .any, .any, .any, .any, .any, .any, .any, .any, .any, .any, .any, .any, .any, .any, .any, .any, .any, .any, .sl 3 (dacts l), .sc (.int .i64 (l.length : Int)), .sc (.int .i64 (k : Int)), .any, .any, .any, .any, .any, .any, .any, .any, .any, .any, .any, .any, .any, .any, .any, .any, .any, .any, .any, .any, .any, .any, .any, .any, .any, .any, .any, .any, .any, .any, .any, .any, .any, .any, .any, .any, .any, .any, .any, .any, .any, .any, .any, .any, .any, .any, .any, .any, .any, .sl 1 (ds d'.ks), .sc (.int .i64 (d'.ks.length : Int)), .sc (.int .i64 ((i : Nat) : Int)), .any, .any, .any, .any, .any, .any, .any, .any, .any, .any, .any, .any, .any, .any, .any, .any], d'.inn⟩) (fun i => i ≤ d'.ks.length) (fun i hi HI => ?_) 0 (Nat.zero_le _)
            dsimp only at hi HI ⊢
            by_cases hi2 : i < d'.ks.length
            · obtain ⟨key, hg2, hat2, hsz⟩ := T d' ok' i hi hi2
              have hlt2 : ((i : Int) < (d'.ks.length : Int)) = True := by simp; omega
              have hw2 : IntKind.i64.wrap ((i : Int) + 1) = ((i + 1 : Nat) : Int) := by rw [wr_i64 (by omega) (by have := ok'.len; omega)]; rfl
              have hne : ((i : Int) != (i : Int)) = false := by simp
              have hsz2 : ((64 : Int) < (key.size : Int)) = False := by simp; omega
              have HI' := HI (i + 1) (by omega) (by omega)
              clear HI H'
              refine loopV ?_
              have hz : True := trivial
              have hy := yieldedV_eq
              repeat' (first
                  | (refine WPV.seqK ?_; intro N hN)
                  | refine WPV.block ?_
                  | refine WPV.scope ?_
                  | refine WPV.skip ?_
                  | refine WPV.label ?_
                  | refine WPV.exit ?_
                  | refine WPV.ret ?_
                  | (refine WPV.regionG (M := noM) ?_; intro N hN ops hy; (try simp only [List.append] at hy ⊢); (try simp only [List.map_cons, List.map_nil] at hy))
                  | (refine WPV.drawK (M := noM) (by kernel_rfl) (by kernel_rfl) ?_; intro N hN; have hy := yieldedV_eq)
                  | (refine WPV.condK ?_; intro A hA B hB)
                  | ((with_reducible first | refine opsV.here ?_ | refine guardO.here ?_ | refine resO.here ?_ | refine drawV.here ?_ | refine guardD.here ?_ | refine stepO.here ?_ | refine brO.here ?_ | refine condV.here ?_); simp (config := {contextual := true, maxSteps := 1000000}) only [hy, hz, go_sem, reduceCtorEq, Nat.reduceAdd, Nat.reduceSub, Nat.reduceMul, Nat.reduceLT, Nat.reduceLeDiff, Int.reduceLT, Int.reduceLE, Int.reduceEq, Int.reduceNe, Int.reduceAdd, Int.reduceSub, Int.reduceMul, Int.reduceToNat, Int.reduceNeg, Int.reducePow, Nat.reducePow, Nat.reduceEqDiff, Nat.reduceBEq, Int.reduceBEq, Int.reduceBNe, Int.reduceNegSucc, hlt2, hg2, hat2, hw2, hne, hsz2])
                  | (refine And.intro (by kernel_rfl : okOrd _ _ = true) ?_)
                  | refine Both.mk ?_ ?_
                  | ((with_reducible refine CallO.gd 43 ?_); refine CallO.frA [0, 1, 2] Try.call43 (dat_s d' key) ?_)
                  | (first | refine hN _ ?_ | (clear hN N; refine hN _ ?_) | (iterate 2 clear hN N); refine hN _ ?_ | (iterate 3 clear hN N); refine hN _ ?_ | (iterate 4 clear hN N); refine hN _ ?_ | (iterate 5 clear hN N); refine hN _ ?_); try clear hN N; try clear hy ops
                  | (refine hA ?_; clear hA A hB B; try simp only [hz])
                  | (refine hB ?_; clear hA A hB B; try simp only [hz])
                  | ((first | refine guardO.mk (fun hz => ?_) (fun hz => ?_) | refine guardD.mk (fun hz => ?_) (fun hz => ?_) | refine Br.mk (fun hz => ?_) (fun hz => ?_)) <;> (have h := hz; try simp only [decide_eq_true_eq, decide_eq_false_iff_not, Int.not_lt, Int.not_le, beq_iff_eq, beq_eq_false_iff_ne, bne_iff_ne, bne_eq_false_iff_eq, ne_eq, Bool.not_eq_true', Bool.not_eq_false', Decidable.not_not] at h) <;> (try (exfalso; omega)) <;> (try simp only [Bool.not_eq_true', Bool.not_eq_false', beq_true, beq_false] at hz))
                  | ((first | rw [if_pos (show _ ∧ _ from ⟨by omega, by omega⟩)] | rw [if_pos (show _ ∧ _ from by simp only [List.length_append, List.length_cons, List.length_nil]; exact ⟨by omega, by omega⟩)]); simp (config := {contextual := true, maxSteps := 1000000}) only [hy, hz, go_sem, reduceCtorEq, Nat.reduceAdd, Nat.reduceSub, Nat.reduceMul, Nat.reduceLT, Nat.reduceLeDiff, Int.reduceLT, Int.reduceLE, Int.reduceEq, Int.reduceNe, Int.reduceAdd, Int.reduceSub, Int.reduceMul, Int.reduceToNat, Int.reduceNeg, Int.reducePow, Nat.reducePow, Nat.reduceEqDiff, Nat.reduceBEq, Int.reduceBEq, Int.reduceBNe, Int.reduceNegSucc, hlt2, hg2, hat2, hw2, hne, hsz2])
                  | (simp only [thenV, blockV, if_true, if_false, Nat.reduceEqDiff, reduceCtorEq, imp_self]))
              exact WPV.desc ((Desc.re [some 0, some 1, some 2] rfl).trans Desc.weakA) HI'
            · obtain rfl : i = d'.ks.length := by omega
              have hlt2 : ((d'.ks.length : Int) < (d'.ks.length : Int)) = False := by simp
              have H1 := H' d' ok'
              clear HI H'
              refine loopV ?_
              have hz : True := trivial
              have hy := yieldedV_eq
              repeat' (first
                  | (refine WPV.seqK ?_; intro N hN)
                  | refine WPV.block ?_
                  | refine WPV.scope ?_
                  | refine WPV.skip ?_
                  | refine WPV.label ?_
                  | refine WPV.exit ?_
                  | refine WPV.ret ?_
                  | (refine WPV.regionG (M := noM) ?_; intro N hN ops hy; (try simp only [List.append] at hy ⊢); (try simp only [List.map_cons, List.map_nil] at hy))
                  | (refine WPV.drawK (M := noM) (by kernel_rfl) (by kernel_rfl) ?_; intro N hN; have hy := yieldedV_eq)
                  | (refine WPV.condK ?_; intro A hA B hB)
                  | ((with_reducible first | refine opsV.here ?_ | refine guardO.here ?_ | refine resO.here ?_ | refine drawV.here ?_ | refine guardD.here ?_ | refine stepO.here ?_ | refine brO.here ?_ | refine condV.here ?_); simp (config := {contextual := true, maxSteps := 1000000}) only [hy, hz, go_sem, reduceCtorEq, Nat.reduceAdd, Nat.reduceSub, Nat.reduceMul, Nat.reduceLT, Nat.reduceLeDiff, Int.reduceLT, Int.reduceLE, Int.reduceEq, Int.reduceNe, Int.reduceAdd, Int.reduceSub, Int.reduceMul, Int.reduceToNat, Int.reduceNeg, Int.reducePow, Nat.reducePow, Nat.reduceEqDiff, Nat.reduceBEq, Int.reduceBEq, Int.reduceBNe, Int.reduceNegSucc, hlt2, hw])
                  | (refine And.intro (by kernel_rfl : okOrd _ _ = true) ?_)
                  | refine Both.mk ?_ ?_
                  | (first | refine hN _ ?_ | (clear hN N; refine hN _ ?_) | (iterate 2 clear hN N); refine hN _ ?_ | (iterate 3 clear hN N); refine hN _ ?_ | (iterate 4 clear hN N); refine hN _ ?_ | (iterate 5 clear hN N); refine hN _ ?_); try clear hN N; try clear hy ops
                  | (refine hA ?_; clear hA A hB B; try simp only [hz])
                  | (refine hB ?_; clear hA A hB B; try simp only [hz])
                  | ((first | refine guardO.mk (fun hz => ?_) (fun hz => ?_) | refine guardD.mk (fun hz => ?_) (fun hz => ?_) | refine Br.mk (fun hz => ?_) (fun hz => ?_)) <;> (have h := hz; try simp only [decide_eq_true_eq, decide_eq_false_iff_not, Int.not_lt, Int.not_le, beq_iff_eq, beq_eq_false_iff_ne, bne_iff_ne, bne_eq_false_iff_eq, ne_eq, Bool.not_eq_true', Bool.not_eq_false', Decidable.not_not] at h) <;> (try (exfalso; omega)) <;> (try simp only [Bool.not_eq_true', Bool.not_eq_false', beq_true, beq_false] at hz))
                  | ((first | rw [if_pos (show _ ∧ _ from ⟨by omega, by omega⟩)] | rw [if_pos (show _ ∧ _ from by simp only [List.length_append, List.length_cons, List.length_nil]; exact ⟨by omega, by omega⟩)]); simp (config := {contextual := true, maxSteps := 1000000}) only [hy, hz, go_sem, reduceCtorEq, Nat.reduceAdd, Nat.reduceSub, Nat.reduceMul, Nat.reduceLT, Nat.reduceLeDiff, Int.reduceLT, Int.reduceLE, Int.reduceEq, Int.reduceNe, Int.reduceAdd, Int.reduceSub, Int.reduceMul, Int.reduceToNat, Int.reduceNeg, Int.reducePow, Nat.reducePow, Nat.reduceEqDiff, Nat.reduceBEq, Int.reduceBEq, Int.reduceBNe, Int.reduceNegSucc, hlt2, hw])
                  | (simp only [thenV, blockV, if_true, if_false, Nat.reduceEqDiff, reduceCtorEq, imp_self]))
              exact WPV.desc ((Desc.re [some 0, some 1, some 2] rfl).trans Desc.weakA) H1
    · obtain rfl : k = l.length := by omega
      have hlt : ((l.length : Int) < (l.length : Int)) = False := by simp
      refine loopV ?_
      have hz : True := trivial
      have hy := yieldedV_eq
      repeat' (first
          | (refine WPV.seqK ?_; intro N hN)
          | refine WPV.block ?_
          | refine WPV.scope ?_
          | refine WPV.skip ?_
          | refine WPV.label ?_
          | refine WPV.exit ?_
          | refine WPV.ret ?_
          | (refine WPV.regionG (M := noM) ?_; intro N hN ops hy; (try simp only [List.append] at hy ⊢); (try simp only [List.map_cons, List.map_nil] at hy))
          | (refine WPV.drawK (M := noM) (by kernel_rfl) (by kernel_rfl) ?_; intro N hN; have hy := yieldedV_eq)
          | (refine WPV.condK ?_; intro A hA B hB)
          | ((with_reducible first | refine opsV.here ?_ | refine guardO.here ?_ | refine resO.here ?_ | refine drawV.here ?_ | refine guardD.here ?_ | refine stepO.here ?_ | refine brO.here ?_ | refine condV.here ?_); simp (config := {contextual := true, maxSteps := 1000000}) only [hy, hz, go_sem, reduceCtorEq, Nat.reduceAdd, Nat.reduceSub, Nat.reduceMul, Nat.reduceLT, Nat.reduceLeDiff, Int.reduceLT, Int.reduceLE, Int.reduceEq, Int.reduceNe, Int.reduceAdd, Int.reduceSub, Int.reduceMul, Int.reduceToNat, Int.reduceNeg, Int.reducePow, Nat.reducePow, Nat.reduceEqDiff, Nat.reduceBEq, Int.reduceBEq, Int.reduceBNe, Int.reduceNegSucc, hlt])
          | (refine And.intro (by kernel_rfl : okOrd _ _ = true) ?_)
          | refine Both.mk ?_ ?_
          | (first | refine hN _ ?_ | (clear hN N; refine hN _ ?_) | (iterate 2 clear hN N); refine hN _ ?_ | (iterate 3 clear hN N); refine hN _ ?_ | (iterate 4 clear hN N); refine hN _ ?_ | (iterate 5 clear hN N); refine hN _ ?_); try clear hN N; try clear hy ops
          | (refine hA ?_; clear hA A hB B; try simp only [hz])
          | (refine hB ?_; clear hA A hB B; try simp only [hz])
          | ((first | refine guardO.mk (fun hz => ?_) (fun hz => ?_) | refine guardD.mk (fun hz => ?_) (fun hz => ?_) | refine Br.mk (fun hz => ?_) (fun hz => ?_)) <;> (have h := hz; try simp only [decide_eq_true_eq, decide_eq_false_iff_not, Int.not_lt, Int.not_le, beq_iff_eq, beq_eq_false_iff_ne, bne_iff_ne, bne_eq_false_iff_eq, ne_eq, Bool.not_eq_true', Bool.not_eq_false', Decidable.not_not] at h) <;> (try (exfalso; omega)) <;> (try simp only [Bool.not_eq_true', Bool.not_eq_false', beq_true, beq_false] at hz))
          | ((first | rw [if_pos (show _ ∧ _ from ⟨by omega, by omega⟩)] | rw [if_pos (show _ ∧ _ from by simp only [List.length_append, List.length_cons, List.length_nil]; exact ⟨by omega, by omega⟩)]); simp (config := {contextual := true, maxSteps := 1000000}) only [hy, hz, go_sem, reduceCtorEq, Nat.reduceAdd, Nat.reduceSub, Nat.reduceMul, Nat.reduceLT, Nat.reduceLeDiff, Int.reduceLT, Int.reduceLE, Int.reduceEq, Int.reduceNe, Int.reduceAdd, Int.reduceSub, Int.reduceMul, Int.reduceToNat, Int.reduceNeg, Int.reducePow, Nat.reducePow, Nat.reduceEqDiff, Nat.reduceBEq, Int.reduceBEq, Int.reduceBNe, Int.reduceNegSucc, hlt])
          | (simp only [thenV, blockV, if_true, if_false, Nat.reduceEqDiff, reduceCtorEq, imp_self]))
      all_goals (first | exact retA hQ Try.results9 (Desc.re [] rfl) | exact retN hQ Try.results9 (Desc.re [] rfl))
end Go.Proofs.Ytonllhjmoenckaa
