/- Walks: the document's dictionary: Take. -/
import Derived.Test.YtonllhjmoenckaaRDict
namespace Go.Proofs.Ytonllhjmoenckaa
open Go Go.RowKit
set_option linter.unusedVariables false
set_option linter.unusedSimpArgs false
variable {K : Nat → Obj → Prop}
def Rdi.take (d : Rdi) (b : List UInt8) : Tk × Rdi := match dkOf b with
  | .err e => ((⟨#[]⟩, 0, e), d)
  | .place p u => if d.ks.length < p then ((⟨#[]⟩, 0, 9), d) else ((d.ks.getD (p - 1) ⟨#[]⟩, u, 0), d)
  | .text s u => if 0 ≤ d.at_ s then ((⟨#[]⟩, 0, 3), d) else ((s, u, 0), d.comes s)

section
variable {d : Rdi} {b : List UInt8} {p q : UInt64} {u v : Nat} {e f : Int} {h' : List Ho}
set_option maxRecDepth 100000 in
set_option maxHeartbeats 4000000 in
theorem rdtake_1 (hl : b.length ≤ 1000000) (ht : tk b = (p, u, e)) (he : (e != 0) = true)
    (hf hwl hgt hp0 hw1 hget hul hw2 hw3 hw4 hw5 hq hsh hlt hle hat hub ht2 : True) :
    Sp Try.prog K 39 [.ptr 0 0, .sl 1 (bs b)] [d.ob] fun x hh => x = dtV (⟨#[]⟩, 0, e) ∧ hh = [d.ob] := by
  refine Sp.of_bodyD Try.func39 rfl ?_
  intro Q hQ
  simp only [List.replicate, List.length_cons, List.length_nil, Try.ntmps39, Nat.reduceAdd, Nat.reduceSub, List.cons_append, List.nil_append, go_sem]
  have hz : True := trivial
  have hy := yieldedV_eq
  repeat' (first
      | (refine WPV.seqK ?_; intro N hN)
      | refine WPV.block ?_
      | refine WPV.scope ?_
      | refine WPV.skip ?_
      | refine WPV.label ?_
      | refine WPV.exit ?_
      | refine WPV.ret ?_
      | (refine WPV.regionG (M := noM) ?_; intro N hN ops hy; (try simp only [List.append] at hy ⊢); (try simp only [List.map_cons, List.map_nil] at hy))
      | (refine WPV.drawK (M := noM) (by kernel_rfl) (by kernel_rfl) ?_; intro N hN; have hy := yieldedV_eq)
      | (refine WPV.condK ?_; intro A hA B hB)
      | ((with_reducible first | refine opsV.here ?_ | refine guardO.here ?_ | refine resO.here ?_ | refine drawV.here ?_ | refine guardD.here ?_ | refine stepO.here ?_ | refine brO.here ?_ | refine condV.here ?_); simp (config := {contextual := true, maxSteps := 1000000}) only [hy, hz, go_sem, reduceCtorEq, Nat.reduceAdd, Nat.reduceSub, Nat.reduceMul, Nat.reduceLT, Nat.reduceLeDiff, Int.reduceLT, Int.reduceLE, Int.reduceEq, Int.reduceNe, Int.reduceAdd, Int.reduceSub, Int.reduceMul, Int.reduceToNat, Int.reduceNeg, Int.reducePow, Nat.reducePow, Nat.reduceEqDiff, Nat.reduceBEq, Int.reduceBEq, Int.reduceBNe, Int.reduceNegSucc, he, hf, hwl, hgt, hp0, hw1, hget, hul, hw2, hw3, hw4, hw5, hq, hsh, hlt, hle, hat, hub])
      | (refine And.intro (by kernel_rfl : okOrd _ _ = true) ?_)
      | refine Both.mk ?_ ?_
      | ((with_reducible refine CallO.gd 86 ?_); first
        | refine CallO.toA Try.call86 (vrtake_s ht (by omega) _) ?_
        | refine CallO.toA Try.call86 (vrtake_s ht2 (by omega) _) ?_)
      | ((with_reducible refine CallO.gd 44 ?_); refine CallO.frA [0] Try.call44 (rdat_s d key (by omega)) ?_)
      | ((with_reducible refine CallO.gd 84 ?_); refine CallO.frA [0] Try.call84 (rdcomes_s d key h8 hws hn) ?_)
      | ((with_reducible refine CallP.gd 86 ?_); first
        | refine CallP.toA Try.call86 (vrtake_s ht (by omega) _) ?_
        | refine CallP.toA Try.call86 (vrtake_s ht2 (by omega) _) ?_)
      | (first | refine hN _ ?_ | (clear hN N; refine hN _ ?_) | (iterate 2 clear hN N); refine hN _ ?_ | (iterate 3 clear hN N); refine hN _ ?_ | (iterate 4 clear hN N); refine hN _ ?_ | (iterate 5 clear hN N); refine hN _ ?_); try clear hN N; try clear hy ops
      | (refine hA ?_; clear hA A hB B; try simp only [hz])
      | (refine hB ?_; clear hA A hB B; try simp only [hz])
      | ((first | refine guardO.mk (fun hz => ?_) (fun hz => ?_) | refine guardD.mk (fun hz => ?_) (fun hz => ?_) | refine Br.mk (fun hz => ?_) (fun hz => ?_)) <;> (have h := hz; try simp only [decide_eq_true_eq, decide_eq_false_iff_not, Int.not_lt, Int.not_le, beq_iff_eq, beq_eq_false_iff_ne, bne_iff_ne, bne_eq_false_iff_eq, ne_eq, Bool.not_eq_true', Bool.not_eq_false', Decidable.not_not] at h) <;> (try (exfalso; omega)) <;> (try simp only [Bool.not_eq_true', Bool.not_eq_false', beq_true, beq_false] at hz))
      | ((first | rw [if_pos (show _ ∧ _ from ⟨by omega, by omega⟩)] | rw [if_pos (show _ ∧ _ from by simp only [List.length_append, List.length_cons, List.length_nil]; exact ⟨by omega, by omega⟩)]); simp (config := {contextual := true, maxSteps := 1000000}) only [hy, hz, go_sem, reduceCtorEq, Nat.reduceAdd, Nat.reduceSub, Nat.reduceMul, Nat.reduceLT, Nat.reduceLeDiff, Int.reduceLT, Int.reduceLE, Int.reduceEq, Int.reduceNe, Int.reduceAdd, Int.reduceSub, Int.reduceMul, Int.reduceToNat, Int.reduceNeg, Int.reducePow, Nat.reducePow, Nat.reduceEqDiff, Nat.reduceBEq, Int.reduceBEq, Int.reduceBNe, Int.reduceNegSucc, he, hf, hwl, hgt, hp0, hw1, hget, hul, hw2, hw3, hw4, hw5, hq, hsh, hlt, hle, hat, hub])
      | (simp only [thenV, blockV, if_true, if_false, Nat.reduceEqDiff, reduceCtorEq, imp_self]))
  all_goals (first | exact retA hQ Try.results39 (Desc.re [some 0] rfl) | exact retN hQ Try.results39 (Desc.re [some 0] rfl))
set_option maxRecDepth 100000 in
set_option maxHeartbeats 4000000 in
theorem rdtake_2 (hl : b.length ≤ 1000000) (ht : tk b = (p, u, 0)) (hwl : IntKind.u64.wrap (d.ks.length : Int) = (d.ks.length : Int)) (hp0 : ((0 : Int) < (p.toNat : Int)) = True) (hgt : ((d.ks.length : Int) < (p.toNat : Int)) = True)
    (he hf hw1 hget hul hw2 hw3 hw4 hw5 hq hsh hlt hle hat hub ht2 : True) :
    Sp Try.prog K 39 [.ptr 0 0, .sl 1 (bs b)] [d.ob] fun x hh => x = dtV (⟨#[]⟩, 0, 9) ∧ hh = [d.ob] := by
  refine Sp.of_bodyD Try.func39 rfl ?_
  intro Q hQ
  simp only [List.replicate, List.length_cons, List.length_nil, Try.ntmps39, Nat.reduceAdd, Nat.reduceSub, List.cons_append, List.nil_append, go_sem]
  have hz : True := trivial
  have hy := yieldedV_eq
  repeat' (first
      | (refine WPV.seqK ?_; intro N hN)
      | refine WPV.block ?_
      | refine WPV.scope ?_
      | refine WPV.skip ?_
      | refine WPV.label ?_
      | refine WPV.exit ?_
      | refine WPV.ret ?_
      | (refine WPV.regionG (M := noM) ?_; intro N hN ops hy; (try simp only [List.append] at hy ⊢); (try simp only [List.map_cons, List.map_nil] at hy))
      | (refine WPV.drawK (M := noM) (by kernel_rfl) (by kernel_rfl) ?_; intro N hN; have hy := yieldedV_eq)
      | (refine WPV.condK ?_; intro A hA B hB)
      | ((with_reducible first | refine opsV.here ?_ | refine guardO.here ?_ | refine resO.here ?_ | refine drawV.here ?_ | refine guardD.here ?_ | refine stepO.here ?_ | refine brO.here ?_ | refine condV.here ?_); simp (config := {contextual := true, maxSteps := 1000000}) only [hy, hz, go_sem, reduceCtorEq, Nat.reduceAdd, Nat.reduceSub, Nat.reduceMul, Nat.reduceLT, Nat.reduceLeDiff, Int.reduceLT, Int.reduceLE, Int.reduceEq, Int.reduceNe, Int.reduceAdd, Int.reduceSub, Int.reduceMul, Int.reduceToNat, Int.reduceNeg, Int.reducePow, Nat.reducePow, Nat.reduceEqDiff, Nat.reduceBEq, Int.reduceBEq, Int.reduceBNe, Int.reduceNegSucc, he, hf, hwl, hgt, hp0, hw1, hget, hul, hw2, hw3, hw4, hw5, hq, hsh, hlt, hle, hat, hub])
      | (refine And.intro (by kernel_rfl : okOrd _ _ = true) ?_)
      | refine Both.mk ?_ ?_
      | ((with_reducible refine CallO.gd 86 ?_); first
        | refine CallO.toA Try.call86 (vrtake_s ht (by omega) _) ?_
        | refine CallO.toA Try.call86 (vrtake_s ht2 (by omega) _) ?_)
      | ((with_reducible refine CallO.gd 44 ?_); refine CallO.frA [0] Try.call44 (rdat_s d key (by omega)) ?_)
      | ((with_reducible refine CallO.gd 84 ?_); refine CallO.frA [0] Try.call84 (rdcomes_s d key h8 hws hn) ?_)
      | ((with_reducible refine CallP.gd 86 ?_); first
        | refine CallP.toA Try.call86 (vrtake_s ht (by omega) _) ?_
        | refine CallP.toA Try.call86 (vrtake_s ht2 (by omega) _) ?_)
      | (first | refine hN _ ?_ | (clear hN N; refine hN _ ?_) | (iterate 2 clear hN N); refine hN _ ?_ | (iterate 3 clear hN N); refine hN _ ?_ | (iterate 4 clear hN N); refine hN _ ?_ | (iterate 5 clear hN N); refine hN _ ?_); try clear hN N; try clear hy ops
      | (refine hA ?_; clear hA A hB B; try simp only [hz])
      | (refine hB ?_; clear hA A hB B; try simp only [hz])
      | ((first | refine guardO.mk (fun hz => ?_) (fun hz => ?_) | refine guardD.mk (fun hz => ?_) (fun hz => ?_) | refine Br.mk (fun hz => ?_) (fun hz => ?_)) <;> (have h := hz; try simp only [decide_eq_true_eq, decide_eq_false_iff_not, Int.not_lt, Int.not_le, beq_iff_eq, beq_eq_false_iff_ne, bne_iff_ne, bne_eq_false_iff_eq, ne_eq, Bool.not_eq_true', Bool.not_eq_false', Decidable.not_not] at h) <;> (try (exfalso; omega)) <;> (try simp only [Bool.not_eq_true', Bool.not_eq_false', beq_true, beq_false] at hz))
      | ((first | rw [if_pos (show _ ∧ _ from ⟨by omega, by omega⟩)] | rw [if_pos (show _ ∧ _ from by simp only [List.length_append, List.length_cons, List.length_nil]; exact ⟨by omega, by omega⟩)]); simp (config := {contextual := true, maxSteps := 1000000}) only [hy, hz, go_sem, reduceCtorEq, Nat.reduceAdd, Nat.reduceSub, Nat.reduceMul, Nat.reduceLT, Nat.reduceLeDiff, Int.reduceLT, Int.reduceLE, Int.reduceEq, Int.reduceNe, Int.reduceAdd, Int.reduceSub, Int.reduceMul, Int.reduceToNat, Int.reduceNeg, Int.reducePow, Nat.reducePow, Nat.reduceEqDiff, Nat.reduceBEq, Int.reduceBEq, Int.reduceBNe, Int.reduceNegSucc, he, hf, hwl, hgt, hp0, hw1, hget, hul, hw2, hw3, hw4, hw5, hq, hsh, hlt, hle, hat, hub])
      | (simp only [thenV, blockV, if_true, if_false, Nat.reduceEqDiff, reduceCtorEq, imp_self]))
  all_goals (first | exact retA hQ Try.results39 (Desc.re [some 0] rfl) | exact retN hQ Try.results39 (Desc.re [some 0] rfl))
set_option maxRecDepth 100000 in
set_option maxHeartbeats 4000000 in
theorem rdtake_3 {key : ByteArray} {i : Nat} (hl : b.length ≤ 1000000) (ht : tk b = (p, u, 0)) (hwl : IntKind.u64.wrap (d.ks.length : Int) = (d.ks.length : Int)) (hp0 : ((0 : Int) < (p.toNat : Int)) = True) (hgt : ((d.ks.length : Int) < (p.toNat : Int)) = False) (hw3 : IntKind.i64.wrap (p.toNat : Int) = (p.toNat : Int)) (hw1 : IntKind.i64.wrap ((p.toNat : Int) - 1) = (i : Int)) (hlt : ((i : Int) < (d.ks.length : Int)) = True) (hget : d.ks[i]? = some key)
    (he hf hul hw2 hw4 hw5 hq hsh hle hat hub ht2 : True) :
    Sp Try.prog K 39 [.ptr 0 0, .sl 1 (bs b)] [d.ob] fun x hh => x = dtV (key, u, 0) ∧ hh = [d.ob] := by
  refine Sp.of_bodyD Try.func39 rfl ?_
  intro Q hQ
  simp only [List.replicate, List.length_cons, List.length_nil, Try.ntmps39, Nat.reduceAdd, Nat.reduceSub, List.cons_append, List.nil_append, go_sem]
  have hz : True := trivial
  have hy := yieldedV_eq
  repeat' (first
      | (refine WPV.seqK ?_; intro N hN)
      | refine WPV.block ?_
      | refine WPV.scope ?_
      | refine WPV.skip ?_
      | refine WPV.label ?_
      | refine WPV.exit ?_
      | refine WPV.ret ?_
      | (refine WPV.regionG (M := noM) ?_; intro N hN ops hy; (try simp only [List.append] at hy ⊢); (try simp only [List.map_cons, List.map_nil] at hy))
      | (refine WPV.drawK (M := noM) (by kernel_rfl) (by kernel_rfl) ?_; intro N hN; have hy := yieldedV_eq)
      | (refine WPV.condK ?_; intro A hA B hB)
      | ((with_reducible first | refine opsV.here ?_ | refine guardO.here ?_ | refine resO.here ?_ | refine drawV.here ?_ | refine guardD.here ?_ | refine stepO.here ?_ | refine brO.here ?_ | refine condV.here ?_); simp (config := {contextual := true, maxSteps := 1000000}) only [hy, hz, go_sem, reduceCtorEq, Nat.reduceAdd, Nat.reduceSub, Nat.reduceMul, Nat.reduceLT, Nat.reduceLeDiff, Int.reduceLT, Int.reduceLE, Int.reduceEq, Int.reduceNe, Int.reduceAdd, Int.reduceSub, Int.reduceMul, Int.reduceToNat, Int.reduceNeg, Int.reducePow, Nat.reducePow, Nat.reduceEqDiff, Nat.reduceBEq, Int.reduceBEq, Int.reduceBNe, Int.reduceNegSucc, he, hf, hwl, hgt, hp0, hw1, hget, hul, hw2, hw3, hw4, hw5, hq, hsh, hlt, hle, hat, hub])
      | (refine And.intro (by kernel_rfl : okOrd _ _ = true) ?_)
      | refine Both.mk ?_ ?_
      | ((with_reducible refine CallO.gd 86 ?_); first
        | refine CallO.toA Try.call86 (vrtake_s ht (by omega) _) ?_
        | refine CallO.toA Try.call86 (vrtake_s ht2 (by omega) _) ?_)
      | ((with_reducible refine CallO.gd 44 ?_); refine CallO.frA [0] Try.call44 (rdat_s d key (by omega)) ?_)
      | ((with_reducible refine CallO.gd 84 ?_); refine CallO.frA [0] Try.call84 (rdcomes_s d key h8 hws hn) ?_)
      | ((with_reducible refine CallP.gd 86 ?_); first
        | refine CallP.toA Try.call86 (vrtake_s ht (by omega) _) ?_
        | refine CallP.toA Try.call86 (vrtake_s ht2 (by omega) _) ?_)
      | (first | refine hN _ ?_ | (clear hN N; refine hN _ ?_) | (iterate 2 clear hN N); refine hN _ ?_ | (iterate 3 clear hN N); refine hN _ ?_ | (iterate 4 clear hN N); refine hN _ ?_ | (iterate 5 clear hN N); refine hN _ ?_); try clear hN N; try clear hy ops
      | (refine hA ?_; clear hA A hB B; try simp only [hz])
      | (refine hB ?_; clear hA A hB B; try simp only [hz])
      | ((first | refine guardO.mk (fun hz => ?_) (fun hz => ?_) | refine guardD.mk (fun hz => ?_) (fun hz => ?_) | refine Br.mk (fun hz => ?_) (fun hz => ?_)) <;> (have h := hz; try simp only [decide_eq_true_eq, decide_eq_false_iff_not, Int.not_lt, Int.not_le, beq_iff_eq, beq_eq_false_iff_ne, bne_iff_ne, bne_eq_false_iff_eq, ne_eq, Bool.not_eq_true', Bool.not_eq_false', Decidable.not_not] at h) <;> (try (exfalso; omega)) <;> (try simp only [Bool.not_eq_true', Bool.not_eq_false', beq_true, beq_false] at hz))
      | ((first | rw [if_pos (show _ ∧ _ from ⟨by omega, by omega⟩)] | rw [if_pos (show _ ∧ _ from by simp only [List.length_append, List.length_cons, List.length_nil]; exact ⟨by omega, by omega⟩)]); simp (config := {contextual := true, maxSteps := 1000000}) only [hy, hz, go_sem, reduceCtorEq, Nat.reduceAdd, Nat.reduceSub, Nat.reduceMul, Nat.reduceLT, Nat.reduceLeDiff, Int.reduceLT, Int.reduceLE, Int.reduceEq, Int.reduceNe, Int.reduceAdd, Int.reduceSub, Int.reduceMul, Int.reduceToNat, Int.reduceNeg, Int.reducePow, Nat.reducePow, Nat.reduceEqDiff, Nat.reduceBEq, Int.reduceBEq, Int.reduceBNe, Int.reduceNegSucc, he, hf, hwl, hgt, hp0, hw1, hget, hul, hw2, hw3, hw4, hw5, hq, hsh, hlt, hle, hat, hub])
      | (simp only [thenV, blockV, if_true, if_false, Nat.reduceEqDiff, reduceCtorEq, imp_self]))
  all_goals (first | exact retA hQ Try.results39 (Desc.re [some 0] rfl) | exact retN hQ Try.results39 (Desc.re [some 0] rfl))
set_option maxRecDepth 100000 in
set_option maxHeartbeats 4000000 in
theorem rdtake_4 (hl : b.length ≤ 1000000) (ht : tk b = (p, u, 0)) (hp : p.toNat = 0) (hwl : IntKind.u64.wrap (d.ks.length : Int) = (d.ks.length : Int)) (hul : ((u : Int) ≤ (b.length : Int)) = True) (ht2 : tk (b.drop u) = (q, v, f)) (hf : (f != 0) = true)
    (he hw1 hget hw2 hw3 hw4 hw5 hq hsh hlt hat hub : True) :
    Sp Try.prog K 39 [.ptr 0 0, .sl 1 (bs b)] [d.ob] fun x hh => x = dtV (⟨#[]⟩, 0, f) ∧ hh = [d.ob] := by
  have hle : (b.drop u).length ≤ 1000000000 := by rw [List.length_drop]; omega
  have hgt : ((d.ks.length : Int) < (p.toNat : Int)) = False := by simp; omega
  have hp0 : ((0 : Int) < (p.toNat : Int)) = False := by simp; omega
  refine Sp.of_bodyD Try.func39 rfl ?_
  intro Q hQ
  simp only [List.replicate, List.length_cons, List.length_nil, Try.ntmps39, Nat.reduceAdd, Nat.reduceSub, List.cons_append, List.nil_append, go_sem]
  have hz : True := trivial
  have hy := yieldedV_eq
  repeat' (first
      | (refine WPV.seqK ?_; intro N hN)
      | refine WPV.block ?_
      | refine WPV.scope ?_
      | refine WPV.skip ?_
      | refine WPV.label ?_
      | refine WPV.exit ?_
      | refine WPV.ret ?_
      | (refine WPV.regionG (M := noM) ?_; intro N hN ops hy; (try simp only [List.append] at hy ⊢); (try simp only [List.map_cons, List.map_nil] at hy))
      | (refine WPV.drawK (M := noM) (by kernel_rfl) (by kernel_rfl) ?_; intro N hN; have hy := yieldedV_eq)
      | (refine WPV.condK ?_; intro A hA B hB)
      | ((with_reducible first | refine opsV.here ?_ | refine guardO.here ?_ | refine resO.here ?_ | refine drawV.here ?_ | refine guardD.here ?_ | refine stepO.here ?_ | refine brO.here ?_ | refine condV.here ?_); simp (config := {contextual := true, maxSteps := 1000000}) only [hy, hz, go_sem, reduceCtorEq, Nat.reduceAdd, Nat.reduceSub, Nat.reduceMul, Nat.reduceLT, Nat.reduceLeDiff, Int.reduceLT, Int.reduceLE, Int.reduceEq, Int.reduceNe, Int.reduceAdd, Int.reduceSub, Int.reduceMul, Int.reduceToNat, Int.reduceNeg, Int.reducePow, Nat.reducePow, Nat.reduceEqDiff, Nat.reduceBEq, Int.reduceBEq, Int.reduceBNe, Int.reduceNegSucc, he, hf, hwl, hgt, hp0, hw1, hget, hul, hw2, hw3, hw4, hw5, hq, hsh, hlt, hle, hat, hub])
      | (refine And.intro (by kernel_rfl : okOrd _ _ = true) ?_)
      | refine Both.mk ?_ ?_
      | ((with_reducible refine CallO.gd 86 ?_); first
        | refine CallO.toA Try.call86 (vrtake_s ht (by omega) _) ?_
        | refine CallO.toA Try.call86 (vrtake_s ht2 (by omega) _) ?_)
      | ((with_reducible refine CallO.gd 44 ?_); refine CallO.frA [0] Try.call44 (rdat_s d key (by omega)) ?_)
      | ((with_reducible refine CallO.gd 84 ?_); refine CallO.frA [0] Try.call84 (rdcomes_s d key h8 hws hn) ?_)
      | ((with_reducible refine CallP.gd 86 ?_); first
        | refine CallP.toA Try.call86 (vrtake_s ht (by omega) _) ?_
        | refine CallP.toA Try.call86 (vrtake_s ht2 (by omega) _) ?_)
      | (first | refine hN _ ?_ | (clear hN N; refine hN _ ?_) | (iterate 2 clear hN N); refine hN _ ?_ | (iterate 3 clear hN N); refine hN _ ?_ | (iterate 4 clear hN N); refine hN _ ?_ | (iterate 5 clear hN N); refine hN _ ?_); try clear hN N; try clear hy ops
      | (refine hA ?_; clear hA A hB B; try simp only [hz])
      | (refine hB ?_; clear hA A hB B; try simp only [hz])
      | ((first | refine guardO.mk (fun hz => ?_) (fun hz => ?_) | refine guardD.mk (fun hz => ?_) (fun hz => ?_) | refine Br.mk (fun hz => ?_) (fun hz => ?_)) <;> (have h := hz; try simp only [decide_eq_true_eq, decide_eq_false_iff_not, Int.not_lt, Int.not_le, beq_iff_eq, beq_eq_false_iff_ne, bne_iff_ne, bne_eq_false_iff_eq, ne_eq, Bool.not_eq_true', Bool.not_eq_false', Decidable.not_not] at h) <;> (try (exfalso; omega)) <;> (try simp only [Bool.not_eq_true', Bool.not_eq_false', beq_true, beq_false] at hz))
      | ((first | rw [if_pos (show _ ∧ _ from ⟨by omega, by omega⟩)] | rw [if_pos (show _ ∧ _ from by simp only [List.length_append, List.length_cons, List.length_nil]; exact ⟨by omega, by omega⟩)]); simp (config := {contextual := true, maxSteps := 1000000}) only [hy, hz, go_sem, reduceCtorEq, Nat.reduceAdd, Nat.reduceSub, Nat.reduceMul, Nat.reduceLT, Nat.reduceLeDiff, Int.reduceLT, Int.reduceLE, Int.reduceEq, Int.reduceNe, Int.reduceAdd, Int.reduceSub, Int.reduceMul, Int.reduceToNat, Int.reduceNeg, Int.reducePow, Nat.reducePow, Nat.reduceEqDiff, Nat.reduceBEq, Int.reduceBEq, Int.reduceBNe, Int.reduceNegSucc, he, hf, hwl, hgt, hp0, hw1, hget, hul, hw2, hw3, hw4, hw5, hq, hsh, hlt, hle, hat, hub])
      | (simp only [thenV, blockV, if_true, if_false, Nat.reduceEqDiff, reduceCtorEq, imp_self]))
  all_goals (first | exact retA hQ Try.results39 (Desc.re [some 0] rfl) | exact retN hQ Try.results39 (Desc.re [some 0] rfl))
set_option maxRecDepth 100000 in
set_option maxHeartbeats 4000000 in
theorem rdtake_5 (hl : b.length ≤ 1000000) (ht : tk b = (p, u, 0)) (hp : p.toNat = 0) (hwl : IntKind.u64.wrap (d.ks.length : Int) = (d.ks.length : Int)) (hul : ((u : Int) ≤ (b.length : Int)) = True) (ht2 : tk (b.drop u) = (q, v, 0)) (hq : ((64 : Int) < (q.toNat : Int)) = True)
    (he hf hw1 hget hw2 hw3 hw4 hw5 hsh hlt hat hub : True) :
    Sp Try.prog K 39 [.ptr 0 0, .sl 1 (bs b)] [d.ob] fun x hh => x = dtV (⟨#[]⟩, 0, 4) ∧ hh = [d.ob] := by
  have hle : (b.drop u).length ≤ 1000000000 := by rw [List.length_drop]; omega
  have hgt : ((d.ks.length : Int) < (p.toNat : Int)) = False := by simp; omega
  have hp0 : ((0 : Int) < (p.toNat : Int)) = False := by simp; omega
  refine Sp.of_bodyD Try.func39 rfl ?_
  intro Q hQ
  simp only [List.replicate, List.length_cons, List.length_nil, Try.ntmps39, Nat.reduceAdd, Nat.reduceSub, List.cons_append, List.nil_append, go_sem]
  have hz : True := trivial
  have hy := yieldedV_eq
  repeat' (first
      | (refine WPV.seqK ?_; intro N hN)
      | refine WPV.block ?_
      | refine WPV.scope ?_
      | refine WPV.skip ?_
      | refine WPV.label ?_
      | refine WPV.exit ?_
      | refine WPV.ret ?_
      | (refine WPV.regionG (M := noM) ?_; intro N hN ops hy; (try simp only [List.append] at hy ⊢); (try simp only [List.map_cons, List.map_nil] at hy))
      | (refine WPV.drawK (M := noM) (by kernel_rfl) (by kernel_rfl) ?_; intro N hN; have hy := yieldedV_eq)
      | (refine WPV.condK ?_; intro A hA B hB)
      | ((with_reducible first | refine opsV.here ?_ | refine guardO.here ?_ | refine resO.here ?_ | refine drawV.here ?_ | refine guardD.here ?_ | refine stepO.here ?_ | refine brO.here ?_ | refine condV.here ?_); simp (config := {contextual := true, maxSteps := 1000000}) only [hy, hz, go_sem, reduceCtorEq, Nat.reduceAdd, Nat.reduceSub, Nat.reduceMul, Nat.reduceLT, Nat.reduceLeDiff, Int.reduceLT, Int.reduceLE, Int.reduceEq, Int.reduceNe, Int.reduceAdd, Int.reduceSub, Int.reduceMul, Int.reduceToNat, Int.reduceNeg, Int.reducePow, Nat.reducePow, Nat.reduceEqDiff, Nat.reduceBEq, Int.reduceBEq, Int.reduceBNe, Int.reduceNegSucc, he, hf, hwl, hgt, hp0, hw1, hget, hul, hw2, hw3, hw4, hw5, hq, hsh, hlt, hle, hat, hub])
      | (refine And.intro (by kernel_rfl : okOrd _ _ = true) ?_)
      | refine Both.mk ?_ ?_
      | ((with_reducible refine CallO.gd 86 ?_); first
        | refine CallO.toA Try.call86 (vrtake_s ht (by omega) _) ?_
        | refine CallO.toA Try.call86 (vrtake_s ht2 (by omega) _) ?_)
      | ((with_reducible refine CallO.gd 44 ?_); refine CallO.frA [0] Try.call44 (rdat_s d key (by omega)) ?_)
      | ((with_reducible refine CallO.gd 84 ?_); refine CallO.frA [0] Try.call84 (rdcomes_s d key h8 hws hn) ?_)
      | ((with_reducible refine CallP.gd 86 ?_); first
        | refine CallP.toA Try.call86 (vrtake_s ht (by omega) _) ?_
        | refine CallP.toA Try.call86 (vrtake_s ht2 (by omega) _) ?_)
      | (first | refine hN _ ?_ | (clear hN N; refine hN _ ?_) | (iterate 2 clear hN N); refine hN _ ?_ | (iterate 3 clear hN N); refine hN _ ?_ | (iterate 4 clear hN N); refine hN _ ?_ | (iterate 5 clear hN N); refine hN _ ?_); try clear hN N; try clear hy ops
      | (refine hA ?_; clear hA A hB B; try simp only [hz])
      | (refine hB ?_; clear hA A hB B; try simp only [hz])
      | ((first | refine guardO.mk (fun hz => ?_) (fun hz => ?_) | refine guardD.mk (fun hz => ?_) (fun hz => ?_) | refine Br.mk (fun hz => ?_) (fun hz => ?_)) <;> (have h := hz; try simp only [decide_eq_true_eq, decide_eq_false_iff_not, Int.not_lt, Int.not_le, beq_iff_eq, beq_eq_false_iff_ne, bne_iff_ne, bne_eq_false_iff_eq, ne_eq, Bool.not_eq_true', Bool.not_eq_false', Decidable.not_not] at h) <;> (try (exfalso; omega)) <;> (try simp only [Bool.not_eq_true', Bool.not_eq_false', beq_true, beq_false] at hz))
      | ((first | rw [if_pos (show _ ∧ _ from ⟨by omega, by omega⟩)] | rw [if_pos (show _ ∧ _ from by simp only [List.length_append, List.length_cons, List.length_nil]; exact ⟨by omega, by omega⟩)]); simp (config := {contextual := true, maxSteps := 1000000}) only [hy, hz, go_sem, reduceCtorEq, Nat.reduceAdd, Nat.reduceSub, Nat.reduceMul, Nat.reduceLT, Nat.reduceLeDiff, Int.reduceLT, Int.reduceLE, Int.reduceEq, Int.reduceNe, Int.reduceAdd, Int.reduceSub, Int.reduceMul, Int.reduceToNat, Int.reduceNeg, Int.reducePow, Nat.reducePow, Nat.reduceEqDiff, Nat.reduceBEq, Int.reduceBEq, Int.reduceBNe, Int.reduceNegSucc, he, hf, hwl, hgt, hp0, hw1, hget, hul, hw2, hw3, hw4, hw5, hq, hsh, hlt, hle, hat, hub])
      | (simp only [thenV, blockV, if_true, if_false, Nat.reduceEqDiff, reduceCtorEq, imp_self]))
  all_goals (first | exact retA hQ Try.results39 (Desc.re [some 0] rfl) | exact retN hQ Try.results39 (Desc.re [some 0] rfl))
set_option maxRecDepth 100000 in
set_option maxHeartbeats 4000000 in
theorem rdtake_6 (hl : b.length ≤ 1000000) (ht : tk b = (p, u, 0)) (hp : p.toNat = 0) (hwl : IntKind.u64.wrap (d.ks.length : Int) = (d.ks.length : Int)) (hul : ((u : Int) ≤ (b.length : Int)) = True) (ht2 : tk (b.drop u) = (q, v, 0)) (hq : ((64 : Int) < (q.toNat : Int)) = False) (hw2 : IntKind.i64.wrap ((u : Int) + (v : Int)) = ((u + v : Nat) : Int)) (hw4 : IntKind.i64.wrap (q.toNat : Int) = (q.toNat : Int))
    (hw5 : IntKind.i64.wrap (((u + v : Nat) : Int) + (q.toNat : Int)) = ((u + v + q.toNat : Nat) : Int)) (hsh : ((b.length : Int) < ((u + v + q.toNat : Nat) : Int)) = True)
    (he hf hw1 hget hw3 hlt hat hub : True) :
    Sp Try.prog K 39 [.ptr 0 0, .sl 1 (bs b)] [d.ob] fun x hh => x = dtV (⟨#[]⟩, 0, 2) ∧ hh = [d.ob] := by
  have hle : (b.drop u).length ≤ 1000000000 := by rw [List.length_drop]; omega
  have hgt : ((d.ks.length : Int) < (p.toNat : Int)) = False := by simp; omega
  have hp0 : ((0 : Int) < (p.toNat : Int)) = False := by simp; omega
  refine Sp.of_bodyD Try.func39 rfl ?_
  intro Q hQ
  simp only [List.replicate, List.length_cons, List.length_nil, Try.ntmps39, Nat.reduceAdd, Nat.reduceSub, List.cons_append, List.nil_append, go_sem]
  have hz : True := trivial
  have hy := yieldedV_eq
  repeat' (first
      | (refine WPV.seqK ?_; intro N hN)
      | refine WPV.block ?_
      | refine WPV.scope ?_
      | refine WPV.skip ?_
      | refine WPV.label ?_
      | refine WPV.exit ?_
      | refine WPV.ret ?_
      | (refine WPV.regionG (M := noM) ?_; intro N hN ops hy; (try simp only [List.append] at hy ⊢); (try simp only [List.map_cons, List.map_nil] at hy))
      | (refine WPV.drawK (M := noM) (by kernel_rfl) (by kernel_rfl) ?_; intro N hN; have hy := yieldedV_eq)
      | (refine WPV.condK ?_; intro A hA B hB)
      | ((with_reducible first | refine opsV.here ?_ | refine guardO.here ?_ | refine resO.here ?_ | refine drawV.here ?_ | refine guardD.here ?_ | refine stepO.here ?_ | refine brO.here ?_ | refine condV.here ?_); simp (config := {contextual := true, maxSteps := 1000000}) only [hy, hz, go_sem, reduceCtorEq, Nat.reduceAdd, Nat.reduceSub, Nat.reduceMul, Nat.reduceLT, Nat.reduceLeDiff, Int.reduceLT, Int.reduceLE, Int.reduceEq, Int.reduceNe, Int.reduceAdd, Int.reduceSub, Int.reduceMul, Int.reduceToNat, Int.reduceNeg, Int.reducePow, Nat.reducePow, Nat.reduceEqDiff, Nat.reduceBEq, Int.reduceBEq, Int.reduceBNe, Int.reduceNegSucc, he, hf, hwl, hgt, hp0, hw1, hget, hul, hw2, hw3, hw4, hw5, hq, hsh, hlt, hle, hat, hub])
      | (refine And.intro (by kernel_rfl : okOrd _ _ = true) ?_)
      | refine Both.mk ?_ ?_
      | ((with_reducible refine CallO.gd 86 ?_); first
        | refine CallO.toA Try.call86 (vrtake_s ht (by omega) _) ?_
        | refine CallO.toA Try.call86 (vrtake_s ht2 (by omega) _) ?_)
      | ((with_reducible refine CallO.gd 44 ?_); refine CallO.frA [0] Try.call44 (rdat_s d key (by omega)) ?_)
      | ((with_reducible refine CallO.gd 84 ?_); refine CallO.frA [0] Try.call84 (rdcomes_s d key h8 hws hn) ?_)
      | ((with_reducible refine CallP.gd 86 ?_); first
        | refine CallP.toA Try.call86 (vrtake_s ht (by omega) _) ?_
        | refine CallP.toA Try.call86 (vrtake_s ht2 (by omega) _) ?_)
      | (first | refine hN _ ?_ | (clear hN N; refine hN _ ?_) | (iterate 2 clear hN N); refine hN _ ?_ | (iterate 3 clear hN N); refine hN _ ?_ | (iterate 4 clear hN N); refine hN _ ?_ | (iterate 5 clear hN N); refine hN _ ?_); try clear hN N; try clear hy ops
      | (refine hA ?_; clear hA A hB B; try simp only [hz])
      | (refine hB ?_; clear hA A hB B; try simp only [hz])
      | ((first | refine guardO.mk (fun hz => ?_) (fun hz => ?_) | refine guardD.mk (fun hz => ?_) (fun hz => ?_) | refine Br.mk (fun hz => ?_) (fun hz => ?_)) <;> (have h := hz; try simp only [decide_eq_true_eq, decide_eq_false_iff_not, Int.not_lt, Int.not_le, beq_iff_eq, beq_eq_false_iff_ne, bne_iff_ne, bne_eq_false_iff_eq, ne_eq, Bool.not_eq_true', Bool.not_eq_false', Decidable.not_not] at h) <;> (try (exfalso; omega)) <;> (try simp only [Bool.not_eq_true', Bool.not_eq_false', beq_true, beq_false] at hz))
      | ((first | rw [if_pos (show _ ∧ _ from ⟨by omega, by omega⟩)] | rw [if_pos (show _ ∧ _ from by simp only [List.length_append, List.length_cons, List.length_nil]; exact ⟨by omega, by omega⟩)]); simp (config := {contextual := true, maxSteps := 1000000}) only [hy, hz, go_sem, reduceCtorEq, Nat.reduceAdd, Nat.reduceSub, Nat.reduceMul, Nat.reduceLT, Nat.reduceLeDiff, Int.reduceLT, Int.reduceLE, Int.reduceEq, Int.reduceNe, Int.reduceAdd, Int.reduceSub, Int.reduceMul, Int.reduceToNat, Int.reduceNeg, Int.reducePow, Nat.reducePow, Nat.reduceEqDiff, Nat.reduceBEq, Int.reduceBEq, Int.reduceBNe, Int.reduceNegSucc, he, hf, hwl, hgt, hp0, hw1, hget, hul, hw2, hw3, hw4, hw5, hq, hsh, hlt, hle, hat, hub])
      | (simp only [thenV, blockV, if_true, if_false, Nat.reduceEqDiff, reduceCtorEq, imp_self]))
  all_goals (first | exact retA hQ Try.results39 (Desc.re [some 0] rfl) | exact retN hQ Try.results39 (Desc.re [some 0] rfl))
set_option maxRecDepth 100000 in
set_option maxHeartbeats 4000000 in
theorem rdtake_7 {key : ByteArray} (h8 : d.ks.length ≤ 8) (hws : d.ws.length = d.ks.length) (hn : 0 ≤ d.now ∧ d.now ≤ 1000000) (hl : b.length ≤ 1000000) (ht : tk b = (p, u, 0)) (hp : p.toNat = 0) (hwl : IntKind.u64.wrap (d.ks.length : Int) = (d.ks.length : Int)) (hul : ((u : Int) ≤ (b.length : Int)) = True) (ht2 : tk (b.drop u) = (q, v, 0)) (hq : ((64 : Int) < (q.toNat : Int)) = False) (hw2 : IntKind.i64.wrap ((u : Int) + (v : Int)) = ((u + v : Nat) : Int)) (hw4 : IntKind.i64.wrap (q.toNat : Int) = (q.toNat : Int))
    (hw5 : IntKind.i64.wrap (((u + v : Nat) : Int) + (q.toNat : Int)) = ((u + v + q.toNat : Nat) : Int)) (hsh : ((b.length : Int) < ((u + v + q.toNat : Nat) : Int)) = False) (hub : (((u + v : Nat) : Int) ≤ ((u + v + q.toNat : Nat) : Int)) = True) (hlt : (((u + v + q.toNat : Nat) : Int) ≤ (b.length : Int)) = True) (hw1 : (⟨((b.take (u + v + q.toNat)).drop (u + v)).toArray⟩ : ByteArray) = key) (hat : (0 ≤ d.at_ key) = True)
    (he hf hw3 : True) :
    Sp Try.prog K 39 [.ptr 0 0, .sl 1 (bs b)] [d.ob] fun x hh => x = dtV (⟨#[]⟩, 0, 3) ∧ hh = [d.ob] := by
  have hle : (b.drop u).length ≤ 1000000000 := by rw [List.length_drop]; omega
  have hgt : ((d.ks.length : Int) < (p.toNat : Int)) = False := by simp; omega
  have hp0 : ((0 : Int) < (p.toNat : Int)) = False := by simp; omega
  have hget := bs_unbs
  refine Sp.of_bodyD Try.func39 rfl ?_
  intro Q hQ
  simp only [List.replicate, List.length_cons, List.length_nil, Try.ntmps39, Nat.reduceAdd, Nat.reduceSub, List.cons_append, List.nil_append, go_sem]
  have hz : True := trivial
  have hy := yieldedV_eq
  repeat' (first
      | (refine WPV.seqK ?_; intro N hN)
      | refine WPV.block ?_
      | refine WPV.scope ?_
      | refine WPV.skip ?_
      | refine WPV.label ?_
      | refine WPV.exit ?_
      | refine WPV.ret ?_
      | (refine WPV.regionG (M := noM) ?_; intro N hN ops hy; (try simp only [List.append] at hy ⊢); (try simp only [List.map_cons, List.map_nil] at hy))
      | (refine WPV.drawK (M := noM) (by kernel_rfl) (by kernel_rfl) ?_; intro N hN; have hy := yieldedV_eq)
      | (refine WPV.condK ?_; intro A hA B hB)
      | ((with_reducible first | refine opsV.here ?_ | refine guardO.here ?_ | refine resO.here ?_ | refine drawV.here ?_ | refine guardD.here ?_ | refine stepO.here ?_ | refine brO.here ?_ | refine condV.here ?_); simp (config := {contextual := true, maxSteps := 1000000}) only [hy, hz, go_sem, reduceCtorEq, Nat.reduceAdd, Nat.reduceSub, Nat.reduceMul, Nat.reduceLT, Nat.reduceLeDiff, Int.reduceLT, Int.reduceLE, Int.reduceEq, Int.reduceNe, Int.reduceAdd, Int.reduceSub, Int.reduceMul, Int.reduceToNat, Int.reduceNeg, Int.reducePow, Nat.reducePow, Nat.reduceEqDiff, Nat.reduceBEq, Int.reduceBEq, Int.reduceBNe, Int.reduceNegSucc, he, hf, hwl, hgt, hp0, hw1, hget, hul, hw2, hw3, hw4, hw5, hq, hsh, hlt, hle, hat, hub])
      | (refine And.intro (by kernel_rfl : okOrd _ _ = true) ?_)
      | refine Both.mk ?_ ?_
      | ((with_reducible refine CallO.gd 86 ?_); first
        | refine CallO.toA Try.call86 (vrtake_s ht (by omega) _) ?_
        | refine CallO.toA Try.call86 (vrtake_s ht2 (by omega) _) ?_)
      | ((with_reducible refine CallO.gd 44 ?_); refine CallO.frA [0] Try.call44 (rdat_s d key (by omega)) ?_)
      | ((with_reducible refine CallO.gd 84 ?_); refine CallO.frA [0] Try.call84 (rdcomes_s d key h8 hws hn) ?_)
      | ((with_reducible refine CallP.gd 86 ?_); first
        | refine CallP.toA Try.call86 (vrtake_s ht (by omega) _) ?_
        | refine CallP.toA Try.call86 (vrtake_s ht2 (by omega) _) ?_)
      | (first | refine hN _ ?_ | (clear hN N; refine hN _ ?_) | (iterate 2 clear hN N); refine hN _ ?_ | (iterate 3 clear hN N); refine hN _ ?_ | (iterate 4 clear hN N); refine hN _ ?_ | (iterate 5 clear hN N); refine hN _ ?_); try clear hN N; try clear hy ops
      | (refine hA ?_; clear hA A hB B; try simp only [hz])
      | (refine hB ?_; clear hA A hB B; try simp only [hz])
      | ((first | refine guardO.mk (fun hz => ?_) (fun hz => ?_) | refine guardD.mk (fun hz => ?_) (fun hz => ?_) | refine Br.mk (fun hz => ?_) (fun hz => ?_)) <;> (have h := hz; try simp only [decide_eq_true_eq, decide_eq_false_iff_not, Int.not_lt, Int.not_le, beq_iff_eq, beq_eq_false_iff_ne, bne_iff_ne, bne_eq_false_iff_eq, ne_eq, Bool.not_eq_true', Bool.not_eq_false', Decidable.not_not] at h) <;> (try (exfalso; omega)) <;> (try simp only [Bool.not_eq_true', Bool.not_eq_false', beq_true, beq_false] at hz))
      | ((first | rw [if_pos (show _ ∧ _ from ⟨by omega, by omega⟩)] | rw [if_pos (show _ ∧ _ from by simp only [List.length_append, List.length_cons, List.length_nil]; exact ⟨by omega, by omega⟩)]); simp (config := {contextual := true, maxSteps := 1000000}) only [hy, hz, go_sem, reduceCtorEq, Nat.reduceAdd, Nat.reduceSub, Nat.reduceMul, Nat.reduceLT, Nat.reduceLeDiff, Int.reduceLT, Int.reduceLE, Int.reduceEq, Int.reduceNe, Int.reduceAdd, Int.reduceSub, Int.reduceMul, Int.reduceToNat, Int.reduceNeg, Int.reducePow, Nat.reducePow, Nat.reduceEqDiff, Nat.reduceBEq, Int.reduceBEq, Int.reduceBNe, Int.reduceNegSucc, he, hf, hwl, hgt, hp0, hw1, hget, hul, hw2, hw3, hw4, hw5, hq, hsh, hlt, hle, hat, hub])
      | (simp only [thenV, blockV, if_true, if_false, Nat.reduceEqDiff, reduceCtorEq, imp_self]))
  all_goals (first | exact retA hQ Try.results39 (Desc.re [some 0] rfl) | exact retN hQ Try.results39 (Desc.re [some 0] rfl))
set_option maxRecDepth 100000 in
set_option maxHeartbeats 4000000 in
theorem rdtake_8 {key : ByteArray} (h8 : d.ks.length ≤ 8) (hws : d.ws.length = d.ks.length) (hn : 0 ≤ d.now ∧ d.now ≤ 1000000) (hl : b.length ≤ 1000000) (ht : tk b = (p, u, 0)) (hp : p.toNat = 0) (hwl : IntKind.u64.wrap (d.ks.length : Int) = (d.ks.length : Int)) (hul : ((u : Int) ≤ (b.length : Int)) = True) (ht2 : tk (b.drop u) = (q, v, 0)) (hq : ((64 : Int) < (q.toNat : Int)) = False) (hw2 : IntKind.i64.wrap ((u : Int) + (v : Int)) = ((u + v : Nat) : Int)) (hw4 : IntKind.i64.wrap (q.toNat : Int) = (q.toNat : Int))
    (hw5 : IntKind.i64.wrap (((u + v : Nat) : Int) + (q.toNat : Int)) = ((u + v + q.toNat : Nat) : Int)) (hsh : ((b.length : Int) < ((u + v + q.toNat : Nat) : Int)) = False) (hub : (((u + v : Nat) : Int) ≤ ((u + v + q.toNat : Nat) : Int)) = True) (hlt : (((u + v + q.toNat : Nat) : Int) ≤ (b.length : Int)) = True) (hw1 : (⟨((b.take (u + v + q.toNat)).drop (u + v)).toArray⟩ : ByteArray) = key) (hat : (0 ≤ d.at_ key) = False)
    (he hf hw3 : True) :
    Sp Try.prog K 39 [.ptr 0 0, .sl 1 (bs b)] [d.ob] fun x hh => x = dtV (key, (u + v + q.toNat : Nat), 0) ∧ hh = [(d.comes key).ob] := by
  have hle : (b.drop u).length ≤ 1000000000 := by rw [List.length_drop]; omega
  have hgt : ((d.ks.length : Int) < (p.toNat : Int)) = False := by simp; omega
  have hp0 : ((0 : Int) < (p.toNat : Int)) = False := by simp; omega
  have hget := bs_unbs
  refine Sp.of_bodyD Try.func39 rfl ?_
  intro Q hQ
  simp only [List.replicate, List.length_cons, List.length_nil, Try.ntmps39, Nat.reduceAdd, Nat.reduceSub, List.cons_append, List.nil_append, go_sem]
  have hz : True := trivial
  have hy := yieldedV_eq
  repeat' (first
      | (refine WPV.seqK ?_; intro N hN)
      | refine WPV.block ?_
      | refine WPV.scope ?_
      | refine WPV.skip ?_
      | refine WPV.label ?_
      | refine WPV.exit ?_
      | refine WPV.ret ?_
      | (refine WPV.regionG (M := noM) ?_; intro N hN ops hy; (try simp only [List.append] at hy ⊢); (try simp only [List.map_cons, List.map_nil] at hy))
      | (refine WPV.drawK (M := noM) (by kernel_rfl) (by kernel_rfl) ?_; intro N hN; have hy := yieldedV_eq)
      | (refine WPV.condK ?_; intro A hA B hB)
      | ((with_reducible first | refine opsV.here ?_ | refine guardO.here ?_ | refine resO.here ?_ | refine drawV.here ?_ | refine guardD.here ?_ | refine stepO.here ?_ | refine brO.here ?_ | refine condV.here ?_); simp (config := {contextual := true, maxSteps := 1000000}) only [hy, hz, go_sem, reduceCtorEq, Nat.reduceAdd, Nat.reduceSub, Nat.reduceMul, Nat.reduceLT, Nat.reduceLeDiff, Int.reduceLT, Int.reduceLE, Int.reduceEq, Int.reduceNe, Int.reduceAdd, Int.reduceSub, Int.reduceMul, Int.reduceToNat, Int.reduceNeg, Int.reducePow, Nat.reducePow, Nat.reduceEqDiff, Nat.reduceBEq, Int.reduceBEq, Int.reduceBNe, Int.reduceNegSucc, he, hf, hwl, hgt, hp0, hw1, hget, hul, hw2, hw3, hw4, hw5, hq, hsh, hlt, hle, hat, hub])
      | (refine And.intro (by kernel_rfl : okOrd _ _ = true) ?_)
      | refine Both.mk ?_ ?_
      | ((with_reducible refine CallO.gd 86 ?_); first
        | refine CallO.toA Try.call86 (vrtake_s ht (by omega) _) ?_
        | refine CallO.toA Try.call86 (vrtake_s ht2 (by omega) _) ?_)
      | ((with_reducible refine CallO.gd 44 ?_); refine CallO.frA [0] Try.call44 (rdat_s d key (by omega)) ?_)
      | ((with_reducible refine CallO.gd 84 ?_); refine CallO.frA [0] Try.call84 (rdcomes_s d key h8 hws hn) ?_)
      | ((with_reducible refine CallP.gd 86 ?_); first
        | refine CallP.toA Try.call86 (vrtake_s ht (by omega) _) ?_
        | refine CallP.toA Try.call86 (vrtake_s ht2 (by omega) _) ?_)
      | (first | refine hN _ ?_ | (clear hN N; refine hN _ ?_) | (iterate 2 clear hN N); refine hN _ ?_ | (iterate 3 clear hN N); refine hN _ ?_ | (iterate 4 clear hN N); refine hN _ ?_ | (iterate 5 clear hN N); refine hN _ ?_); try clear hN N; try clear hy ops
      | (refine hA ?_; clear hA A hB B; try simp only [hz])
      | (refine hB ?_; clear hA A hB B; try simp only [hz])
      | ((first | refine guardO.mk (fun hz => ?_) (fun hz => ?_) | refine guardD.mk (fun hz => ?_) (fun hz => ?_) | refine Br.mk (fun hz => ?_) (fun hz => ?_)) <;> (have h := hz; try simp only [decide_eq_true_eq, decide_eq_false_iff_not, Int.not_lt, Int.not_le, beq_iff_eq, beq_eq_false_iff_ne, bne_iff_ne, bne_eq_false_iff_eq, ne_eq, Bool.not_eq_true', Bool.not_eq_false', Decidable.not_not] at h) <;> (try (exfalso; omega)) <;> (try simp only [Bool.not_eq_true', Bool.not_eq_false', beq_true, beq_false] at hz))
      | ((first | rw [if_pos (show _ ∧ _ from ⟨by omega, by omega⟩)] | rw [if_pos (show _ ∧ _ from by simp only [List.length_append, List.length_cons, List.length_nil]; exact ⟨by omega, by omega⟩)]); simp (config := {contextual := true, maxSteps := 1000000}) only [hy, hz, go_sem, reduceCtorEq, Nat.reduceAdd, Nat.reduceSub, Nat.reduceMul, Nat.reduceLT, Nat.reduceLeDiff, Int.reduceLT, Int.reduceLE, Int.reduceEq, Int.reduceNe, Int.reduceAdd, Int.reduceSub, Int.reduceMul, Int.reduceToNat, Int.reduceNeg, Int.reducePow, Nat.reducePow, Nat.reduceEqDiff, Nat.reduceBEq, Int.reduceBEq, Int.reduceBNe, Int.reduceNegSucc, he, hf, hwl, hgt, hp0, hw1, hget, hul, hw2, hw3, hw4, hw5, hq, hsh, hlt, hle, hat, hub])
      | (simp only [thenV, blockV, if_true, if_false, Nat.reduceEqDiff, reduceCtorEq, imp_self]))
  all_goals (first | exact retA hQ Try.results39 (Desc.re [some 0] rfl) | exact retN hQ Try.results39 (Desc.re [some 0] rfl))
end

set_option maxRecDepth 100000 in
theorem rdtake_s (d : Rdi) (b : List UInt8) (hl : b.length ≤ 1000000) (h8 : d.ks.length ≤ 8) (hws : d.ws.length = d.ks.length) (hn : 0 ≤ d.now ∧ d.now ≤ 1000000) : Sp Try.prog K 39 [.ptr 0 0, .sl 1 (bs b)] [d.ob] fun x hh => x = dtV (d.take b).1 ∧ hh = [(d.take b).2.ob] := by
  obtain ⟨p, u, e, ht⟩ : ∃ p u e, tk b = (p, u, e) := ⟨_, _, _, rfl⟩
  have T := True.intro
  unfold Rdi.take dkOf
  simp only [ht]
  by_cases he : e = 0
  · subst he
    have hu : u ≤ b.length := by have := dkOf_lt (b := b) (by rw [ht]); rwa [ht] at this
    have hwl : IntKind.u64.wrap (d.ks.length : Int) = (d.ks.length : Int) := wr_u64 (by omega) (by omega)
    simp only [ne_eq, not_true_eq_false, if_false]
    by_cases hp : p.toNat = 0
    · obtain ⟨q, v, f, ht2⟩ : ∃ q v f, tk (b.drop u) = (q, v, f) := ⟨_, _, _, rfl⟩
      simp only [hp, not_true_eq_false, if_false, ht2]
      have hul : ((u : Int) ≤ (b.length : Int)) = True := by simp; exact hu
      by_cases hf : f = 0
      · subst hf
        have hv : u + v ≤ b.length := by
          have := dkOf_lt (b := b.drop u) (by rw [ht2])
          rw [ht2, List.length_drop] at this
          have this : v ≤ b.length - u := this
          omega
        have hw2 : IntKind.i64.wrap ((u : Int) + (v : Int)) = ((u + v : Nat) : Int) := by rw [wr_i64 (by omega) (by omega)]; omega
        simp only [not_true_eq_false, if_false]
        by_cases hq : 64 < q.toNat
        · rw [if_pos hq]
          exact rdtake_5 hl ht hp hwl hul ht2 (by simp; omega) T T T T T T T T T T T T
        · rw [if_neg hq]
          have hw4 : IntKind.i64.wrap (q.toNat : Int) = (q.toNat : Int) := wr_i64 (by omega) (by omega)
          have hw5 : IntKind.i64.wrap (((u + v : Nat) : Int) + (q.toNat : Int)) = ((u + v + q.toNat : Nat) : Int) := by rw [wr_i64 (by omega) (by omega)]; omega
          by_cases hsh : b.length < u + v + q.toNat
          · rw [if_pos hsh]
            exact rdtake_6 hl ht hp hwl hul ht2 (by simp; omega) hw2 hw4 hw5 (by simp; omega) T T T T T T T T
          · rw [if_neg hsh]
            have hk : (⟨((b.take (u + v + q.toNat)).drop (u + v)).toArray⟩ : ByteArray) = dkText b (u + v) q.toNat := by
              unfold dkText
              rw [List.drop_take, show u + v + q.toNat - (u + v) = q.toNat by omega]
            simp only []
            by_cases hat : 0 ≤ d.at_ (dkText b (u + v) q.toNat)
            · rw [if_pos hat]
              exact rdtake_7 h8 hws hn hl ht hp hwl hul ht2 (by simp; omega) hw2 hw4 hw5 (by simp; omega) (by simp; omega) (by simp; omega) hk (eq_true hat) T T T
            · rw [if_neg hat]
              exact rdtake_8 h8 hws hn hl ht hp hwl hul ht2 (by simp; omega) hw2 hw4 hw5 (by simp; omega) (by simp; omega) (by simp; omega) hk (eq_false hat) T T T
      · rw [if_pos hf]
        exact rdtake_4 hl ht hp hwl hul ht2 (by simp; exact hf) T T T T T T T T T T T T
    · rw [if_pos hp]
      simp only []
      by_cases hlt : d.ks.length < p.toNat
      · rw [if_pos hlt]
        exact rdtake_2 hl ht hwl (by simp; omega) (by simp; omega) T T T T T T T T T T T T T T T T
      · rw [if_neg hlt]
        exact rdtake_3 (i := p.toNat - 1) hl ht hwl (by simp; omega) (by simp; omega) (wr_i64 (by omega) (by omega)) (by rw [wr_i64 (by omega) (by omega)]; omega) (by simp; omega) (by rw [List.getD_eq_getElem?_getD, List.getElem?_eq_getElem (by omega)]; rfl) T T T T T T T T T T T T
  · rw [if_pos he]
    exact rdtake_1 hl ht (by simp; exact he) T T T T T T T T T T T T T T T T T T
end Go.Proofs.Ytonllhjmoenckaa
