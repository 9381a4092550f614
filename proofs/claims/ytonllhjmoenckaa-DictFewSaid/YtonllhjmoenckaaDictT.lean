/- Walks: a dictionary's Take. -/
import Derived.Test.YtonllhjmoenckaaDictP
namespace Go.Proofs.Ytonllhjmoenckaa
open Go Go.RowKit
set_option linter.unusedVariables false
set_option linter.unusedSimpArgs false
variable {K : Nat → Obj → Prop}

/-- What bytes tell: an error; a place; a text. -/
inductive Dk where
  | err (e : Int)
  | place (p u : Nat)
  | text (s : ByteArray) (u : Nat)
def dkText (b : List UInt8) (at_ n : Nat) : ByteArray := ⟨((b.drop at_).take n).toArray⟩
def dkOf (b : List UInt8) : Dk :=
  if (tk b).2.2 ≠ 0 then .err (tk b).2.2
  else if (tk b).1.toNat ≠ 0 then .place (tk b).1.toNat (tk b).2.1
  else if (tk (b.drop (tk b).2.1)).2.2 ≠ 0 then .err (tk (b.drop (tk b).2.1)).2.2
  else if 64 < (tk (b.drop (tk b).2.1)).1.toNat then .err 4
  else if b.length < (tk b).2.1 + (tk (b.drop (tk b).2.1)).2.1 + (tk (b.drop (tk b).2.1)).1.toNat then .err 2
  else .text (dkText b ((tk b).2.1 + (tk (b.drop (tk b).2.1)).2.1) (tk (b.drop (tk b).2.1)).1.toNat) ((tk b).2.1 + (tk (b.drop (tk b).2.1)).2.1 + (tk (b.drop (tk b).2.1)).1.toNat)
abbrev Tk := ByteArray × Int × Int
def Di.take (d : Di) (b : List UInt8) : Tk × Di := match dkOf b with
  | .err e => ((⟨#[]⟩, 0, e), d)
  | .place p u => if d.ks.length < p then ((⟨#[]⟩, 0, 9), d) else ((d.ks.getD (p - 1) ⟨#[]⟩, u, 0), d)
  | .text s u => if 0 ≤ d.at_ s then ((⟨#[]⟩, 0, 3), d) else ((s, u, 0), d.comes s)
abbrev dtV (r : Tk) : V := .tup [.sc (.string r.1), .sc (.int .i64 r.2.1), .sc (.int .i64 r.2.2)]

section
variable {d : Di} {b : List UInt8} {p q : UInt64} {u v : Nat} {e f : Int} {h' : List Ho}
set_option maxRecDepth 100000 in
set_option maxHeartbeats 4000000 in
theorem dtake_1 (hl : b.length ≤ 1000000) (ht : tk b = (p, u, e)) (he : (e != 0) = true) (ht2 hf hwl hgt hp0 hw1 hget hul hw2 hw3 hw4 hw5 hq hsh hlt hle hat hub : True) :
    Sp Try.prog K 38 [.ptr 0 0, .sl 1 (bs b)] d.inn fun x hh => x = dtV (⟨#[]⟩, 0, e) ∧ hh = d.out := by
  refine Sp.of_bodyD Try.func38 rfl ?_
  intro Q hQ
  simp only [List.replicate, List.length_cons, List.length_nil, Try.ntmps38, Nat.reduceAdd, Nat.reduceSub, List.cons_append, List.nil_append, go_sem]
  have hz : True := trivial
  have hy := yieldedV_eq
  repeat' (first
      | (refine WPV.seqK ?_; intro N hN)
      | refine WPV.block ?_
      | refine WPV.scope ?_
      | refine WPV.skip ?_
      | refine WPV.label ?_
      | refine WPV.exit ?_
      | refine WPV.ret ?_
      | (refine WPV.regionG (M := noM) ?_; intro N hN ops hy; (try simp only [List.append] at hy ⊢); (try simp only [List.map_cons, List.map_nil] at hy))
      | (refine WPV.drawK (M := noM) (by kernel_rfl) (by kernel_rfl) ?_; intro N hN; have hy := yieldedV_eq)
      | (refine WPV.condK ?_; intro A hA B hB)
      | ((with_reducible first | refine opsV.here ?_ | refine guardO.here ?_ | refine resO.here ?_ | refine drawV.here ?_ | refine guardD.here ?_ | refine stepO.here ?_ | refine brO.here ?_ | refine condV.here ?_); simp (config := {contextual := true, maxSteps := 1000000}) only [hy, hz, go_sem, reduceCtorEq, Nat.reduceAdd, Nat.reduceSub, Nat.reduceMul, Nat.reduceLT, Nat.reduceLeDiff, Int.reduceLT, Int.reduceLE, Int.reduceEq, Int.reduceNe, Int.reduceAdd, Int.reduceSub, Int.reduceMul, Int.reduceToNat, Int.reduceNeg, Int.reducePow, Nat.reducePow, Nat.reduceEqDiff, Nat.reduceBEq, Int.reduceBEq, Int.reduceBNe, Int.reduceNegSucc, he, hf, hwl, hgt, hp0, hw1, hget, hul, hw2, hw3, hw4, hw5, hq, hsh, hlt, hle, hat, hub])
      | (refine And.intro (by kernel_rfl : okOrd _ _ = true) ?_)
      | refine Both.mk ?_ ?_
      | ((with_reducible refine CallO.gd 85 ?_); first
        | refine CallO.toA Try.call85 (vtake_s ht (by omega) _) ?_
        | refine CallO.toA Try.call85 (vtake_s ht2 (by omega) _) ?_)
      | ((with_reducible refine CallO.gd 43 ?_); refine CallO.frA [0, 1, 2] Try.call43 (dat_s d key) ?_)
      | ((with_reducible refine CallO.gd 81 ?_); refine CallO.frA [0, 1, 2] Try.call81 (dcomes_s d key hs h8 h9) ?_)
      | ((with_reducible refine CallP.gd 85 ?_); first
        | refine CallP.toA Try.call85 (vtake_s ht (by omega) _) ?_
        | refine CallP.toA Try.call85 (vtake_s ht2 (by omega) _) ?_)
      | (first | refine hN _ ?_ | (clear hN N; refine hN _ ?_) | (iterate 2 clear hN N); refine hN _ ?_ | (iterate 3 clear hN N); refine hN _ ?_ | (iterate 4 clear hN N); refine hN _ ?_ | (iterate 5 clear hN N); refine hN _ ?_); try clear hN N; try clear hy ops
      | (refine hA ?_; clear hA A hB B; try simp only [hz])
      | (refine hB ?_; clear hA A hB B; try simp only [hz])
      | ((first | refine guardO.mk (fun hz => ?_) (fun hz => ?_) | refine guardD.mk (fun hz => ?_) (fun hz => ?_) | refine Br.mk (fun hz => ?_) (fun hz => ?_)) <;> (have h := hz; try simp only [decide_eq_true_eq, decide_eq_false_iff_not, Int.not_lt, Int.not_le, beq_iff_eq, beq_eq_false_iff_ne, bne_iff_ne, bne_eq_false_iff_eq, ne_eq, Bool.not_eq_true', Bool.not_eq_false', Decidable.not_not] at h) <;> (try (exfalso; omega)) <;> (try simp only [Bool.not_eq_true', Bool.not_eq_false', beq_true, beq_false] at hz))
      | ((first | rw [if_pos (show _ ∧ _ from ⟨by omega, by omega⟩)] | rw [if_pos (show _ ∧ _ from by simp only [List.length_append, List.length_cons, List.length_nil]; exact ⟨by omega, by omega⟩)]); simp (config := {contextual := true, maxSteps := 1000000}) only [hy, hz, go_sem, reduceCtorEq, Nat.reduceAdd, Nat.reduceSub, Nat.reduceMul, Nat.reduceLT, Nat.reduceLeDiff, Int.reduceLT, Int.reduceLE, Int.reduceEq, Int.reduceNe, Int.reduceAdd, Int.reduceSub, Int.reduceMul, Int.reduceToNat, Int.reduceNeg, Int.reducePow, Nat.reducePow, Nat.reduceEqDiff, Nat.reduceBEq, Int.reduceBEq, Int.reduceBNe, Int.reduceNegSucc, he, hf, hwl, hgt, hp0, hw1, hget, hul, hw2, hw3, hw4, hw5, hq, hsh, hlt, hle, hat, hub])
      | (simp only [thenV, blockV, if_true, if_false, Nat.reduceEqDiff, reduceCtorEq, imp_self]))
  all_goals (first | exact retA hQ Try.results38 (Desc.re [some 0, none, none, some 1, some 2] rfl) | exact retN hQ Try.results38 (Desc.re [some 0, none, none, some 1, some 2] rfl))
set_option maxRecDepth 100000 in
set_option maxHeartbeats 4000000 in
theorem dtake_2 (hl : b.length ≤ 1000000) (ht : tk b = (p, u, 0)) (hwl : IntKind.u64.wrap (d.ks.length : Int) = (d.ks.length : Int)) (hgt : ((d.ks.length : Int) < (p.toNat : Int)) = True) (ht2 he hf hp0 hw1 hget hul hw2 hw3 hw4 hw5 hq hsh hlt hle hat hub : True) :
    Sp Try.prog K 38 [.ptr 0 0, .sl 1 (bs b)] d.inn fun x hh => x = dtV (⟨#[]⟩, 0, 9) ∧ hh = d.out := by
  refine Sp.of_bodyD Try.func38 rfl ?_
  intro Q hQ
  simp only [List.replicate, List.length_cons, List.length_nil, Try.ntmps38, Nat.reduceAdd, Nat.reduceSub, List.cons_append, List.nil_append, go_sem]
  have hz : True := trivial
  have hy := yieldedV_eq
  repeat' (first
      | (refine WPV.seqK ?_; intro N hN)
      | refine WPV.block ?_
      | refine WPV.scope ?_
      | refine WPV.skip ?_
      | refine WPV.label ?_
      | refine WPV.exit ?_
      | refine WPV.ret ?_
      | (refine WPV.regionG (M := noM) ?_; intro N hN ops hy; (try simp only [List.append] at hy ⊢); (try simp only [List.map_cons, List.map_nil] at hy))
      | (refine WPV.drawK (M := noM) (by kernel_rfl) (by kernel_rfl) ?_; intro N hN; have hy := yieldedV_eq)
      | (refine WPV.condK ?_; intro A hA B hB)
      | ((with_reducible first | refine opsV.here ?_ | refine guardO.here ?_ | refine resO.here ?_ | refine drawV.here ?_ | refine guardD.here ?_ | refine stepO.here ?_ | refine brO.here ?_ | refine condV.here ?_); simp (config := {contextual := true, maxSteps := 1000000}) only [hy, hz, go_sem, reduceCtorEq, Nat.reduceAdd, Nat.reduceSub, Nat.reduceMul, Nat.reduceLT, Nat.reduceLeDiff, Int.reduceLT, Int.reduceLE, Int.reduceEq, Int.reduceNe, Int.reduceAdd, Int.reduceSub, Int.reduceMul, Int.reduceToNat, Int.reduceNeg, Int.reducePow, Nat.reducePow, Nat.reduceEqDiff, Nat.reduceBEq, Int.reduceBEq, Int.reduceBNe, Int.reduceNegSucc, he, hf, hwl, hgt, hp0, hw1, hget, hul, hw2, hw3, hw4, hw5, hq, hsh, hlt, hle, hat, hub])
      | (refine And.intro (by kernel_rfl : okOrd _ _ = true) ?_)
      | refine Both.mk ?_ ?_
      | ((with_reducible refine CallO.gd 85 ?_); first
        | refine CallO.toA Try.call85 (vtake_s ht (by omega) _) ?_
        | refine CallO.toA Try.call85 (vtake_s ht2 (by omega) _) ?_)
      | ((with_reducible refine CallO.gd 43 ?_); refine CallO.frA [0, 1, 2] Try.call43 (dat_s d key) ?_)
      | ((with_reducible refine CallO.gd 81 ?_); refine CallO.frA [0, 1, 2] Try.call81 (dcomes_s d key hs h8 h9) ?_)
      | ((with_reducible refine CallP.gd 85 ?_); first
        | refine CallP.toA Try.call85 (vtake_s ht (by omega) _) ?_
        | refine CallP.toA Try.call85 (vtake_s ht2 (by omega) _) ?_)
      | (first | refine hN _ ?_ | (clear hN N; refine hN _ ?_) | (iterate 2 clear hN N); refine hN _ ?_ | (iterate 3 clear hN N); refine hN _ ?_ | (iterate 4 clear hN N); refine hN _ ?_ | (iterate 5 clear hN N); refine hN _ ?_); try clear hN N; try clear hy ops
      | (refine hA ?_; clear hA A hB B; try simp only [hz])
      | (refine hB ?_; clear hA A hB B; try simp only [hz])
      | ((first | refine guardO.mk (fun hz => ?_) (fun hz => ?_) | refine guardD.mk (fun hz => ?_) (fun hz => ?_) | refine Br.mk (fun hz => ?_) (fun hz => ?_)) <;> (have h := hz; try simp only [decide_eq_true_eq, decide_eq_false_iff_not, Int.not_lt, Int.not_le, beq_iff_eq, beq_eq_false_iff_ne, bne_iff_ne, bne_eq_false_iff_eq, ne_eq, Bool.not_eq_true', Bool.not_eq_false', Decidable.not_not] at h) <;> (try (exfalso; omega)) <;> (try simp only [Bool.not_eq_true', Bool.not_eq_false', beq_true, beq_false] at hz))
      | ((first | rw [if_pos (show _ ∧ _ from ⟨by omega, by omega⟩)] | rw [if_pos (show _ ∧ _ from by simp only [List.length_append, List.length_cons, List.length_nil]; exact ⟨by omega, by omega⟩)]); simp (config := {contextual := true, maxSteps := 1000000}) only [hy, hz, go_sem, reduceCtorEq, Nat.reduceAdd, Nat.reduceSub, Nat.reduceMul, Nat.reduceLT, Nat.reduceLeDiff, Int.reduceLT, Int.reduceLE, Int.reduceEq, Int.reduceNe, Int.reduceAdd, Int.reduceSub, Int.reduceMul, Int.reduceToNat, Int.reduceNeg, Int.reducePow, Nat.reducePow, Nat.reduceEqDiff, Nat.reduceBEq, Int.reduceBEq, Int.reduceBNe, Int.reduceNegSucc, he, hf, hwl, hgt, hp0, hw1, hget, hul, hw2, hw3, hw4, hw5, hq, hsh, hlt, hle, hat, hub])
      | (simp only [thenV, blockV, if_true, if_false, Nat.reduceEqDiff, reduceCtorEq, imp_self]))
  all_goals (first | exact retA hQ Try.results38 (Desc.re [some 0, none, none, some 1, some 2] rfl) | exact retN hQ Try.results38 (Desc.re [some 0, none, none, some 1, some 2] rfl))
set_option maxRecDepth 100000 in
set_option maxHeartbeats 4000000 in
theorem dtake_3 {key : ByteArray} {i : Nat} (hl : b.length ≤ 1000000) (ht : tk b = (p, u, 0)) (hwl : IntKind.u64.wrap (d.ks.length : Int) = (d.ks.length : Int)) (hgt : ((d.ks.length : Int) < (p.toNat : Int)) = False) (hp0 : ((0 : Int) < (p.toNat : Int)) = True) (hw1 : IntKind.u64.wrap ((p.toNat : Int) - 1) = (i : Int)) (hlt : ((i : Int) < (d.ks.length : Int)) = True) (hget : d.ks[i]? = some key)
    (ht2 he hf hul hw2 hw3 hw4 hw5 hq hsh hle hat hub : True) :
    Sp Try.prog K 38 [.ptr 0 0, .sl 1 (bs b)] d.inn fun x hh => x = dtV (key, u, 0) ∧ hh = d.out := by
  refine Sp.of_bodyD Try.func38 rfl ?_
  intro Q hQ
  simp only [List.replicate, List.length_cons, List.length_nil, Try.ntmps38, Nat.reduceAdd, Nat.reduceSub, List.cons_append, List.nil_append, go_sem]
  have hz : True := trivial
  have hy := yieldedV_eq
  repeat' (first
      | (refine WPV.seqK ?_; intro N hN)
      | refine WPV.block ?_
      | refine WPV.scope ?_
      | refine WPV.skip ?_
      | refine WPV.label ?_
      | refine WPV.exit ?_
      | refine WPV.ret ?_
      | (refine WPV.regionG (M := noM) ?_; intro N hN ops hy; (try simp only [List.append] at hy ⊢); (try simp only [List.map_cons, List.map_nil] at hy))
      | (refine WPV.drawK (M := noM) (by kernel_rfl) (by kernel_rfl) ?_; intro N hN; have hy := yieldedV_eq)
      | (refine WPV.condK ?_; intro A hA B hB)
      | ((with_reducible first | refine opsV.here ?_ | refine guardO.here ?_ | refine resO.here ?_ | refine drawV.here ?_ | refine guardD.here ?_ | refine stepO.here ?_ | refine brO.here ?_ | refine condV.here ?_); simp (config := {contextual := true, maxSteps := 1000000}) only [hy, hz, go_sem, reduceCtorEq, Nat.reduceAdd, Nat.reduceSub, Nat.reduceMul, Nat.reduceLT, Nat.reduceLeDiff, Int.reduceLT, Int.reduceLE, Int.reduceEq, Int.reduceNe, Int.reduceAdd, Int.reduceSub, Int.reduceMul, Int.reduceToNat, Int.reduceNeg, Int.reducePow, Nat.reducePow, Nat.reduceEqDiff, Nat.reduceBEq, Int.reduceBEq, Int.reduceBNe, Int.reduceNegSucc, he, hf, hwl, hgt, hp0, hw1, hget, hul, hw2, hw3, hw4, hw5, hq, hsh, hlt, hle, hat, hub])
      | (refine And.intro (by kernel_rfl : okOrd _ _ = true) ?_)
      | refine Both.mk ?_ ?_
      | ((with_reducible refine CallO.gd 85 ?_); first
        | refine CallO.toA Try.call85 (vtake_s ht (by omega) _) ?_
        | refine CallO.toA Try.call85 (vtake_s ht2 (by omega) _) ?_)
      | ((with_reducible refine CallO.gd 43 ?_); refine CallO.frA [0, 1, 2] Try.call43 (dat_s d key) ?_)
      | ((with_reducible refine CallO.gd 81 ?_); refine CallO.frA [0, 1, 2] Try.call81 (dcomes_s d key hs h8 h9) ?_)
      | ((with_reducible refine CallP.gd 85 ?_); first
        | refine CallP.toA Try.call85 (vtake_s ht (by omega) _) ?_
        | refine CallP.toA Try.call85 (vtake_s ht2 (by omega) _) ?_)
      | (first | refine hN _ ?_ | (clear hN N; refine hN _ ?_) | (iterate 2 clear hN N); refine hN _ ?_ | (iterate 3 clear hN N); refine hN _ ?_ | (iterate 4 clear hN N); refine hN _ ?_ | (iterate 5 clear hN N); refine hN _ ?_); try clear hN N; try clear hy ops
      | (refine hA ?_; clear hA A hB B; try simp only [hz])
      | (refine hB ?_; clear hA A hB B; try simp only [hz])
      | ((first | refine guardO.mk (fun hz => ?_) (fun hz => ?_) | refine guardD.mk (fun hz => ?_) (fun hz => ?_) | refine Br.mk (fun hz => ?_) (fun hz => ?_)) <;> (have h := hz; try simp only [decide_eq_true_eq, decide_eq_false_iff_not, Int.not_lt, Int.not_le, beq_iff_eq, beq_eq_false_iff_ne, bne_iff_ne, bne_eq_false_iff_eq, ne_eq, Bool.not_eq_true', Bool.not_eq_false', Decidable.not_not] at h) <;> (try (exfalso; omega)) <;> (try simp only [Bool.not_eq_true', Bool.not_eq_false', beq_true, beq_false] at hz))
      | ((first | rw [if_pos (show _ ∧ _ from ⟨by omega, by omega⟩)] | rw [if_pos (show _ ∧ _ from by simp only [List.length_append, List.length_cons, List.length_nil]; exact ⟨by omega, by omega⟩)]); simp (config := {contextual := true, maxSteps := 1000000}) only [hy, hz, go_sem, reduceCtorEq, Nat.reduceAdd, Nat.reduceSub, Nat.reduceMul, Nat.reduceLT, Nat.reduceLeDiff, Int.reduceLT, Int.reduceLE, Int.reduceEq, Int.reduceNe, Int.reduceAdd, Int.reduceSub, Int.reduceMul, Int.reduceToNat, Int.reduceNeg, Int.reducePow, Nat.reducePow, Nat.reduceEqDiff, Nat.reduceBEq, Int.reduceBEq, Int.reduceBNe, Int.reduceNegSucc, he, hf, hwl, hgt, hp0, hw1, hget, hul, hw2, hw3, hw4, hw5, hq, hsh, hlt, hle, hat, hub])
      | (simp only [thenV, blockV, if_true, if_false, Nat.reduceEqDiff, reduceCtorEq, imp_self]))
  all_goals (first | exact retA hQ Try.results38 (Desc.re [some 0, none, none, some 1, some 2] rfl) | exact retN hQ Try.results38 (Desc.re [some 0, none, none, some 1, some 2] rfl))
set_option maxRecDepth 100000 in
set_option maxHeartbeats 4000000 in
theorem dtake_4 (hl : b.length ≤ 1000000) (ht : tk b = (p, u, 0)) (hp : p.toNat = 0) (hwl : IntKind.u64.wrap (d.ks.length : Int) = (d.ks.length : Int)) (hul : ((u : Int) ≤ (b.length : Int)) = True) (ht2 : tk (b.drop u) = (q, v, f)) (hf : (f != 0) = true) (hw2 : IntKind.i64.wrap ((u : Int) + (v : Int)) = ((u + v : Nat) : Int))
    (he hp0 hgt hw1 hget hw3 hw4 hw5 hq hsh hlt hle hat hub : True) :
    Sp Try.prog K 38 [.ptr 0 0, .sl 1 (bs b)] d.inn fun x hh => x = dtV (⟨#[]⟩, 0, f) ∧ hh = d.out := by
  have hle : (b.drop u).length ≤ 1000000000 := by rw [List.length_drop]; omega
  have hgt : ((d.ks.length : Int) < (p.toNat : Int)) = False := by simp; omega
  have hp0 : ((0 : Int) < (p.toNat : Int)) = False := by simp; omega
  refine Sp.of_bodyD Try.func38 rfl ?_
  intro Q hQ
  simp only [List.replicate, List.length_cons, List.length_nil, Try.ntmps38, Nat.reduceAdd, Nat.reduceSub, List.cons_append, List.nil_append, go_sem]
  have hz : True := trivial
  have hy := yieldedV_eq
  repeat' (first
      | (refine WPV.seqK ?_; intro N hN)
      | refine WPV.block ?_
      | refine WPV.scope ?_
      | refine WPV.skip ?_
      | refine WPV.label ?_
      | refine WPV.exit ?_
      | refine WPV.ret ?_
      | (refine WPV.regionG (M := noM) ?_; intro N hN ops hy; (try simp only [List.append] at hy ⊢); (try simp only [List.map_cons, List.map_nil] at hy))
      | (refine WPV.drawK (M := noM) (by kernel_rfl) (by kernel_rfl) ?_; intro N hN; have hy := yieldedV_eq)
      | (refine WPV.condK ?_; intro A hA B hB)
      | ((with_reducible first | refine opsV.here ?_ | refine guardO.here ?_ | refine resO.here ?_ | refine drawV.here ?_ | refine guardD.here ?_ | refine stepO.here ?_ | refine brO.here ?_ | refine condV.here ?_); simp (config := {contextual := true, maxSteps := 1000000}) only [hy, hz, go_sem, reduceCtorEq, Nat.reduceAdd, Nat.reduceSub, Nat.reduceMul, Nat.reduceLT, Nat.reduceLeDiff, Int.reduceLT, Int.reduceLE, Int.reduceEq, Int.reduceNe, Int.reduceAdd, Int.reduceSub, Int.reduceMul, Int.reduceToNat, Int.reduceNeg, Int.reducePow, Nat.reducePow, Nat.reduceEqDiff, Nat.reduceBEq, Int.reduceBEq, Int.reduceBNe, Int.reduceNegSucc, he, hf, hwl, hgt, hp0, hw1, hget, hul, hw2, hw3, hw4, hw5, hq, hsh, hlt, hle, hat, hub])
      | (refine And.intro (by kernel_rfl : okOrd _ _ = true) ?_)
      | refine Both.mk ?_ ?_
      | ((with_reducible refine CallO.gd 85 ?_); first
        | refine CallO.toA Try.call85 (vtake_s ht (by omega) _) ?_
        | refine CallO.toA Try.call85 (vtake_s ht2 (by omega) _) ?_)
      | ((with_reducible refine CallO.gd 43 ?_); refine CallO.frA [0, 1, 2] Try.call43 (dat_s d key) ?_)
      | ((with_reducible refine CallO.gd 81 ?_); refine CallO.frA [0, 1, 2] Try.call81 (dcomes_s d key hs h8 h9) ?_)
      | ((with_reducible refine CallP.gd 85 ?_); first
        | refine CallP.toA Try.call85 (vtake_s ht (by omega) _) ?_
        | refine CallP.toA Try.call85 (vtake_s ht2 (by omega) _) ?_)
      | (first | refine hN _ ?_ | (clear hN N; refine hN _ ?_) | (iterate 2 clear hN N); refine hN _ ?_ | (iterate 3 clear hN N); refine hN _ ?_ | (iterate 4 clear hN N); refine hN _ ?_ | (iterate 5 clear hN N); refine hN _ ?_); try clear hN N; try clear hy ops
      | (refine hA ?_; clear hA A hB B; try simp only [hz])
      | (refine hB ?_; clear hA A hB B; try simp only [hz])
      | ((first | refine guardO.mk (fun hz => ?_) (fun hz => ?_) | refine guardD.mk (fun hz => ?_) (fun hz => ?_) | refine Br.mk (fun hz => ?_) (fun hz => ?_)) <;> (have h := hz; try simp only [decide_eq_true_eq, decide_eq_false_iff_not, Int.not_lt, Int.not_le, beq_iff_eq, beq_eq_false_iff_ne, bne_iff_ne, bne_eq_false_iff_eq, ne_eq, Bool.not_eq_true', Bool.not_eq_false', Decidable.not_not] at h) <;> (try (exfalso; omega)) <;> (try simp only [Bool.not_eq_true', Bool.not_eq_false', beq_true, beq_false] at hz))
      | ((first | rw [if_pos (show _ ∧ _ from ⟨by omega, by omega⟩)] | rw [if_pos (show _ ∧ _ from by simp only [List.length_append, List.length_cons, List.length_nil]; exact ⟨by omega, by omega⟩)]); simp (config := {contextual := true, maxSteps := 1000000}) only [hy, hz, go_sem, reduceCtorEq, Nat.reduceAdd, Nat.reduceSub, Nat.reduceMul, Nat.reduceLT, Nat.reduceLeDiff, Int.reduceLT, Int.reduceLE, Int.reduceEq, Int.reduceNe, Int.reduceAdd, Int.reduceSub, Int.reduceMul, Int.reduceToNat, Int.reduceNeg, Int.reducePow, Nat.reducePow, Nat.reduceEqDiff, Nat.reduceBEq, Int.reduceBEq, Int.reduceBNe, Int.reduceNegSucc, he, hf, hwl, hgt, hp0, hw1, hget, hul, hw2, hw3, hw4, hw5, hq, hsh, hlt, hle, hat, hub])
      | (simp only [thenV, blockV, if_true, if_false, Nat.reduceEqDiff, reduceCtorEq, imp_self]))
  all_goals (first | exact retA hQ Try.results38 (Desc.re [some 0, none, none, some 1, some 2] rfl) | exact retN hQ Try.results38 (Desc.re [some 0, none, none, some 1, some 2] rfl))
set_option maxRecDepth 100000 in
set_option maxHeartbeats 4000000 in
theorem dtake_5 (hl : b.length ≤ 1000000) (ht : tk b = (p, u, 0)) (hp : p.toNat = 0) (hwl : IntKind.u64.wrap (d.ks.length : Int) = (d.ks.length : Int)) (hul : ((u : Int) ≤ (b.length : Int)) = True) (ht2 : tk (b.drop u) = (q, v, 0)) (hw2 : IntKind.i64.wrap ((u : Int) + (v : Int)) = ((u + v : Nat) : Int)) (hq : ((64 : Int) < (q.toNat : Int)) = True)
    (he hf hw1 hget hw3 hw4 hw5 hsh hlt hat hub : True) :
    Sp Try.prog K 38 [.ptr 0 0, .sl 1 (bs b)] d.inn fun x hh => x = dtV (⟨#[]⟩, 0, 4) ∧ hh = d.out := by
  have hle : (b.drop u).length ≤ 1000000000 := by rw [List.length_drop]; omega
  have hgt : ((d.ks.length : Int) < (p.toNat : Int)) = False := by simp; omega
  have hp0 : ((0 : Int) < (p.toNat : Int)) = False := by simp; omega
  refine Sp.of_bodyD Try.func38 rfl ?_
  intro Q hQ
  simp only [List.replicate, List.length_cons, List.length_nil, Try.ntmps38, Nat.reduceAdd, Nat.reduceSub, List.cons_append, List.nil_append, go_sem]
  have hz : True := trivial
  have hy := yieldedV_eq
  repeat' (first
      | (refine WPV.seqK ?_; intro N hN)
      | refine WPV.block ?_
      | refine WPV.scope ?_
      | refine WPV.skip ?_
      | refine WPV.label ?_
      | refine WPV.exit ?_
      | refine WPV.ret ?_
      | (refine WPV.regionG (M := noM) ?_; intro N hN ops hy; (try simp only [List.append] at hy ⊢); (try simp only [List.map_cons, List.map_nil] at hy))
      | (refine WPV.drawK (M := noM) (by kernel_rfl) (by kernel_rfl) ?_; intro N hN; have hy := yieldedV_eq)
      | (refine WPV.condK ?_; intro A hA B hB)
      | ((with_reducible first | refine opsV.here ?_ | refine guardO.here ?_ | refine resO.here ?_ | refine drawV.here ?_ | refine guardD.here ?_ | refine stepO.here ?_ | refine brO.here ?_ | refine condV.here ?_); simp (config := {contextual := true, maxSteps := 1000000}) only [hy, hz, go_sem, reduceCtorEq, Nat.reduceAdd, Nat.reduceSub, Nat.reduceMul, Nat.reduceLT, Nat.reduceLeDiff, Int.reduceLT, Int.reduceLE, Int.reduceEq, Int.reduceNe, Int.reduceAdd, Int.reduceSub, Int.reduceMul, Int.reduceToNat, Int.reduceNeg, Int.reducePow, Nat.reducePow, Nat.reduceEqDiff, Nat.reduceBEq, Int.reduceBEq, Int.reduceBNe, Int.reduceNegSucc, he, hf, hwl, hgt, hp0, hw1, hget, hul, hw2, hw3, hw4, hw5, hq, hsh, hlt, hle, hat, hub])
      | (refine And.intro (by kernel_rfl : okOrd _ _ = true) ?_)
      | refine Both.mk ?_ ?_
      | ((with_reducible refine CallO.gd 85 ?_); first
        | refine CallO.toA Try.call85 (vtake_s ht (by omega) _) ?_
        | refine CallO.toA Try.call85 (vtake_s ht2 (by omega) _) ?_)
      | ((with_reducible refine CallO.gd 43 ?_); refine CallO.frA [0, 1, 2] Try.call43 (dat_s d key) ?_)
      | ((with_reducible refine CallO.gd 81 ?_); refine CallO.frA [0, 1, 2] Try.call81 (dcomes_s d key hs h8 h9) ?_)
      | ((with_reducible refine CallP.gd 85 ?_); first
        | refine CallP.toA Try.call85 (vtake_s ht (by omega) _) ?_
        | refine CallP.toA Try.call85 (vtake_s ht2 (by omega) _) ?_)
      | (first | refine hN _ ?_ | (clear hN N; refine hN _ ?_) | (iterate 2 clear hN N); refine hN _ ?_ | (iterate 3 clear hN N); refine hN _ ?_ | (iterate 4 clear hN N); refine hN _ ?_ | (iterate 5 clear hN N); refine hN _ ?_); try clear hN N; try clear hy ops
      | (refine hA ?_; clear hA A hB B; try simp only [hz])
      | (refine hB ?_; clear hA A hB B; try simp only [hz])
      | ((first | refine guardO.mk (fun hz => ?_) (fun hz => ?_) | refine guardD.mk (fun hz => ?_) (fun hz => ?_) | refine Br.mk (fun hz => ?_) (fun hz => ?_)) <;> (have h := hz; try simp only [decide_eq_true_eq, decide_eq_false_iff_not, Int.not_lt, Int.not_le, beq_iff_eq, beq_eq_false_iff_ne, bne_iff_ne, bne_eq_false_iff_eq, ne_eq, Bool.not_eq_true', Bool.not_eq_false', Decidable.not_not] at h) <;> (try (exfalso; omega)) <;> (try simp only [Bool.not_eq_true', Bool.not_eq_false', beq_true, beq_false] at hz))
      | ((first | rw [if_pos (show _ ∧ _ from ⟨by omega, by omega⟩)] | rw [if_pos (show _ ∧ _ from by simp only [List.length_append, List.length_cons, List.length_nil]; exact ⟨by omega, by omega⟩)]); simp (config := {contextual := true, maxSteps := 1000000}) only [hy, hz, go_sem, reduceCtorEq, Nat.reduceAdd, Nat.reduceSub, Nat.reduceMul, Nat.reduceLT, Nat.reduceLeDiff, Int.reduceLT, Int.reduceLE, Int.reduceEq, Int.reduceNe, Int.reduceAdd, Int.reduceSub, Int.reduceMul, Int.reduceToNat, Int.reduceNeg, Int.reducePow, Nat.reducePow, Nat.reduceEqDiff, Nat.reduceBEq, Int.reduceBEq, Int.reduceBNe, Int.reduceNegSucc, he, hf, hwl, hgt, hp0, hw1, hget, hul, hw2, hw3, hw4, hw5, hq, hsh, hlt, hle, hat, hub])
      | (simp only [thenV, blockV, if_true, if_false, Nat.reduceEqDiff, reduceCtorEq, imp_self]))
  all_goals (first | exact retA hQ Try.results38 (Desc.re [some 0, none, none, some 1, some 2] rfl) | exact retN hQ Try.results38 (Desc.re [some 0, none, none, some 1, some 2] rfl))
set_option maxRecDepth 100000 in
set_option maxHeartbeats 4000000 in
theorem dtake_6 (hl : b.length ≤ 1000000) (ht : tk b = (p, u, 0)) (hp : p.toNat = 0) (hwl : IntKind.u64.wrap (d.ks.length : Int) = (d.ks.length : Int)) (hul : ((u : Int) ≤ (b.length : Int)) = True) (ht2 : tk (b.drop u) = (q, v, 0)) (hw2 : IntKind.i64.wrap ((u : Int) + (v : Int)) = ((u + v : Nat) : Int)) (hq : ((64 : Int) < (q.toNat : Int)) = False)
    (hw3 : IntKind.i64.wrap ((b.length : Int) - ((u + v : Nat) : Int)) = (b.length : Int) - ((u + v : Nat) : Int)) (hw4 : IntKind.i64.wrap (q.toNat : Int) = (q.toNat : Int)) (hsh : ((b.length : Int) - ((u + v : Nat) : Int) < (q.toNat : Int)) = True)
    (he hf hw1 hget hw5 hlt hat hub : True) :
    Sp Try.prog K 38 [.ptr 0 0, .sl 1 (bs b)] d.inn fun x hh => x = dtV (⟨#[]⟩, 0, 2) ∧ hh = d.out := by
  have hle : (b.drop u).length ≤ 1000000000 := by rw [List.length_drop]; omega
  have hgt : ((d.ks.length : Int) < (p.toNat : Int)) = False := by simp; omega
  have hp0 : ((0 : Int) < (p.toNat : Int)) = False := by simp; omega
  refine Sp.of_bodyD Try.func38 rfl ?_
  intro Q hQ
  simp only [List.replicate, List.length_cons, List.length_nil, Try.ntmps38, Nat.reduceAdd, Nat.reduceSub, List.cons_append, List.nil_append, go_sem]
  have hz : True := trivial
  have hy := yieldedV_eq
  repeat' (first
      | (refine WPV.seqK ?_; intro N hN)
      | refine WPV.block ?_
      | refine WPV.scope ?_
      | refine WPV.skip ?_
      | refine WPV.label ?_
      | refine WPV.exit ?_
      | refine WPV.ret ?_
      | (refine WPV.regionG (M := noM) ?_; intro N hN ops hy; (try simp only [List.append] at hy ⊢); (try simp only [List.map_cons, List.map_nil] at hy))
      | (refine WPV.drawK (M := noM) (by kernel_rfl) (by kernel_rfl) ?_; intro N hN; have hy := yieldedV_eq)
      | (refine WPV.condK ?_; intro A hA B hB)
      | ((with_reducible first | refine opsV.here ?_ | refine guardO.here ?_ | refine resO.here ?_ | refine drawV.here ?_ | refine guardD.here ?_ | refine stepO.here ?_ | refine brO.here ?_ | refine condV.here ?_); simp (config := {contextual := true, maxSteps := 1000000}) only [hy, hz, go_sem, reduceCtorEq, Nat.reduceAdd, Nat.reduceSub, Nat.reduceMul, Nat.reduceLT, Nat.reduceLeDiff, Int.reduceLT, Int.reduceLE, Int.reduceEq, Int.reduceNe, Int.reduceAdd, Int.reduceSub, Int.reduceMul, Int.reduceToNat, Int.reduceNeg, Int.reducePow, Nat.reducePow, Nat.reduceEqDiff, Nat.reduceBEq, Int.reduceBEq, Int.reduceBNe, Int.reduceNegSucc, he, hf, hwl, hgt, hp0, hw1, hget, hul, hw2, hw3, hw4, hw5, hq, hsh, hlt, hle, hat, hub])
      | (refine And.intro (by kernel_rfl : okOrd _ _ = true) ?_)
      | refine Both.mk ?_ ?_
      | ((with_reducible refine CallO.gd 85 ?_); first
        | refine CallO.toA Try.call85 (vtake_s ht (by omega) _) ?_
        | refine CallO.toA Try.call85 (vtake_s ht2 (by omega) _) ?_)
      | ((with_reducible refine CallO.gd 43 ?_); refine CallO.frA [0, 1, 2] Try.call43 (dat_s d key) ?_)
      | ((with_reducible refine CallO.gd 81 ?_); refine CallO.frA [0, 1, 2] Try.call81 (dcomes_s d key hs h8 h9) ?_)
      | ((with_reducible refine CallP.gd 85 ?_); first
        | refine CallP.toA Try.call85 (vtake_s ht (by omega) _) ?_
        | refine CallP.toA Try.call85 (vtake_s ht2 (by omega) _) ?_)
      | (first | refine hN _ ?_ | (clear hN N; refine hN _ ?_) | (iterate 2 clear hN N); refine hN _ ?_ | (iterate 3 clear hN N); refine hN _ ?_ | (iterate 4 clear hN N); refine hN _ ?_ | (iterate 5 clear hN N); refine hN _ ?_); try clear hN N; try clear hy ops
      | (refine hA ?_; clear hA A hB B; try simp only [hz])
      | (refine hB ?_; clear hA A hB B; try simp only [hz])
      | ((first | refine guardO.mk (fun hz => ?_) (fun hz => ?_) | refine guardD.mk (fun hz => ?_) (fun hz => ?_) | refine Br.mk (fun hz => ?_) (fun hz => ?_)) <;> (have h := hz; try simp only [decide_eq_true_eq, decide_eq_false_iff_not, Int.not_lt, Int.not_le, beq_iff_eq, beq_eq_false_iff_ne, bne_iff_ne, bne_eq_false_iff_eq, ne_eq, Bool.not_eq_true', Bool.not_eq_false', Decidable.not_not] at h) <;> (try (exfalso; omega)) <;> (try simp only [Bool.not_eq_true', Bool.not_eq_false', beq_true, beq_false] at hz))
      | ((first | rw [if_pos (show _ ∧ _ from ⟨by omega, by omega⟩)] | rw [if_pos (show _ ∧ _ from by simp only [List.length_append, List.length_cons, List.length_nil]; exact ⟨by omega, by omega⟩)]); simp (config := {contextual := true, maxSteps := 1000000}) only [hy, hz, go_sem, reduceCtorEq, Nat.reduceAdd, Nat.reduceSub, Nat.reduceMul, Nat.reduceLT, Nat.reduceLeDiff, Int.reduceLT, Int.reduceLE, Int.reduceEq, Int.reduceNe, Int.reduceAdd, Int.reduceSub, Int.reduceMul, Int.reduceToNat, Int.reduceNeg, Int.reducePow, Nat.reducePow, Nat.reduceEqDiff, Nat.reduceBEq, Int.reduceBEq, Int.reduceBNe, Int.reduceNegSucc, he, hf, hwl, hgt, hp0, hw1, hget, hul, hw2, hw3, hw4, hw5, hq, hsh, hlt, hle, hat, hub])
      | (simp only [thenV, blockV, if_true, if_false, Nat.reduceEqDiff, reduceCtorEq, imp_self]))
  all_goals (first | exact retA hQ Try.results38 (Desc.re [some 0, none, none, some 1, some 2] rfl) | exact retN hQ Try.results38 (Desc.re [some 0, none, none, some 1, some 2] rfl))
set_option maxRecDepth 100000 in
set_option maxHeartbeats 4000000 in
theorem dtake_7 {key : ByteArray} (hl : b.length ≤ 1000000) (ht : tk b = (p, u, 0)) (hp : p.toNat = 0) (hwl : IntKind.u64.wrap (d.ks.length : Int) = (d.ks.length : Int)) (hul : ((u : Int) ≤ (b.length : Int)) = True) (ht2 : tk (b.drop u) = (q, v, 0)) (hw2 : IntKind.i64.wrap ((u : Int) + (v : Int)) = ((u + v : Nat) : Int)) (hq : ((64 : Int) < (q.toNat : Int)) = False)
    (hw3 : IntKind.i64.wrap ((b.length : Int) - ((u + v : Nat) : Int)) = (b.length : Int) - ((u + v : Nat) : Int)) (hw4 : IntKind.i64.wrap (q.toNat : Int) = (q.toNat : Int)) (hsh : ((b.length : Int) - ((u + v : Nat) : Int) < (q.toNat : Int)) = False)
    (hw5 : IntKind.i64.wrap (((u + v : Nat) : Int) + (q.toNat : Int)) = ((u + v + q.toNat : Nat) : Int)) (hub : (((u + v : Nat) : Int) ≤ ((u + v + q.toNat : Nat) : Int)) = True) (hlt : (((u + v + q.toNat : Nat) : Int) ≤ (b.length : Int)) = True) (hw1 : (⟨((b.take (u + v + q.toNat)).drop (u + v)).toArray⟩ : ByteArray) = key)
    (hat : (0 ≤ d.at_ key) = True) (he hf : True) :
    Sp Try.prog K 38 [.ptr 0 0, .sl 1 (bs b)] d.inn fun x hh => x = dtV (⟨#[]⟩, 0, 3) ∧ hh = d.out := by
  have hle : (b.drop u).length ≤ 1000000000 := by rw [List.length_drop]; omega
  have hgt : ((d.ks.length : Int) < (p.toNat : Int)) = False := by simp; omega
  have hp0 : ((0 : Int) < (p.toNat : Int)) = False := by simp; omega
  have hget := bs_unbs
  refine Sp.of_bodyD Try.func38 rfl ?_
  intro Q hQ
  simp only [List.replicate, List.length_cons, List.length_nil, Try.ntmps38, Nat.reduceAdd, Nat.reduceSub, List.cons_append, List.nil_append, go_sem]
  have hz : True := trivial
  have hy := yieldedV_eq
  repeat' (first
      | (refine WPV.seqK ?_; intro N hN)
      | refine WPV.block ?_
      | refine WPV.scope ?_
      | refine WPV.skip ?_
      | refine WPV.label ?_
      | refine WPV.exit ?_
      | refine WPV.ret ?_
      | (refine WPV.regionG (M := noM) ?_; intro N hN ops hy; (try simp only [List.append] at hy ⊢); (try simp only [List.map_cons, List.map_nil] at hy))
      | (refine WPV.drawK (M := noM) (by kernel_rfl) (by kernel_rfl) ?_; intro N hN; have hy := yieldedV_eq)
      | (refine WPV.condK ?_; intro A hA B hB)
      | ((with_reducible first | refine opsV.here ?_ | refine guardO.here ?_ | refine resO.here ?_ | refine drawV.here ?_ | refine guardD.here ?_ | refine stepO.here ?_ | refine brO.here ?_ | refine condV.here ?_); simp (config := {contextual := true, maxSteps := 1000000}) only [hy, hz, go_sem, reduceCtorEq, Nat.reduceAdd, Nat.reduceSub, Nat.reduceMul, Nat.reduceLT, Nat.reduceLeDiff, Int.reduceLT, Int.reduceLE, Int.reduceEq, Int.reduceNe, Int.reduceAdd, Int.reduceSub, Int.reduceMul, Int.reduceToNat, Int.reduceNeg, Int.reducePow, Nat.reducePow, Nat.reduceEqDiff, Nat.reduceBEq, Int.reduceBEq, Int.reduceBNe, Int.reduceNegSucc, he, hf, hwl, hgt, hp0, hw1, hget, hul, hw2, hw3, hw4, hw5, hq, hsh, hlt, hle, hat, hub])
      | (refine And.intro (by kernel_rfl : okOrd _ _ = true) ?_)
      | refine Both.mk ?_ ?_
      | ((with_reducible refine CallO.gd 85 ?_); first
        | refine CallO.toA Try.call85 (vtake_s ht (by omega) _) ?_
        | refine CallO.toA Try.call85 (vtake_s ht2 (by omega) _) ?_)
      | ((with_reducible refine CallO.gd 43 ?_); refine CallO.frA [0, 1, 2] Try.call43 (dat_s d key) ?_)
      | ((with_reducible refine CallO.gd 81 ?_); refine CallO.frA [0, 1, 2] Try.call81 (dcomes_s d key hs h8 h9) ?_)
      | ((with_reducible refine CallP.gd 85 ?_); first
        | refine CallP.toA Try.call85 (vtake_s ht (by omega) _) ?_
        | refine CallP.toA Try.call85 (vtake_s ht2 (by omega) _) ?_)
      | (first | refine hN _ ?_ | (clear hN N; refine hN _ ?_) | (iterate 2 clear hN N); refine hN _ ?_ | (iterate 3 clear hN N); refine hN _ ?_ | (iterate 4 clear hN N); refine hN _ ?_ | (iterate 5 clear hN N); refine hN _ ?_); try clear hN N; try clear hy ops
      | (refine hA ?_; clear hA A hB B; try simp only [hz])
      | (refine hB ?_; clear hA A hB B; try simp only [hz])
      | ((first | refine guardO.mk (fun hz => ?_) (fun hz => ?_) | refine guardD.mk (fun hz => ?_) (fun hz => ?_) | refine Br.mk (fun hz => ?_) (fun hz => ?_)) <;> (have h := hz; try simp only [decide_eq_true_eq, decide_eq_false_iff_not, Int.not_lt, Int.not_le, beq_iff_eq, beq_eq_false_iff_ne, bne_iff_ne, bne_eq_false_iff_eq, ne_eq, Bool.not_eq_true', Bool.not_eq_false', Decidable.not_not] at h) <;> (try (exfalso; omega)) <;> (try simp only [Bool.not_eq_true', Bool.not_eq_false', beq_true, beq_false] at hz))
      | ((first | rw [if_pos (show _ ∧ _ from ⟨by omega, by omega⟩)] | rw [if_pos (show _ ∧ _ from by simp only [List.length_append, List.length_cons, List.length_nil]; exact ⟨by omega, by omega⟩)]); simp (config := {contextual := true, maxSteps := 1000000}) only [hy, hz, go_sem, reduceCtorEq, Nat.reduceAdd, Nat.reduceSub, Nat.reduceMul, Nat.reduceLT, Nat.reduceLeDiff, Int.reduceLT, Int.reduceLE, Int.reduceEq, Int.reduceNe, Int.reduceAdd, Int.reduceSub, Int.reduceMul, Int.reduceToNat, Int.reduceNeg, Int.reducePow, Nat.reducePow, Nat.reduceEqDiff, Nat.reduceBEq, Int.reduceBEq, Int.reduceBNe, Int.reduceNegSucc, he, hf, hwl, hgt, hp0, hw1, hget, hul, hw2, hw3, hw4, hw5, hq, hsh, hlt, hle, hat, hub])
      | (simp only [thenV, blockV, if_true, if_false, Nat.reduceEqDiff, reduceCtorEq, imp_self]))
  all_goals (first | exact retA hQ Try.results38 (Desc.re [some 0, none, none, some 1, some 2] rfl) | exact retN hQ Try.results38 (Desc.re [some 0, none, none, some 1, some 2] rfl))
set_option maxRecDepth 100000 in
set_option maxHeartbeats 4000000 in
theorem dtake_8 {key : ByteArray} (hs : Sta d.c d.l) (h8 : d.ks.length ≤ 8) (h9 : d.e < 8) (hl : b.length ≤ 1000000) (ht : tk b = (p, u, 0)) (hp : p.toNat = 0) (hwl : IntKind.u64.wrap (d.ks.length : Int) = (d.ks.length : Int)) (hul : ((u : Int) ≤ (b.length : Int)) = True) (ht2 : tk (b.drop u) = (q, v, 0)) (hw2 : IntKind.i64.wrap ((u : Int) + (v : Int)) = ((u + v : Nat) : Int)) (hq : ((64 : Int) < (q.toNat : Int)) = False)
    (hw3 : IntKind.i64.wrap ((b.length : Int) - ((u + v : Nat) : Int)) = (b.length : Int) - ((u + v : Nat) : Int)) (hw4 : IntKind.i64.wrap (q.toNat : Int) = (q.toNat : Int)) (hsh : ((b.length : Int) - ((u + v : Nat) : Int) < (q.toNat : Int)) = False)
    (hw5 : IntKind.i64.wrap (((u + v : Nat) : Int) + (q.toNat : Int)) = ((u + v + q.toNat : Nat) : Int)) (hub : (((u + v : Nat) : Int) ≤ ((u + v + q.toNat : Nat) : Int)) = True) (hlt : (((u + v + q.toNat : Nat) : Int) ≤ (b.length : Int)) = True) (hw1 : (⟨((b.take (u + v + q.toNat)).drop (u + v)).toArray⟩ : ByteArray) = key)
    (hat : (0 ≤ d.at_ key) = False) (he hf : True) :
    Sp Try.prog K 38 [.ptr 0 0, .sl 1 (bs b)] d.inn fun x hh => x = dtV (key, (u + v + q.toNat : Nat), 0) ∧ hh = (d.comes key).out := by
  have hle : (b.drop u).length ≤ 1000000000 := by rw [List.length_drop]; omega
  have hgt : ((d.ks.length : Int) < (p.toNat : Int)) = False := by simp; omega
  have hp0 : ((0 : Int) < (p.toNat : Int)) = False := by simp; omega
  have hget := bs_unbs
  refine Sp.of_bodyD Try.func38 rfl ?_
  intro Q hQ
  simp only [List.replicate, List.length_cons, List.length_nil, Try.ntmps38, Nat.reduceAdd, Nat.reduceSub, List.cons_append, List.nil_append, go_sem]
  have hz : True := trivial
  have hy := yieldedV_eq
  repeat' (first
      | (refine WPV.seqK ?_; intro N hN)
      | refine WPV.block ?_
      | refine WPV.scope ?_
      | refine WPV.skip ?_
      | refine WPV.label ?_
      | refine WPV.exit ?_
      | refine WPV.ret ?_
      | (refine WPV.regionG (M := noM) ?_; intro N hN ops hy; (try simp only [List.append] at hy ⊢); (try simp only [List.map_cons, List.map_nil] at hy))
      | (refine WPV.drawK (M := noM) (by kernel_rfl) (by kernel_rfl) ?_; intro N hN; have hy := yieldedV_eq)
      | (refine WPV.condK ?_; intro A hA B hB)
      | ((with_reducible first | refine opsV.here ?_ | refine guardO.here ?_ | refine resO.here ?_ | refine drawV.here ?_ | refine guardD.here ?_ | refine stepO.here ?_ | refine brO.here ?_ | refine condV.here ?_); simp (config := {contextual := true, maxSteps := 1000000}) only [hy, hz, go_sem, reduceCtorEq, Nat.reduceAdd, Nat.reduceSub, Nat.reduceMul, Nat.reduceLT, Nat.reduceLeDiff, Int.reduceLT, Int.reduceLE, Int.reduceEq, Int.reduceNe, Int.reduceAdd, Int.reduceSub, Int.reduceMul, Int.reduceToNat, Int.reduceNeg, Int.reducePow, Nat.reducePow, Nat.reduceEqDiff, Nat.reduceBEq, Int.reduceBEq, Int.reduceBNe, Int.reduceNegSucc, he, hf, hwl, hgt, hp0, hw1, hget, hul, hw2, hw3, hw4, hw5, hq, hsh, hlt, hle, hat, hub])
      | (refine And.intro (by kernel_rfl : okOrd _ _ = true) ?_)
      | refine Both.mk ?_ ?_
      | ((with_reducible refine CallO.gd 85 ?_); first
        | refine CallO.toA Try.call85 (vtake_s ht (by omega) _) ?_
        | refine CallO.toA Try.call85 (vtake_s ht2 (by omega) _) ?_)
      | ((with_reducible refine CallO.gd 43 ?_); refine CallO.frA [0, 1, 2] Try.call43 (dat_s d key) ?_)
      | ((with_reducible refine CallO.gd 81 ?_); refine CallO.frA [0, 1, 2] Try.call81 (dcomes_s d key hs h8 h9) ?_)
      | ((with_reducible refine CallP.gd 85 ?_); first
        | refine CallP.toA Try.call85 (vtake_s ht (by omega) _) ?_
        | refine CallP.toA Try.call85 (vtake_s ht2 (by omega) _) ?_)
      | (first | refine hN _ ?_ | (clear hN N; refine hN _ ?_) | (iterate 2 clear hN N); refine hN _ ?_ | (iterate 3 clear hN N); refine hN _ ?_ | (iterate 4 clear hN N); refine hN _ ?_ | (iterate 5 clear hN N); refine hN _ ?_); try clear hN N; try clear hy ops
      | (refine hA ?_; clear hA A hB B; try simp only [hz])
      | (refine hB ?_; clear hA A hB B; try simp only [hz])
      | ((first | refine guardO.mk (fun hz => ?_) (fun hz => ?_) | refine guardD.mk (fun hz => ?_) (fun hz => ?_) | refine Br.mk (fun hz => ?_) (fun hz => ?_)) <;> (have h := hz; try simp only [decide_eq_true_eq, decide_eq_false_iff_not, Int.not_lt, Int.not_le, beq_iff_eq, beq_eq_false_iff_ne, bne_iff_ne, bne_eq_false_iff_eq, ne_eq, Bool.not_eq_true', Bool.not_eq_false', Decidable.not_not] at h) <;> (try (exfalso; omega)) <;> (try simp only [Bool.not_eq_true', Bool.not_eq_false', beq_true, beq_false] at hz))
      | ((first | rw [if_pos (show _ ∧ _ from ⟨by omega, by omega⟩)] | rw [if_pos (show _ ∧ _ from by simp only [List.length_append, List.length_cons, List.length_nil]; exact ⟨by omega, by omega⟩)]); simp (config := {contextual := true, maxSteps := 1000000}) only [hy, hz, go_sem, reduceCtorEq, Nat.reduceAdd, Nat.reduceSub, Nat.reduceMul, Nat.reduceLT, Nat.reduceLeDiff, Int.reduceLT, Int.reduceLE, Int.reduceEq, Int.reduceNe, Int.reduceAdd, Int.reduceSub, Int.reduceMul, Int.reduceToNat, Int.reduceNeg, Int.reducePow, Nat.reducePow, Nat.reduceEqDiff, Nat.reduceBEq, Int.reduceBEq, Int.reduceBNe, Int.reduceNegSucc, he, hf, hwl, hgt, hp0, hw1, hget, hul, hw2, hw3, hw4, hw5, hq, hsh, hlt, hle, hat, hub])
      | (simp only [thenV, blockV, if_true, if_false, Nat.reduceEqDiff, reduceCtorEq, imp_self]))
  all_goals (first | exact retA hQ Try.results38 (Desc.re [some 0, none, none, some 3, some 4] rfl) | exact retN hQ Try.results38 (Desc.re [some 0, none, none, some 3, some 4] rfl))
end

theorem tk_zero {l : List UInt8} (h : ¬ (tk l).2.2 = 0) : (tk l).2.1 = 0 := by
  cases hsc : scan l with
  | none => rw [tk_none hsc]; split <;> rfl
  | some s =>
    rw [tk_some hsc] at h ⊢
    split
    · rename_i hc; rw [if_pos hc] at h; exact absurd rfl h
    · rfl
theorem dkOf_lt {b : List UInt8} (h : (tk b).2.2 = 0) : (tk b).2.1 ≤ b.length := (tk_ok h).2.1
set_option maxRecDepth 100000 in
theorem dtake_s (d : Di) (b : List UInt8) (hl : b.length ≤ 1000000) (hs : Sta d.c d.l) (h8 : d.ks.length ≤ 8) (h9 : d.e < 8) : Sp Try.prog K 38 [.ptr 0 0, .sl 1 (bs b)] d.inn fun x hh => x = dtV (d.take b).1 ∧ hh = (d.take b).2.out := by
  obtain ⟨p, u, e, ht⟩ : ∃ p u e, tk b = (p, u, e) := ⟨_, _, _, rfl⟩
  unfold Di.take dkOf
  simp only [ht]
  by_cases he : e = 0
  · subst he
    have hu : u ≤ b.length := by have := dkOf_lt (b := b) (by rw [ht]); rwa [ht] at this
    have hwl : IntKind.u64.wrap (d.ks.length : Int) = (d.ks.length : Int) := wr_u64 (by omega) (by omega)
    simp only [ne_eq, not_true_eq_false, if_false]
    by_cases hp : p.toNat = 0
    · obtain ⟨q, v, f, ht2⟩ : ∃ q v f, tk (b.drop u) = (q, v, f) := ⟨_, _, _, rfl⟩
      simp only [hp, not_true_eq_false, if_false, ht2]
      have hv9 : v ≤ 1000000 := by
        have h1 : v = (tk (b.drop u)).2.1 := by rw [ht2]
        by_cases hf : (tk (b.drop u)).2.2 = 0
        · have := (tk_ok hf).2.1; rw [List.length_drop] at this; omega
        · have h2 := tk_zero hf
          rw [h1, h2]; omega
      have hw2 : IntKind.i64.wrap ((u : Int) + (v : Int)) = ((u + v : Nat) : Int) := by rw [wr_i64 (by omega) (by omega)]; omega
      have hul : ((u : Int) ≤ (b.length : Int)) = True := by simp; exact hu
      by_cases hf : f = 0
      · subst hf
        have hv : u + v ≤ b.length := by
          have := dkOf_lt (b := b.drop u) (by rw [ht2])
          rw [ht2, List.length_drop] at this
          have this : v ≤ b.length - u := this
          omega
        simp only [not_true_eq_false, if_false]
        by_cases hq : 64 < q.toNat
        · rw [if_pos hq]
          exact dtake_5 hl ht hp hwl hul ht2 hw2 (by simp; omega) trivial trivial trivial trivial trivial trivial trivial trivial trivial trivial trivial
        · rw [if_neg hq]
          have hw3 : IntKind.i64.wrap ((b.length : Int) - ((u + v : Nat) : Int)) = (b.length : Int) - ((u + v : Nat) : Int) := wr_i64 (by omega) (by omega)
          have hw4 : IntKind.i64.wrap (q.toNat : Int) = (q.toNat : Int) := wr_i64 (by omega) (by omega)
          by_cases hsh : b.length < u + v + q.toNat
          · rw [if_pos hsh]
            exact dtake_6 hl ht hp hwl hul ht2 hw2 (by simp; omega) hw3 hw4 (by simp; omega) trivial trivial trivial trivial trivial trivial trivial trivial
          · rw [if_neg hsh]
            have hw5 : IntKind.i64.wrap (((u + v : Nat) : Int) + (q.toNat : Int)) = ((u + v + q.toNat : Nat) : Int) := by rw [wr_i64 (by omega) (by omega)]; omega
            have hk : (⟨((b.take (u + v + q.toNat)).drop (u + v)).toArray⟩ : ByteArray) = dkText b (u + v) q.toNat := by
              unfold dkText
              rw [List.drop_take, show u + v + q.toNat - (u + v) = q.toNat by omega]
            simp only []
            by_cases hat : 0 ≤ d.at_ (dkText b (u + v) q.toNat)
            · rw [if_pos hat]
              exact dtake_7 hl ht hp hwl hul ht2 hw2 (by simp; omega) hw3 hw4 (by simp; omega) hw5 (by simp; omega) (by simp; omega) hk (by simp; exact hat) trivial trivial
            · rw [if_neg hat]
              exact dtake_8 hs h8 h9 hl ht hp hwl hul ht2 hw2 (by simp; omega) hw3 hw4 (by simp; omega) hw5 (by simp; omega) (by simp; omega) hk (by simp; omega) trivial trivial
      · rw [if_pos hf]
        exact dtake_4 hl ht hp hwl hul ht2 (by simp; exact hf) hw2 trivial trivial trivial trivial trivial trivial trivial trivial trivial trivial trivial trivial trivial trivial
    · rw [if_pos hp]
      simp only []
      by_cases hlt : d.ks.length < p.toNat
      · rw [if_pos hlt]
        exact dtake_2 hl ht hwl (by simp; omega) trivial trivial trivial trivial trivial trivial trivial trivial trivial trivial trivial trivial trivial trivial trivial trivial trivial
      · rw [if_neg hlt]
        exact dtake_3 (i := p.toNat - 1) hl ht hwl (by simp; omega) (by simp; omega) (by rw [wr_u64 (by omega) (by omega)]; omega) (by simp; omega) (by rw [List.getD_eq_getElem?_getD, List.getElem?_eq_getElem (by omega)]; rfl) trivial trivial trivial trivial trivial trivial trivial trivial trivial trivial trivial trivial trivial
  · rw [if_pos he]
    exact dtake_1 hl ht (by simp; exact he) trivial trivial trivial trivial trivial trivial trivial trivial trivial trivial trivial trivial trivial trivial trivial trivial trivial trivial
end Go.Proofs.Ytonllhjmoenckaa
