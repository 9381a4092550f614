/- Walks: the document's dictionary, where it lies behind a clock in a coder. -/
import Derived.Test.YtonllhjmoenckaaRDictP
import Derived.Test.YtonllhjmoenckaaDictK
import Derived.Test.YtonllhjmoenckaaClkD
namespace Go.Proofs.Ytonllhjmoenckaa
open Go Go.RowKit
set_option linter.unusedVariables false
set_option linter.unusedSimpArgs false
variable {K : Nat → Obj → Prop}
def Rdi.ob3 (r : Rdi) (p : Clk) : Ho := .cells [.sc (.int .i64 p.x), .sc (.int .i64 p.y), .sc (.int .i64 p.z), .sl 1 (ds r.ks), .sl 1 (is r.ws), .sc (.int .i64 r.now)]
attribute [go_sem] Rdi.ob3
set_option maxRecDepth 100000 in
set_option maxHeartbeats 4000000 in
theorem rdat3_s (p : Clk) (r : Rdi) (key : ByteArray) (hl : r.ks.length ≤ 1000000) : Sp Try.prog K 44 [.ptr 0 3, .sc (.string key)] [r.ob3 p] fun u hh => u = .sc (.int .i64 (r.at_ key)) ∧ hh = [r.ob3 p] := by
  unfold Rdi.ob3
  have hlt : True := trivial
  have hget : True := trivial
  have heq : True := trivial
  have hw : True := trivial
  refine Sp.of_bodyD Try.func44 rfl ?_
  intro Q hQ
  simp only [List.replicate, List.length_cons, List.length_nil, Try.ntmps44, Nat.reduceAdd, Nat.reduceSub, List.cons_append, List.nil_append, go_sem]
  have hz : True := trivial
  have hy := yieldedV_eq
  have hL := And.intro @hlt (And.intro @hget (And.intro @heq (@hw)))
  repeat' (first | (refine WPV.seqK ?_; intro N hN) | refine WPV.block ?_ | refine WPV.scope ?_ | refine WPV.skip ?_ | refine WPV.label ?_ | refine WPV.exit ?_ | refine WPV.ret ?_ | (refine WPV.regionG (M := noM) ?_; intro N hN ops hy; (try simp only [List.append] at hy ⊢); (try simp only [List.map_cons, List.map_nil] at hy)) | (refine WPV.drawK (M := noM) (by kernel_rfl) (by kernel_rfl) ?_; intro N hN; have hy := yieldedV_eq) | (refine WPV.condK ?_; intro A hA B hB) | (refine here ?_; refine sM ?_) | (refine And.intro (by kernel_rfl : okOrd _ _ = true) ?_) | refine Both.mk ?_ ?_ | (refine hN _ ?_; try clear hN N; try clear hy ops) | (refine hA ?_; clear hA A hB B; try simp only [hz]) | (refine hB ?_; clear hA A hB B; try simp only [hz]) | ((first | refine guardO.mk ?_ ?_ | refine guardD.mk ?_ ?_ | refine Br.mk ?_ ?_) <;> (intro hz; have h := nm hz; try (exfalso; omega)) <;> (have hz := nz hz)) | ((first | rw [if_pos (show _ ∧ _ from ⟨by omega, by omega⟩)] | rw [if_pos (show _ ∧ _ from by simp only [List.length_append, List.length_cons, List.length_nil]; exact ⟨by omega, by omega⟩)]); refine sM ?_) | (simp only [thenV, blockV, if_true, if_false, Nat.reduceEqDiff, reduceCtorEq, imp_self]) | (clear hN N))
  refine WPV.desc (Desc.weakA (tm' := [.ptr 0 3, .sc (.string key), .any, .any, .any, .sc (.int .i64 ((0 : Nat) : Int)), .any, .any, .any, .any, .any, .any, .any, .any, .any, .any, .any, .any, .any, .any, .any, .any, .any, .any, .any]) (h' := [.cells [.sc (.int .i64 p.x), .sc (.int .i64 p.y), .sc (.int .i64 p.z), .sl 1 (ds r.ks), .sl 1 (is r.ws), .sc (.int .i64 r.now)]])) ?_
  refine WPV.loopA (α := Nat) (fun k => r.ks.length - k) (fun k => ⟨[.ptr 0 3, .sc (.string key), .any, .any, .any, .sc (.int .i64 (k : Int)), .any, .any, .any, .any, .any, .any, .any, .any, .any, .any, .any, .any, .any, .any, .any, .any, .any, .any, .any], [.cells [.sc (.int .i64 p.x), .sc (.int .i64 p.y), .sc (.int .i64 p.z), .sl 1 (ds r.ks), .sl 1 (is r.ws), .sc (.int .i64 r.now)]]⟩) (fun k => k ≤ r.ks.length ∧ idx key (r.ks.drop k) k = r.at_ key) (fun k ⟨hk, hJ⟩ H => ?_) 0 ⟨Nat.zero_le _, rfl⟩
  clear hlt hget heq hw
  by_cases h : k < r.ks.length
  · have hlt : ((k : Int) < (r.ks.length : Int)) = True := by simp; omega
    have hget : r.ks[k]? = some r.ks[k] := List.getElem?_eq_getElem h
    have hw : IntKind.i64.wrap ((k : Int) + 1) = ((k + 1 : Nat) : Int) := by rw [wr_i64 (by omega) (by omega)]; rfl
    rw [idx_drop key r.ks k h] at hJ
    generalize r.ks[k] = s at hget hJ
    refine loopV ?_
    cases heq : s.toList == key.toList with
    | true =>
      rw [heq, if_pos rfl] at hJ
      rw [← hJ] at hQ
      have hz : True := trivial
      have hy := yieldedV_eq
      have hL := And.intro @hlt (And.intro @hget (And.intro @heq (@hw)))
      repeat' (first | (refine WPV.seqK ?_; intro N hN) | refine WPV.block ?_ | refine WPV.scope ?_ | refine WPV.skip ?_ | refine WPV.label ?_ | refine WPV.exit ?_ | refine WPV.ret ?_ | (refine WPV.regionG (M := noM) ?_; intro N hN ops hy; (try simp only [List.append] at hy ⊢); (try simp only [List.map_cons, List.map_nil] at hy)) | (refine WPV.drawK (M := noM) (by kernel_rfl) (by kernel_rfl) ?_; intro N hN; have hy := yieldedV_eq) | (refine WPV.condK ?_; intro A hA B hB) | (refine here ?_; refine sM ?_) | (refine And.intro (by kernel_rfl : okOrd _ _ = true) ?_) | refine Both.mk ?_ ?_ | (refine hN _ ?_; try clear hN N; try clear hy ops) | (refine hA ?_; clear hA A hB B; try simp only [hz]) | (refine hB ?_; clear hA A hB B; try simp only [hz]) | ((first | refine guardO.mk ?_ ?_ | refine guardD.mk ?_ ?_ | refine Br.mk ?_ ?_) <;> (intro hz; have h := nm hz; try (exfalso; omega)) <;> (have hz := nz hz)) | ((first | rw [if_pos (show _ ∧ _ from ⟨by omega, by omega⟩)] | rw [if_pos (show _ ∧ _ from by simp only [List.length_append, List.length_cons, List.length_nil]; exact ⟨by omega, by omega⟩)]); refine sM ?_) | (simp only [thenV, blockV, if_true, if_false, Nat.reduceEqDiff, reduceCtorEq, imp_self]) | (clear hN N))
      all_goals (apply And.right; refine hQ _ _ _ .refl ?_ ⟨rfl, rfl⟩)
      · (first | (simp only [go_sem, reduceCtorEq, Nat.reduceAdd, Nat.reduceSub, Nat.reduceMul, Nat.reduceLT, Nat.reduceLeDiff, Int.reduceLT, Int.reduceLE, Int.reduceEq, Int.reduceNe, Int.reduceAdd, Int.reduceSub, Int.reduceMul, Int.reduceToNat, Int.reduceNeg, Int.reducePow, Nat.reducePow, Nat.reduceEqDiff, Nat.reduceBEq, Int.reduceBEq, Int.reduceBNe, Int.reduceNegSucc, Try.results44]; done) | (simp only [go_sem, reduceCtorEq, Nat.reduceAdd, Nat.reduceSub, Nat.reduceMul, Nat.reduceLT, Nat.reduceLeDiff, Int.reduceLT, Int.reduceLE, Int.reduceEq, Int.reduceNe, Int.reduceAdd, Int.reduceSub, Int.reduceMul, Int.reduceToNat, Int.reduceNeg, Int.reducePow, Nat.reducePow, Nat.reduceEqDiff, Nat.reduceBEq, Int.reduceBEq, Int.reduceBNe, Int.reduceNegSucc, Try.results44]; rfl) | rfl)
    | false =>
      rw [heq, if_neg (by simp)] at hJ
      have hz : True := trivial
      have hy := yieldedV_eq
      have hL := And.intro @hlt (And.intro @hget (And.intro @heq (@hw)))
      repeat' (first | (refine WPV.seqK ?_; intro N hN) | refine WPV.block ?_ | refine WPV.scope ?_ | refine WPV.skip ?_ | refine WPV.label ?_ | refine WPV.exit ?_ | refine WPV.ret ?_ | (refine WPV.regionG (M := noM) ?_; intro N hN ops hy; (try simp only [List.append] at hy ⊢); (try simp only [List.map_cons, List.map_nil] at hy)) | (refine WPV.drawK (M := noM) (by kernel_rfl) (by kernel_rfl) ?_; intro N hN; have hy := yieldedV_eq) | (refine WPV.condK ?_; intro A hA B hB) | (refine here ?_; refine sM ?_) | (refine And.intro (by kernel_rfl : okOrd _ _ = true) ?_) | refine Both.mk ?_ ?_ | (refine hN _ ?_; try clear hN N; try clear hy ops) | (refine hA ?_; clear hA A hB B; try simp only [hz]) | (refine hB ?_; clear hA A hB B; try simp only [hz]) | ((first | refine guardO.mk ?_ ?_ | refine guardD.mk ?_ ?_ | refine Br.mk ?_ ?_) <;> (intro hz; have h := nm hz; try (exfalso; omega)) <;> (have hz := nz hz)) | ((first | rw [if_pos (show _ ∧ _ from ⟨by omega, by omega⟩)] | rw [if_pos (show _ ∧ _ from by simp only [List.length_append, List.length_cons, List.length_nil]; exact ⟨by omega, by omega⟩)]); refine sM ?_) | (simp only [thenV, blockV, if_true, if_false, Nat.reduceEqDiff, reduceCtorEq, imp_self]) | (clear hN N))
      exact WPV.desc Desc.weakA (H (k + 1) ⟨h, hJ⟩ (by omega))
  · have hlt : ((k : Int) < (r.ks.length : Int)) = False := by simp; omega
    have hget : True := trivial
    have heq : True := trivial
    have hw : True := trivial
    rw [List.drop_of_length_le (by omega)] at hJ
    rw [← hJ] at hQ
    refine loopV ?_
    have hz : True := trivial
    have hy := yieldedV_eq
    have hL := And.intro @hlt (And.intro @hget (And.intro @heq (@hw)))
    repeat' (first | (refine WPV.seqK ?_; intro N hN) | refine WPV.block ?_ | refine WPV.scope ?_ | refine WPV.skip ?_ | refine WPV.label ?_ | refine WPV.exit ?_ | refine WPV.ret ?_ | (refine WPV.regionG (M := noM) ?_; intro N hN ops hy; (try simp only [List.append] at hy ⊢); (try simp only [List.map_cons, List.map_nil] at hy)) | (refine WPV.drawK (M := noM) (by kernel_rfl) (by kernel_rfl) ?_; intro N hN; have hy := yieldedV_eq) | (refine WPV.condK ?_; intro A hA B hB) | (refine here ?_; refine sM ?_) | (refine And.intro (by kernel_rfl : okOrd _ _ = true) ?_) | refine Both.mk ?_ ?_ | (refine hN _ ?_; try clear hN N; try clear hy ops) | (refine hA ?_; clear hA A hB B; try simp only [hz]) | (refine hB ?_; clear hA A hB B; try simp only [hz]) | ((first | refine guardO.mk ?_ ?_ | refine guardD.mk ?_ ?_ | refine Br.mk ?_ ?_) <;> (intro hz; have h := nm hz; try (exfalso; omega)) <;> (have hz := nz hz)) | ((first | rw [if_pos (show _ ∧ _ from ⟨by omega, by omega⟩)] | rw [if_pos (show _ ∧ _ from by simp only [List.length_append, List.length_cons, List.length_nil]; exact ⟨by omega, by omega⟩)]); refine sM ?_) | (simp only [thenV, blockV, if_true, if_false, Nat.reduceEqDiff, reduceCtorEq, imp_self]) | (clear hN N))
    all_goals (apply And.right; refine hQ _ _ _ .refl ?_ ⟨rfl, rfl⟩)
    · (first | (simp only [go_sem, reduceCtorEq, Nat.reduceAdd, Nat.reduceSub, Nat.reduceMul, Nat.reduceLT, Nat.reduceLeDiff, Int.reduceLT, Int.reduceLE, Int.reduceEq, Int.reduceNe, Int.reduceAdd, Int.reduceSub, Int.reduceMul, Int.reduceToNat, Int.reduceNeg, Int.reducePow, Nat.reducePow, Nat.reduceEqDiff, Nat.reduceBEq, Int.reduceBEq, Int.reduceBNe, Int.reduceNegSucc, Try.results44]; done) | (simp only [go_sem, reduceCtorEq, Nat.reduceAdd, Nat.reduceSub, Nat.reduceMul, Nat.reduceLT, Nat.reduceLeDiff, Int.reduceLT, Int.reduceLE, Int.reduceEq, Int.reduceNe, Int.reduceAdd, Int.reduceSub, Int.reduceMul, Int.reduceToNat, Int.reduceNeg, Int.reducePow, Nat.reducePow, Nat.reduceEqDiff, Nat.reduceBEq, Int.reduceBEq, Int.reduceBNe, Int.reduceNegSucc, Try.results44]; rfl) | rfl)

set_option maxRecDepth 100000 in
set_option maxHeartbeats 4000000 in
theorem rdcomes3_1 (p : Clk) (r : Rdi) (key : ByteArray) (hlen : ((r.ks.length : Int) < 8) = True) (hl : r.ks.length ≤ 8) (hl2 : r.ws.length ≤ 8) (hw : IntKind.i64.wrap (r.now + 1) = r.now + 1) : Sp Try.prog K 84 [.ptr 0 3, .sc (.string key)] [r.ob3 p] fun u hh => u = .undef ∧ hh = [(⟨r.ks ++ [key], r.ws ++ [r.now + 1], r.now + 1⟩ : Rdi).ob3 p] := by
  unfold Rdi.ob3
  refine Sp.of_bodyD Try.func84 rfl ?_
  intro Q hQ
  simp only [List.replicate, List.length_cons, List.length_nil, Try.ntmps84, Nat.reduceAdd, Nat.reduceSub, List.cons_append, List.nil_append, go_sem]
  have hz : True := trivial
  have hy := yieldedV_eq
  have hL := And.intro @hlen (@hw)
  repeat' (first | (refine WPV.seqK ?_; intro N hN) | refine WPV.block ?_ | refine WPV.scope ?_ | refine WPV.skip ?_ | refine WPV.label ?_ | refine WPV.exit ?_ | refine WPV.ret ?_ | (refine WPV.regionG (M := noM) ?_; intro N hN ops hy; (try simp only [List.append] at hy ⊢); (try simp only [List.map_cons, List.map_nil] at hy)) | (refine WPV.drawK (M := noM) (by kernel_rfl) (by kernel_rfl) ?_; intro N hN; have hy := yieldedV_eq) | (refine WPV.condK ?_; intro A hA B hB) | (refine here ?_; refine sM ?_) | (refine And.intro (by kernel_rfl : okOrd _ _ = true) ?_) | refine Both.mk ?_ ?_ | (refine hN _ ?_; try clear hN N; try clear hy ops) | (refine hA ?_; clear hA A hB B; try simp only [hz]) | (refine hB ?_; clear hA A hB B; try simp only [hz]) | ((first | refine guardO.mk ?_ ?_ | refine guardD.mk ?_ ?_ | refine Br.mk ?_ ?_) <;> (intro hz; have h := nm hz; try (exfalso; omega)) <;> (have hz := nz hz)) | ((first | rw [if_pos (show _ ∧ _ from ⟨by omega, by omega⟩)] | rw [if_pos (show _ ∧ _ from by simp only [List.length_append, List.length_cons, List.length_nil]; exact ⟨by omega, by omega⟩)]); refine sM ?_) | (simp only [thenV, blockV, if_true, if_false, Nat.reduceEqDiff, reduceCtorEq, imp_self]) | (clear hN N))
  all_goals (apply And.right; refine hQ _ _ .undef (Desc.re [some 0] rfl) ?_ ⟨rfl, ?_⟩)
  · (first | (simp only [go_sem, reduceCtorEq, Nat.reduceAdd, Nat.reduceSub, Nat.reduceMul, Nat.reduceLT, Nat.reduceLeDiff, Int.reduceLT, Int.reduceLE, Int.reduceEq, Int.reduceNe, Int.reduceAdd, Int.reduceSub, Int.reduceMul, Int.reduceToNat, Int.reduceNeg, Int.reducePow, Nat.reducePow, Nat.reduceEqDiff, Nat.reduceBEq, Int.reduceBEq, Int.reduceBNe, Int.reduceNegSucc, Try.results84]; done) | (simp only [go_sem, reduceCtorEq, Nat.reduceAdd, Nat.reduceSub, Nat.reduceMul, Nat.reduceLT, Nat.reduceLeDiff, Int.reduceLT, Int.reduceLE, Int.reduceEq, Int.reduceNe, Int.reduceAdd, Int.reduceSub, Int.reduceMul, Int.reduceToNat, Int.reduceNeg, Int.reducePow, Nat.reducePow, Nat.reduceEqDiff, Nat.reduceBEq, Int.reduceBEq, Int.reduceBNe, Int.reduceNegSucc, Try.results84]; rfl) | rfl)
  · (first | (simp only [go_sem, reduceCtorEq, Nat.reduceAdd, Nat.reduceSub, Nat.reduceMul, Nat.reduceLT, Nat.reduceLeDiff, Int.reduceLT, Int.reduceLE, Int.reduceEq, Int.reduceNe, Int.reduceAdd, Int.reduceSub, Int.reduceMul, Int.reduceToNat, Int.reduceNeg, Int.reducePow, Nat.reducePow, Nat.reduceEqDiff, Nat.reduceBEq, Int.reduceBEq, Int.reduceBNe, Int.reduceNegSucc]; done) | (simp only [go_sem, reduceCtorEq, Nat.reduceAdd, Nat.reduceSub, Nat.reduceMul, Nat.reduceLT, Nat.reduceLeDiff, Int.reduceLT, Int.reduceLE, Int.reduceEq, Int.reduceNe, Int.reduceAdd, Int.reduceSub, Int.reduceMul, Int.reduceToNat, Int.reduceNeg, Int.reducePow, Nat.reducePow, Nat.reduceEqDiff, Nat.reduceBEq, Int.reduceBEq, Int.reduceBNe, Int.reduceNegSucc]; rfl) | rfl)


set_option maxRecDepth 100000 in
set_option maxHeartbeats 4000000 in
theorem rdcomes3_2 (p : Clk) (r : Rdi) (key : ByteArray) (hlen : ((r.ks.length : Int) < 8) = False) (hl : r.ks.length = 8) (hl2 : r.ws.length = 8) (hw : IntKind.i64.wrap (r.now + 1) = r.now + 1) : Sp Try.prog K 84 [.ptr 0 3, .sc (.string key)] [r.ob3 p] fun u hh => u = .undef ∧ hh = [(⟨r.ks.set (firstN r.ws 8) key, r.ws.set (firstN r.ws 8) (r.now + 1), r.now + 1⟩ : Rdi).ob3 p] := by
  unfold Rdi.ob3
  have hi : True := trivial
  have hg1 : True := trivial
  have hg2 : True := trivial
  have hlt1 : True := trivial
  have hlt2 : True := trivial
  have hcmp : True := trivial
  have hwi : True := trivial
  have hf1 : True := trivial
  have hf2 : True := trivial
  have hs1 : True := trivial
  have hs2 : True := trivial
  have ht1 : True := trivial
  have ht2 : True := trivial
  have hc1 : True := trivial
  have hc2 : True := trivial
  refine Sp.of_bodyD Try.func84 rfl ?_
  intro Q hQ
  simp only [List.replicate, List.length_cons, List.length_nil, Try.ntmps84, Nat.reduceAdd, Nat.reduceSub, List.cons_append, List.nil_append, go_sem]
  have hz : True := trivial
  have hy := yieldedV_eq
  have hL := And.intro @hlen (And.intro @hw (And.intro @hi (And.intro @hg1 (And.intro @hg2 (And.intro @hlt1 (And.intro @hlt2 (And.intro @hcmp (And.intro @hwi (And.intro @hf1 (And.intro @hf2 (And.intro @hs1 (And.intro @hs2 (And.intro @ht1 (And.intro @ht2 (And.intro @hc1 (@hc2))))))))))))))))
  repeat' (first | (refine WPV.seqK ?_; intro N hN) | refine WPV.block ?_ | refine WPV.scope ?_ | refine WPV.skip ?_ | refine WPV.label ?_ | refine WPV.exit ?_ | refine WPV.ret ?_ | (refine WPV.regionG (M := inM [58, 59]) ?_; intro N hN ops hy; (try simp only [List.append] at hy ⊢); (try simp only [List.map_cons, List.map_nil] at hy)) | (refine WPV.drawK (M := inM [58, 59]) (by kernel_rfl) (by kernel_rfl) ?_; intro N hN; have hy := yieldedV_eq) | (refine WPV.condK ?_; intro A hA B hB) | (refine here ?_; simp (config := {contextual := true, maxSteps := 1000000}) only [hy, hz, go_sem, reduceCtorEq, Nat.reduceAdd, Nat.reduceSub, Nat.reduceMul, Nat.reduceLT, Nat.reduceLeDiff, Int.reduceLT, Int.reduceLE, Int.reduceEq, Int.reduceNe, Int.reduceAdd, Int.reduceSub, Int.reduceMul, Int.reduceToNat, Int.reduceNeg, Int.reducePow, Nat.reducePow, Nat.reduceEqDiff, Nat.reduceBEq, Int.reduceBEq, Int.reduceBNe, Int.reduceNegSucc, hlen, hw, hi, hg1, hg2, hlt1, hlt2, hcmp, hwi, hf1, hf2, hs1, hs2, ht1, ht2, hc1, hc2, List.length_set]) | (refine And.intro (by kernel_rfl : okOrd _ _ = true) ?_) | refine Both.mk ?_ ?_ | (refine hN _ ?_; try clear hN N; try clear hy ops) | (refine hA ?_; clear hA A hB B; try simp only [hz]) | (refine hB ?_; clear hA A hB B; try simp only [hz]) | ((first | refine guardO.mk ?_ ?_ | refine guardD.mk ?_ ?_ | refine Br.mk ?_ ?_) <;> (intro hz; have h := nm hz; try (exfalso; omega)) <;> (have hz := nz hz)) | ((first | rw [if_pos (show _ ∧ _ from ⟨by omega, by omega⟩)] | rw [if_pos (show _ ∧ _ from by simp only [List.length_append, List.length_cons, List.length_nil]; exact ⟨by omega, by omega⟩)]); simp (config := {contextual := true, maxSteps := 1000000}) only [hy, hz, go_sem, reduceCtorEq, Nat.reduceAdd, Nat.reduceSub, Nat.reduceMul, Nat.reduceLT, Nat.reduceLeDiff, Int.reduceLT, Int.reduceLE, Int.reduceEq, Int.reduceNe, Int.reduceAdd, Int.reduceSub, Int.reduceMul, Int.reduceToNat, Int.reduceNeg, Int.reducePow, Nat.reducePow, Nat.reduceEqDiff, Nat.reduceBEq, Int.reduceBEq, Int.reduceBNe, Int.reduceNegSucc, hlen, hw, hi, hg1, hg2, hlt1, hlt2, hcmp, hwi, hf1, hf2, hs1, hs2, ht1, ht2, hc1, hc2, List.length_set]) | (simp only [thenV, blockV, if_true, if_false, Nat.reduceEqDiff, reduceCtorEq, imp_self]) | (clear hN N))
  have e0 : (0 : Int) = ((firstN r.ws 1 : Nat) : Int) := by simp [firstN]
  refine WPV.desc (Desc.weakA (tm' := [.ptr 0 3, .sc (.string key), .any, .any, .sc (.int .i64 (0 : Int)), .sc (.int .i64 ((1 : Nat) : Int)), .any, .any, .any, .any, .any, .any, .any, .any, .any, .any, .any, .any, .any, .any, .any, .any, .any, .any, .any, .any, .any, .any, .any, .any, .any, .any, .any, .any, .any, .any, .any, .any, .any, .any, .any, .any, .any, .any, .any, .any, .any, .any, .any, .any, .any, .any, .any, .any, .any, .any, .any, .any, .any, .any, .any, .any, .any, .any, .any, .any, .any, .any, .any, .any, .any, .any, .any, .any, .any, .any, .any, .any, .any, .any, .any, .any, .any, .any, .any, .any, .any, .any, .any, .any, .any, .any, .any, .any, .any, .any, .any, .any, .any, .any, .any]) (h' := [.cells [.sc (.int .i64 p.x), .sc (.int .i64 p.y), .sc (.int .i64 p.z), .sl 1 (ds r.ks), .sl 1 (is r.ws), .sc (.int .i64 (r.now + 1))]])) ?_
  rw [e0]
  refine WPV.loopA (α := Nat) (fun k => 8 - k) (fun k => ⟨[.ptr 0 3, .sc (.string key), .any, .any, .sc (.int .i64 (firstN r.ws k : Nat)), .sc (.int .i64 (k : Int)), .any, .any, .any, .any, .any, .any, .any, .any, .any, .any, .any, .any, .any, .any, .any, .any, .any, .any, .any, .any, .any, .any, .any, .any, .any, .any, .any, .any, .any, .any, .any, .any, .any, .any, .any, .any, .any, .any, .any, .any, .any, .any, .any, .any, .any, .any, .any, .any, .any, .any, .any, .any, .any, .any, .any, .any, .any, .any, .any, .any, .any, .any, .any, .any, .any, .any, .any, .any, .any, .any, .any, .any, .any, .any, .any, .any, .any, .any, .any, .any, .any, .any, .any, .any, .any, .any, .any, .any, .any, .any, .any, .any, .any, .any, .any], [.cells [.sc (.int .i64 p.x), .sc (.int .i64 p.y), .sc (.int .i64 p.z), .sl 1 (ds r.ks), .sl 1 (is r.ws), .sc (.int .i64 (r.now + 1))]]⟩) (fun k => 1 ≤ k ∧ k ≤ 8) (fun k ⟨hk1, hk⟩ H => ?_) 1 ⟨by omega, by omega⟩
  clear hi hg1 hg2 hlt1 hlt2 hcmp hwi
  have hfl := firstN_lt r.ws k (by omega)
  by_cases h : k < 8
  · have hi : ((k : Int) < 8) = True := by simp; omega
    have hg1 : r.ws[k]? = some (r.ws.getD k 0) := by rw [List.getD_eq_getElem?_getD, List.getElem?_eq_getElem (by omega)]; rfl
    have hg2 : r.ws[firstN r.ws k]? = some (r.ws.getD (firstN r.ws k) 0) := by rw [List.getD_eq_getElem?_getD, List.getElem?_eq_getElem (by omega)]; rfl
    have hlt1 : ((k : Int) < (r.ws.length : Int)) = True := by simp; omega
    have hlt2 : (((firstN r.ws k : Nat) : Int) < (r.ws.length : Int)) = True := by simp; omega
    have hwi : IntKind.i64.wrap ((k : Int) + 1) = ((k + 1 : Nat) : Int) := by rw [wr_i64 (by omega) (by omega)]; rfl
    have H' := H (k + 1) ⟨by omega, by omega⟩ (by omega)
    clear H
    unfold firstN at H'
    refine loopV ?_
    by_cases hc : r.ws.getD k 0 < r.ws.getD (firstN r.ws k) 0
    · have hcmp : (r.ws.getD k 0 < r.ws.getD (firstN r.ws k) 0) = True := eq_true hc
      rw [if_pos hc] at H'
      have hz : True := trivial
      have hy := yieldedV_eq
      have hL := And.intro @hlen (And.intro @hw (And.intro @hi (And.intro @hg1 (And.intro @hg2 (And.intro @hlt1 (And.intro @hlt2 (And.intro @hcmp (And.intro @hwi (And.intro @hf1 (And.intro @hf2 (And.intro @hs1 (And.intro @hs2 (And.intro @ht1 (And.intro @ht2 (And.intro @hc1 (@hc2))))))))))))))))
      repeat' (first | (refine WPV.seqK ?_; intro N hN) | refine WPV.block ?_ | refine WPV.scope ?_ | refine WPV.skip ?_ | refine WPV.label ?_ | refine WPV.exit ?_ | refine WPV.ret ?_ | (refine WPV.regionG (M := inM [58, 59]) ?_; intro N hN ops hy; (try simp only [List.append] at hy ⊢); (try simp only [List.map_cons, List.map_nil] at hy)) | (refine WPV.drawK (M := inM [58, 59]) (by kernel_rfl) (by kernel_rfl) ?_; intro N hN; have hy := yieldedV_eq) | (refine WPV.condK ?_; intro A hA B hB) | (refine here ?_; simp (config := {contextual := true, maxSteps := 1000000}) only [hy, hz, go_sem, reduceCtorEq, Nat.reduceAdd, Nat.reduceSub, Nat.reduceMul, Nat.reduceLT, Nat.reduceLeDiff, Int.reduceLT, Int.reduceLE, Int.reduceEq, Int.reduceNe, Int.reduceAdd, Int.reduceSub, Int.reduceMul, Int.reduceToNat, Int.reduceNeg, Int.reducePow, Nat.reducePow, Nat.reduceEqDiff, Nat.reduceBEq, Int.reduceBEq, Int.reduceBNe, Int.reduceNegSucc, hlen, hw, hi, hg1, hg2, hlt1, hlt2, hcmp, hwi, hf1, hf2, hs1, hs2, ht1, ht2, hc1, hc2, List.length_set]) | (refine And.intro (by kernel_rfl : okOrd _ _ = true) ?_) | refine Both.mk ?_ ?_ | (refine hN _ ?_; try clear hN N; try clear hy ops) | (refine hA ?_; clear hA A hB B; try simp only [hz]) | (refine hB ?_; clear hA A hB B; try simp only [hz]) | ((first | refine guardO.mk ?_ ?_ | refine guardD.mk ?_ ?_ | refine Br.mk ?_ ?_) <;> (intro hz; have h := nm hz; try (exfalso; omega)) <;> (have hz := nz hz)) | ((first | rw [if_pos (show _ ∧ _ from ⟨by omega, by omega⟩)] | rw [if_pos (show _ ∧ _ from by simp only [List.length_append, List.length_cons, List.length_nil]; exact ⟨by omega, by omega⟩)]); simp (config := {contextual := true, maxSteps := 1000000}) only [hy, hz, go_sem, reduceCtorEq, Nat.reduceAdd, Nat.reduceSub, Nat.reduceMul, Nat.reduceLT, Nat.reduceLeDiff, Int.reduceLT, Int.reduceLE, Int.reduceEq, Int.reduceNe, Int.reduceAdd, Int.reduceSub, Int.reduceMul, Int.reduceToNat, Int.reduceNeg, Int.reducePow, Nat.reducePow, Nat.reduceEqDiff, Nat.reduceBEq, Int.reduceBEq, Int.reduceBNe, Int.reduceNegSucc, hlen, hw, hi, hg1, hg2, hlt1, hlt2, hcmp, hwi, hf1, hf2, hs1, hs2, ht1, ht2, hc1, hc2, List.length_set]) | (simp only [thenV, blockV, if_true, if_false, Nat.reduceEqDiff, reduceCtorEq, imp_self]) | (clear hN N))
      exact WPV.desc Desc.weakA H'
    · have hcmp : (r.ws.getD k 0 < r.ws.getD (firstN r.ws k) 0) = False := eq_false hc
      rw [if_neg hc] at H'
      have hz : True := trivial
      have hy := yieldedV_eq
      have hL := And.intro @hlen (And.intro @hw (And.intro @hi (And.intro @hg1 (And.intro @hg2 (And.intro @hlt1 (And.intro @hlt2 (And.intro @hcmp (And.intro @hwi (And.intro @hf1 (And.intro @hf2 (And.intro @hs1 (And.intro @hs2 (And.intro @ht1 (And.intro @ht2 (And.intro @hc1 (@hc2))))))))))))))))
      repeat' (first | (refine WPV.seqK ?_; intro N hN) | refine WPV.block ?_ | refine WPV.scope ?_ | refine WPV.skip ?_ | refine WPV.label ?_ | refine WPV.exit ?_ | refine WPV.ret ?_ | (refine WPV.regionG (M := inM [58, 59]) ?_; intro N hN ops hy; (try simp only [List.append] at hy ⊢); (try simp only [List.map_cons, List.map_nil] at hy)) | (refine WPV.drawK (M := inM [58, 59]) (by kernel_rfl) (by kernel_rfl) ?_; intro N hN; have hy := yieldedV_eq) | (refine WPV.condK ?_; intro A hA B hB) | (refine here ?_; simp (config := {contextual := true, maxSteps := 1000000}) only [hy, hz, go_sem, reduceCtorEq, Nat.reduceAdd, Nat.reduceSub, Nat.reduceMul, Nat.reduceLT, Nat.reduceLeDiff, Int.reduceLT, Int.reduceLE, Int.reduceEq, Int.reduceNe, Int.reduceAdd, Int.reduceSub, Int.reduceMul, Int.reduceToNat, Int.reduceNeg, Int.reducePow, Nat.reducePow, Nat.reduceEqDiff, Nat.reduceBEq, Int.reduceBEq, Int.reduceBNe, Int.reduceNegSucc, hlen, hw, hi, hg1, hg2, hlt1, hlt2, hcmp, hwi, hf1, hf2, hs1, hs2, ht1, ht2, hc1, hc2, List.length_set]) | (refine And.intro (by kernel_rfl : okOrd _ _ = true) ?_) | refine Both.mk ?_ ?_ | (refine hN _ ?_; try clear hN N; try clear hy ops) | (refine hA ?_; clear hA A hB B; try simp only [hz]) | (refine hB ?_; clear hA A hB B; try simp only [hz]) | ((first | refine guardO.mk ?_ ?_ | refine guardD.mk ?_ ?_ | refine Br.mk ?_ ?_) <;> (intro hz; have h := nm hz; try (exfalso; omega)) <;> (have hz := nz hz)) | ((first | rw [if_pos (show _ ∧ _ from ⟨by omega, by omega⟩)] | rw [if_pos (show _ ∧ _ from by simp only [List.length_append, List.length_cons, List.length_nil]; exact ⟨by omega, by omega⟩)]); simp (config := {contextual := true, maxSteps := 1000000}) only [hy, hz, go_sem, reduceCtorEq, Nat.reduceAdd, Nat.reduceSub, Nat.reduceMul, Nat.reduceLT, Nat.reduceLeDiff, Int.reduceLT, Int.reduceLE, Int.reduceEq, Int.reduceNe, Int.reduceAdd, Int.reduceSub, Int.reduceMul, Int.reduceToNat, Int.reduceNeg, Int.reducePow, Nat.reducePow, Nat.reduceEqDiff, Nat.reduceBEq, Int.reduceBEq, Int.reduceBNe, Int.reduceNegSucc, hlen, hw, hi, hg1, hg2, hlt1, hlt2, hcmp, hwi, hf1, hf2, hs1, hs2, ht1, ht2, hc1, hc2, List.length_set]) | (simp only [thenV, blockV, if_true, if_false, Nat.reduceEqDiff, reduceCtorEq, imp_self]) | (clear hN N))
      exact WPV.desc Desc.weakA H'
  · obtain rfl : k = 8 := by omega
    have hi : (((8 : Nat) : Int) < 8) = False := by simp
    have hg1 : True := trivial
    have hg2 : True := trivial
    have hcmp : True := trivial
    have hwi : True := trivial
    have hlt1 : (((firstN r.ws 8 : Nat) : Int) < (r.ks.length : Int)) = True := by simp; omega
    have hlt2 : (((firstN r.ws 8 : Nat) : Int) < (r.ws.length : Int)) = True := by simp; omega
    have hf1 : (firstN r.ws 8 < r.ks.length) = True := by simp; omega
    have hf2 : (firstN r.ws 8 < r.ws.length) = True := by simp; omega
    have hs1 : (firstN r.ws 8 + 1 ≤ r.ks.length) = True := by simp; omega
    have hs2 : (firstN r.ws 8 + 1 ≤ r.ws.length) = True := by simp; omega
    have hf1' := of_eq_true hf1
    have hf2' := of_eq_true hf2
    generalize firstN r.ws 8 = f at *
    have ht1 := set_eq r.ks key f hf1'
    have ht2 := set_eq r.ws (r.now + 1) f hf2'
    have hc1 : chunks 1 r.ks.length (kd (r.ks.set f key)) = ds (r.ks.set f key) := by have := kd_chunks (r.ks.set f key); rwa [List.length_set] at this
    have hc2 : chunks 1 r.ws.length (id' (r.ws.set f (r.now + 1))) = is (r.ws.set f (r.now + 1)) := by have := id_chunks (r.ws.set f (r.now + 1)); rwa [List.length_set] at this
    refine loopV ?_
    have hz : True := trivial
    have hy := yieldedV_eq
    have hL := And.intro @hlen (And.intro @hw (And.intro @hi (And.intro @hg1 (And.intro @hg2 (And.intro @hlt1 (And.intro @hlt2 (And.intro @hcmp (And.intro @hwi (And.intro @hf1 (And.intro @hf2 (And.intro @hs1 (And.intro @hs2 (And.intro @ht1 (And.intro @ht2 (And.intro @hc1 (@hc2))))))))))))))))
    repeat' (first | (refine WPV.seqK ?_; intro N hN) | refine WPV.block ?_ | refine WPV.scope ?_ | refine WPV.skip ?_ | refine WPV.label ?_ | refine WPV.exit ?_ | refine WPV.ret ?_ | (refine WPV.regionG (M := inM [58, 59]) ?_; intro N hN ops hy; (try simp only [List.append] at hy ⊢); (try simp only [List.map_cons, List.map_nil] at hy)) | (refine WPV.drawK (M := inM [58, 59]) (by kernel_rfl) (by kernel_rfl) ?_; intro N hN; have hy := yieldedV_eq) | (refine WPV.condK ?_; intro A hA B hB) | (refine here ?_; simp (config := {contextual := true, maxSteps := 1000000}) only [hy, hz, go_sem, reduceCtorEq, Nat.reduceAdd, Nat.reduceSub, Nat.reduceMul, Nat.reduceLT, Nat.reduceLeDiff, Int.reduceLT, Int.reduceLE, Int.reduceEq, Int.reduceNe, Int.reduceAdd, Int.reduceSub, Int.reduceMul, Int.reduceToNat, Int.reduceNeg, Int.reducePow, Nat.reducePow, Nat.reduceEqDiff, Nat.reduceBEq, Int.reduceBEq, Int.reduceBNe, Int.reduceNegSucc, hlen, hw, hi, hg1, hg2, hlt1, hlt2, hcmp, hwi, hf1, hf2, hs1, hs2, ht1, ht2, hc1, hc2, List.length_set]) | (refine And.intro (by kernel_rfl : okOrd _ _ = true) ?_) | refine Both.mk ?_ ?_ | (refine hN _ ?_; try clear hN N; try clear hy ops) | (refine hA ?_; clear hA A hB B; try simp only [hz]) | (refine hB ?_; clear hA A hB B; try simp only [hz]) | ((first | refine guardO.mk ?_ ?_ | refine guardD.mk ?_ ?_ | refine Br.mk ?_ ?_) <;> (intro hz; have h := nm hz; try (exfalso; omega)) <;> (have hz := nz hz)) | ((first | rw [if_pos (show _ ∧ _ from ⟨by omega, by omega⟩)] | rw [if_pos (show _ ∧ _ from by simp only [List.length_append, List.length_cons, List.length_nil]; exact ⟨by omega, by omega⟩)]); simp (config := {contextual := true, maxSteps := 1000000}) only [hy, hz, go_sem, reduceCtorEq, Nat.reduceAdd, Nat.reduceSub, Nat.reduceMul, Nat.reduceLT, Nat.reduceLeDiff, Int.reduceLT, Int.reduceLE, Int.reduceEq, Int.reduceNe, Int.reduceAdd, Int.reduceSub, Int.reduceMul, Int.reduceToNat, Int.reduceNeg, Int.reducePow, Nat.reducePow, Nat.reduceEqDiff, Nat.reduceBEq, Int.reduceBEq, Int.reduceBNe, Int.reduceNegSucc, hlen, hw, hi, hg1, hg2, hlt1, hlt2, hcmp, hwi, hf1, hf2, hs1, hs2, ht1, ht2, hc1, hc2, List.length_set]) | (simp only [thenV, blockV, if_true, if_false, Nat.reduceEqDiff, reduceCtorEq, imp_self]) | (clear hN N))
    all_goals (apply And.left; refine hQ _ _ .undef ((Desc.freeze 2 rfl (kc_toDs _)).trans ((Desc.freeze 4 (by first | rfl | (first | (simp only [go_sem, reduceCtorEq, Nat.reduceAdd, Nat.reduceSub, Nat.reduceMul, Nat.reduceLT, Nat.reduceLeDiff, Int.reduceLT, Int.reduceLE, Int.reduceEq, Int.reduceNe, Int.reduceAdd, Int.reduceSub, Int.reduceMul, Int.reduceToNat, Int.reduceNeg, Int.reducePow, Nat.reducePow, Nat.reduceEqDiff, Nat.reduceBEq, Int.reduceBEq, Int.reduceBNe, Int.reduceNegSucc]; done) | (simp only [go_sem, reduceCtorEq, Nat.reduceAdd, Nat.reduceSub, Nat.reduceMul, Nat.reduceLT, Nat.reduceLeDiff, Int.reduceLT, Int.reduceLE, Int.reduceEq, Int.reduceNe, Int.reduceAdd, Int.reduceSub, Int.reduceMul, Int.reduceToNat, Int.reduceNeg, Int.reducePow, Nat.reducePow, Nat.reduceEqDiff, Nat.reduceBEq, Int.reduceBEq, Int.reduceBNe, Int.reduceNegSucc]; rfl) | rfl)) (ic_toDs _)).trans (Desc.re [some 0] rfl))) ?_ ⟨rfl, ?_⟩)
    · (first | (simp only [go_sem, reduceCtorEq, Nat.reduceAdd, Nat.reduceSub, Nat.reduceMul, Nat.reduceLT, Nat.reduceLeDiff, Int.reduceLT, Int.reduceLE, Int.reduceEq, Int.reduceNe, Int.reduceAdd, Int.reduceSub, Int.reduceMul, Int.reduceToNat, Int.reduceNeg, Int.reducePow, Nat.reducePow, Nat.reduceEqDiff, Nat.reduceBEq, Int.reduceBEq, Int.reduceBNe, Int.reduceNegSucc, Try.results84]; done) | (simp only [go_sem, reduceCtorEq, Nat.reduceAdd, Nat.reduceSub, Nat.reduceMul, Nat.reduceLT, Nat.reduceLeDiff, Int.reduceLT, Int.reduceLE, Int.reduceEq, Int.reduceNe, Int.reduceAdd, Int.reduceSub, Int.reduceMul, Int.reduceToNat, Int.reduceNeg, Int.reducePow, Nat.reducePow, Nat.reduceEqDiff, Nat.reduceBEq, Int.reduceBEq, Int.reduceBNe, Int.reduceNegSucc, Try.results84]; rfl) | rfl)
    · (first | (simp only [go_sem, reduceCtorEq, Nat.reduceAdd, Nat.reduceSub, Nat.reduceMul, Nat.reduceLT, Nat.reduceLeDiff, Int.reduceLT, Int.reduceLE, Int.reduceEq, Int.reduceNe, Int.reduceAdd, Int.reduceSub, Int.reduceMul, Int.reduceToNat, Int.reduceNeg, Int.reducePow, Nat.reducePow, Nat.reduceEqDiff, Nat.reduceBEq, Int.reduceBEq, Int.reduceBNe, Int.reduceNegSucc, hlen, hw, hi, hg1, hg2, hlt1, hlt2, hcmp, hwi, hf1, hf2, hs1, hs2, ht1, ht2, hc1, hc2, List.length_set]; done) | (simp only [go_sem, reduceCtorEq, Nat.reduceAdd, Nat.reduceSub, Nat.reduceMul, Nat.reduceLT, Nat.reduceLeDiff, Int.reduceLT, Int.reduceLE, Int.reduceEq, Int.reduceNe, Int.reduceAdd, Int.reduceSub, Int.reduceMul, Int.reduceToNat, Int.reduceNeg, Int.reducePow, Nat.reducePow, Nat.reduceEqDiff, Nat.reduceBEq, Int.reduceBEq, Int.reduceBNe, Int.reduceNegSucc, hlen, hw, hi, hg1, hg2, hlt1, hlt2, hcmp, hwi, hf1, hf2, hs1, hs2, ht1, ht2, hc1, hc2, List.length_set]; rfl) | rfl)


theorem rdcomes3_s (p : Clk) (r : Rdi) (key : ByteArray) (h8 : r.ks.length ≤ 8) (hws : r.ws.length = r.ks.length) (hw : 0 ≤ r.now ∧ r.now ≤ 1000000) : Sp Try.prog K 84 [.ptr 0 3, .sc (.string key)] [r.ob3 p] fun u hh => u = .undef ∧ hh = [(r.comes key).ob3 p] := by
  unfold Rdi.comes
  by_cases h : r.ks.length < 8
  · rw [if_pos h]; exact rdcomes3_1 p r key (by simp; omega) h8 (by omega) (wr_i64 (by omega) (by omega))
  · rw [if_neg h]; exact rdcomes3_2 p r key (by simp; omega) (by omega) (by omega) (wr_i64 (by omega) (by omega))

set_option maxRecDepth 100000 in
set_option maxHeartbeats 1000000 in
theorem rdput3_s (p : Clk) (r : Rdi) (k : ByteArray) (h8 : r.ks.length ≤ 8) (hws : r.ws.length = r.ks.length) (hn : 0 ≤ r.now ∧ r.now ≤ 1000000) : Sp Try.prog K 36 [.ptr 0 3, .sc (.string k)] [r.ob3 p] fun u hh => u = dpV (r.put k).1 ∧ hh = [(r.put k).2.ob3 p] := by
  have hb := idx_bd k r.ks 0
  have hw1 : True := trivial
  have hw2 : True := trivial
  have hw3 : True := trivial
  have hsz : True := trivial
  by_cases h64 : 64 < k.size
  · have e : r.put k = (([], 4), r) := if_pos h64
    rw [e]
    refine Sp.wkR (v := .tup [.sc (.slice none 0 0), .sc (.int .i64 4)]) ?_ (.tup (.null (.same .nil)))
    have hlen : ((64 : Int) < (k.size : Int)) = True := by simp; omega
    have hat : True := trivial
    refine Sp.of_bodyD Try.func36 rfl ?_
    intro Q hQ
    simp only [List.replicate, List.length_cons, List.length_nil, Try.ntmps36, Nat.reduceAdd, Nat.reduceSub, List.cons_append, List.nil_append, go_sem]
    have hz : True := trivial
    have hy := yieldedV_eq
    have hL := And.intro @hlen (And.intro @hat (And.intro @hw1 (And.intro @hw2 (And.intro @hw3 (@hsz)))))
    repeat' (first | (refine WPV.seqK ?_; intro N hN) | refine WPV.block ?_ | refine WPV.scope ?_ | refine WPV.skip ?_ | refine WPV.label ?_ | refine WPV.exit ?_ | refine WPV.ret ?_ | (refine WPV.regionG (M := noM) ?_; intro N hN ops hy; (try simp only [List.append] at hy ⊢); (try simp only [List.map_cons, List.map_nil] at hy)) | (refine WPV.drawK (M := noM) (by kernel_rfl) (by kernel_rfl) ?_; intro N hN; have hy := yieldedV_eq) | (refine WPV.condK ?_; intro A hA B hB) | (refine here ?_; refine sM ?_) | (refine And.intro (by kernel_rfl : okOrd _ _ = true) ?_) | refine Both.mk ?_ ?_ | ((with_reducible refine CallO.gd 44 ?_); refine CallO.frA [0] Try.call44 (rdat3_s p r k (by omega)) ?_) | ((with_reducible refine CallO.gd 84 ?_); refine CallO.frA [0] Try.call84 (rdcomes3_s p r k h8 hws hn) ?_) | ((with_reducible refine CallO.gd 83 ?_); first | refine CallO.toA Try.call83 (vrput_s (m := r.at_ k + 1) (by omega) (by omega) _) ?_ | refine CallO.toA Try.call83 (vrput_s (m := (k.size : Int)) (by omega) (by omega) _) ?_ | refine CallO.toA Try.call83 (vrput_s (m := 0) (by omega) (by omega) _) ?_) | ((with_reducible refine CallP.gd 83 ?_); first | refine CallP.toA Try.call83 (vrput_s (m := r.at_ k + 1) (by omega) (by omega) _) ?_ | refine CallP.toA Try.call83 (vrput_s (m := (k.size : Int)) (by omega) (by omega) _) ?_ | refine CallP.toA Try.call83 (vrput_s (m := 0) (by omega) (by omega) _) ?_) | (refine hN _ ?_; try clear hN N; try clear hy ops) | (refine hA ?_; clear hA A hB B; try simp only [hz]) | (refine hB ?_; clear hA A hB B; try simp only [hz]) | ((first | refine guardO.mk ?_ ?_ | refine guardD.mk ?_ ?_ | refine Br.mk ?_ ?_) <;> (intro hz; have h := nm hz; try (exfalso; omega)) <;> (have hz := nz hz)) | ((first | rw [if_pos (show _ ∧ _ from ⟨by omega, by omega⟩)] | rw [if_pos (show _ ∧ _ from by simp only [List.length_append, List.length_cons, List.length_nil]; exact ⟨by omega, by omega⟩)]); refine sM ?_) | (simp only [thenV, blockV, if_true, if_false, Nat.reduceEqDiff, reduceCtorEq, imp_self]) | (clear hN N))
    all_goals (first | exact retA hQ Try.results36 (Desc.re [some 0] rfl) | exact retN hQ Try.results36 (Desc.re [some 0] rfl))
  · have hlen : ((64 : Int) < (k.size : Int)) = False := by simp; omega
    by_cases h0 : 0 ≤ r.at_ k
    · have e : r.put k = ((vput (r.at_ k + 1).toNat, 0), r) := by unfold Rdi.put; rw [if_neg h64, if_pos h0]
      rw [e]
      have hat : (0 ≤ r.at_ k) = True := eq_true h0
      have hw2 : IntKind.i64.wrap (r.at_ k + 1) = r.at_ k + 1 := by unfold Rdi.at_; exact wr_i64 (by omega) (by omega)
      have hw3 : IntKind.u64.wrap (r.at_ k + 1) = r.at_ k + 1 := by unfold Rdi.at_ at h0 ⊢; exact wr_u64 (by omega) (by omega)
      have hb' : r.at_ k < 9 := by unfold Rdi.at_; omega
      refine Sp.of_bodyD Try.func36 rfl ?_
      intro Q hQ
      simp only [List.replicate, List.length_cons, List.length_nil, Try.ntmps36, Nat.reduceAdd, Nat.reduceSub, List.cons_append, List.nil_append, go_sem]
      have hz : True := trivial
      have hy := yieldedV_eq
      have hL := And.intro @hlen (And.intro @hat (And.intro @hw1 (And.intro @hw2 (And.intro @hw3 (@hsz)))))
      repeat' (first | (refine WPV.seqK ?_; intro N hN) | refine WPV.block ?_ | refine WPV.scope ?_ | refine WPV.skip ?_ | refine WPV.label ?_ | refine WPV.exit ?_ | refine WPV.ret ?_ | (refine WPV.regionG (M := noM) ?_; intro N hN ops hy; (try simp only [List.append] at hy ⊢); (try simp only [List.map_cons, List.map_nil] at hy)) | (refine WPV.drawK (M := noM) (by kernel_rfl) (by kernel_rfl) ?_; intro N hN; have hy := yieldedV_eq) | (refine WPV.condK ?_; intro A hA B hB) | (refine here ?_; refine sM ?_) | (refine And.intro (by kernel_rfl : okOrd _ _ = true) ?_) | refine Both.mk ?_ ?_ | ((with_reducible refine CallO.gd 44 ?_); refine CallO.frA [0] Try.call44 (rdat3_s p r k (by omega)) ?_) | ((with_reducible refine CallO.gd 84 ?_); refine CallO.frA [0] Try.call84 (rdcomes3_s p r k h8 hws hn) ?_) | ((with_reducible refine CallO.gd 83 ?_); first | refine CallO.toA Try.call83 (vrput_s (m := r.at_ k + 1) (by omega) (by omega) _) ?_ | refine CallO.toA Try.call83 (vrput_s (m := (k.size : Int)) (by omega) (by omega) _) ?_ | refine CallO.toA Try.call83 (vrput_s (m := 0) (by omega) (by omega) _) ?_) | ((with_reducible refine CallP.gd 83 ?_); first | refine CallP.toA Try.call83 (vrput_s (m := r.at_ k + 1) (by omega) (by omega) _) ?_ | refine CallP.toA Try.call83 (vrput_s (m := (k.size : Int)) (by omega) (by omega) _) ?_ | refine CallP.toA Try.call83 (vrput_s (m := 0) (by omega) (by omega) _) ?_) | (refine hN _ ?_; try clear hN N; try clear hy ops) | (refine hA ?_; clear hA A hB B; try simp only [hz]) | (refine hB ?_; clear hA A hB B; try simp only [hz]) | ((first | refine guardO.mk ?_ ?_ | refine guardD.mk ?_ ?_ | refine Br.mk ?_ ?_) <;> (intro hz; have h := nm hz; try (exfalso; omega)) <;> (have hz := nz hz)) | ((first | rw [if_pos (show _ ∧ _ from ⟨by omega, by omega⟩)] | rw [if_pos (show _ ∧ _ from by simp only [List.length_append, List.length_cons, List.length_nil]; exact ⟨by omega, by omega⟩)]); refine sM ?_) | (simp only [thenV, blockV, if_true, if_false, Nat.reduceEqDiff, reduceCtorEq, imp_self]) | (clear hN N))
      all_goals (first | exact retA hQ Try.results36 (Desc.re [some 0] rfl) | exact retN hQ Try.results36 (Desc.re [some 0] rfl))
    · have e : r.put k = (([0] ++ vput k.size ++ k.toList, 0), r.comes k) := by unfold Rdi.put; rw [if_neg h64, if_neg h0]
      rw [e]
      have hat : (0 ≤ r.at_ k) = False := eq_false h0
      have hw1 : IntKind.u64.wrap (k.size : Int) = (k.size : Int) := wr_u64 (by omega) (by omega)
      have hl1 := vput_len (n := k.size) (by omega)
      have hl3 := size_toList k
      have hsz : (k.size ≤ 70368744177664) = True := by simp; omega
      have hw2 : ∀ l, [D.sc (Value.int .u8 0)] :: bs l = bs (0 :: l) := fun l => rfl
      refine Sp.of_bodyD Try.func36 rfl ?_
      intro Q hQ
      simp only [List.replicate, List.length_cons, List.length_nil, Try.ntmps36, Nat.reduceAdd, Nat.reduceSub, List.cons_append, List.nil_append, go_sem]
      have hz : True := trivial
      have hy := yieldedV_eq
      have hL := And.intro @hlen (And.intro @hat (And.intro @hw1 (And.intro @hw2 (And.intro @hw3 (@hsz)))))
      repeat' (first | (refine WPV.seqK ?_; intro N hN) | refine WPV.block ?_ | refine WPV.scope ?_ | refine WPV.skip ?_ | refine WPV.label ?_ | refine WPV.exit ?_ | refine WPV.ret ?_ | (refine WPV.regionG (M := noM) ?_; intro N hN ops hy; (try simp only [List.append] at hy ⊢); (try simp only [List.map_cons, List.map_nil] at hy)) | (refine WPV.drawK (M := noM) (by kernel_rfl) (by kernel_rfl) ?_; intro N hN; have hy := yieldedV_eq) | (refine WPV.condK ?_; intro A hA B hB) | (refine here ?_; refine sM ?_) | (refine And.intro (by kernel_rfl : okOrd _ _ = true) ?_) | refine Both.mk ?_ ?_ | ((with_reducible refine CallO.gd 44 ?_); refine CallO.frA [0] Try.call44 (rdat3_s p r k (by omega)) ?_) | ((with_reducible refine CallO.gd 84 ?_); refine CallO.frA [0] Try.call84 (rdcomes3_s p r k h8 hws hn) ?_) | ((with_reducible refine CallO.gd 83 ?_); first | refine CallO.toA Try.call83 (vrput_s (m := r.at_ k + 1) (by omega) (by omega) _) ?_ | refine CallO.toA Try.call83 (vrput_s (m := (k.size : Int)) (by omega) (by omega) _) ?_ | refine CallO.toA Try.call83 (vrput_s (m := 0) (by omega) (by omega) _) ?_) | ((with_reducible refine CallP.gd 83 ?_); first | refine CallP.toA Try.call83 (vrput_s (m := r.at_ k + 1) (by omega) (by omega) _) ?_ | refine CallP.toA Try.call83 (vrput_s (m := (k.size : Int)) (by omega) (by omega) _) ?_ | refine CallP.toA Try.call83 (vrput_s (m := 0) (by omega) (by omega) _) ?_) | (refine hN _ ?_; try clear hN N; try clear hy ops) | (refine hA ?_; clear hA A hB B; try simp only [hz]) | (refine hB ?_; clear hA A hB B; try simp only [hz]) | ((first | refine guardO.mk ?_ ?_ | refine guardD.mk ?_ ?_ | refine Br.mk ?_ ?_) <;> (intro hz; have h := nm hz; try (exfalso; omega)) <;> (have hz := nz hz)) | ((first | rw [if_pos (show _ ∧ _ from ⟨by omega, by omega⟩)] | rw [if_pos (show _ ∧ _ from by simp only [List.length_append, List.length_cons, List.length_nil]; exact ⟨by omega, by omega⟩)]); refine sM ?_) | (simp only [thenV, blockV, if_true, if_false, Nat.reduceEqDiff, reduceCtorEq, imp_self]) | (clear hN N))
      all_goals (first | exact retA hQ Try.results36 (Desc.re [some 0] rfl) | exact retN hQ Try.results36 (Desc.re [some 0] rfl))

section
variable {d : Rdi} {b : List UInt8} {p q : UInt64} {u v : Nat} {e f : Int} {h' : List Ho}
set_option maxRecDepth 100000 in
set_option maxHeartbeats 4000000 in
theorem rdtake3_1 (c0 : Clk) (hl : b.length ≤ 1000000) (ht : tk b = (p, u, e)) (he : (e != 0) = true)
    (hf hwl hgt hp0 hw1 hget hul hw2 hw3 hw4 hw5 hq hsh hlt hle hat hub ht2 : True) :
    Sp Try.prog K 39 [.ptr 0 3, .sl 1 (bs b)] [d.ob3 c0] fun x hh => x = dtV (⟨#[]⟩, 0, e) ∧ hh = [d.ob3 c0] := by
  refine Sp.of_bodyD Try.func39 rfl ?_
  intro Q hQ
  simp only [List.replicate, List.length_cons, List.length_nil, Try.ntmps39, Nat.reduceAdd, Nat.reduceSub, List.cons_append, List.nil_append, go_sem]
  have hz : True := trivial
  have hy := yieldedV_eq
  have hL := And.intro @he (And.intro @hf (And.intro @hwl (And.intro @hgt (And.intro @hp0 (And.intro @hw1 (And.intro @hget (And.intro @hul (And.intro @hw2 (And.intro @hw3 (And.intro @hw4 (And.intro @hw5 (And.intro @hq (And.intro @hsh (And.intro @hlt (And.intro @hle (And.intro @hat (@hub)))))))))))))))))
  repeat' (first | (refine WPV.seqK ?_; intro N hN) | refine WPV.block ?_ | refine WPV.scope ?_ | refine WPV.skip ?_ | refine WPV.label ?_ | refine WPV.exit ?_ | refine WPV.ret ?_ | (refine WPV.regionG (M := noM) ?_; intro N hN ops hy; (try simp only [List.append] at hy ⊢); (try simp only [List.map_cons, List.map_nil] at hy)) | (refine WPV.drawK (M := noM) (by kernel_rfl) (by kernel_rfl) ?_; intro N hN; have hy := yieldedV_eq) | (refine WPV.condK ?_; intro A hA B hB) | (refine here ?_; refine sM ?_) | (refine And.intro (by kernel_rfl : okOrd _ _ = true) ?_) | refine Both.mk ?_ ?_ | ((with_reducible refine CallO.gd 86 ?_); first | refine CallO.toA Try.call86 (vrtake_s ht (by omega) _) ?_ | refine CallO.toA Try.call86 (vrtake_s ht2 (by omega) _) ?_) | ((with_reducible refine CallO.gd 44 ?_); refine CallO.frA [0] Try.call44 (rdat3_s c0 d key (by omega)) ?_) | ((with_reducible refine CallO.gd 84 ?_); refine CallO.frA [0] Try.call84 (rdcomes3_s c0 d key h8 hws hn) ?_) | ((with_reducible refine CallP.gd 86 ?_); first | refine CallP.toA Try.call86 (vrtake_s ht (by omega) _) ?_ | refine CallP.toA Try.call86 (vrtake_s ht2 (by omega) _) ?_) | (refine hN _ ?_; try clear hN N; try clear hy ops) | (refine hA ?_; clear hA A hB B; try simp only [hz]) | (refine hB ?_; clear hA A hB B; try simp only [hz]) | ((first | refine guardO.mk ?_ ?_ | refine guardD.mk ?_ ?_ | refine Br.mk ?_ ?_) <;> (intro hz; have h := nm hz; try (exfalso; omega)) <;> (have hz := nz hz)) | ((first | rw [if_pos (show _ ∧ _ from ⟨by omega, by omega⟩)] | rw [if_pos (show _ ∧ _ from by simp only [List.length_append, List.length_cons, List.length_nil]; exact ⟨by omega, by omega⟩)]); refine sM ?_) | (simp only [thenV, blockV, if_true, if_false, Nat.reduceEqDiff, reduceCtorEq, imp_self]) | (clear hN N))
  all_goals (first | exact retA hQ Try.results39 (Desc.re [some 0] rfl) | exact retN hQ Try.results39 (Desc.re [some 0] rfl))
set_option maxRecDepth 100000 in
set_option maxHeartbeats 4000000 in
theorem rdtake3_2 (c0 : Clk) (hl : b.length ≤ 1000000) (ht : tk b = (p, u, 0)) (hwl : IntKind.u64.wrap (d.ks.length : Int) = (d.ks.length : Int)) (hp0 : ((0 : Int) < (p.toNat : Int)) = True) (hgt : ((d.ks.length : Int) < (p.toNat : Int)) = True)
    (he hf hw1 hget hul hw2 hw3 hw4 hw5 hq hsh hlt hle hat hub ht2 : True) :
    Sp Try.prog K 39 [.ptr 0 3, .sl 1 (bs b)] [d.ob3 c0] fun x hh => x = dtV (⟨#[]⟩, 0, 9) ∧ hh = [d.ob3 c0] := by
  refine Sp.of_bodyD Try.func39 rfl ?_
  intro Q hQ
  simp only [List.replicate, List.length_cons, List.length_nil, Try.ntmps39, Nat.reduceAdd, Nat.reduceSub, List.cons_append, List.nil_append, go_sem]
  have hz : True := trivial
  have hy := yieldedV_eq
  have hL := And.intro @he (And.intro @hf (And.intro @hwl (And.intro @hgt (And.intro @hp0 (And.intro @hw1 (And.intro @hget (And.intro @hul (And.intro @hw2 (And.intro @hw3 (And.intro @hw4 (And.intro @hw5 (And.intro @hq (And.intro @hsh (And.intro @hlt (And.intro @hle (And.intro @hat (@hub)))))))))))))))))
  repeat' (first | (refine WPV.seqK ?_; intro N hN) | refine WPV.block ?_ | refine WPV.scope ?_ | refine WPV.skip ?_ | refine WPV.label ?_ | refine WPV.exit ?_ | refine WPV.ret ?_ | (refine WPV.regionG (M := noM) ?_; intro N hN ops hy; (try simp only [List.append] at hy ⊢); (try simp only [List.map_cons, List.map_nil] at hy)) | (refine WPV.drawK (M := noM) (by kernel_rfl) (by kernel_rfl) ?_; intro N hN; have hy := yieldedV_eq) | (refine WPV.condK ?_; intro A hA B hB) | (refine here ?_; refine sM ?_) | (refine And.intro (by kernel_rfl : okOrd _ _ = true) ?_) | refine Both.mk ?_ ?_ | ((with_reducible refine CallO.gd 86 ?_); first | refine CallO.toA Try.call86 (vrtake_s ht (by omega) _) ?_ | refine CallO.toA Try.call86 (vrtake_s ht2 (by omega) _) ?_) | ((with_reducible refine CallO.gd 44 ?_); refine CallO.frA [0] Try.call44 (rdat3_s c0 d key (by omega)) ?_) | ((with_reducible refine CallO.gd 84 ?_); refine CallO.frA [0] Try.call84 (rdcomes3_s c0 d key h8 hws hn) ?_) | ((with_reducible refine CallP.gd 86 ?_); first | refine CallP.toA Try.call86 (vrtake_s ht (by omega) _) ?_ | refine CallP.toA Try.call86 (vrtake_s ht2 (by omega) _) ?_) | (refine hN _ ?_; try clear hN N; try clear hy ops) | (refine hA ?_; clear hA A hB B; try simp only [hz]) | (refine hB ?_; clear hA A hB B; try simp only [hz]) | ((first | refine guardO.mk ?_ ?_ | refine guardD.mk ?_ ?_ | refine Br.mk ?_ ?_) <;> (intro hz; have h := nm hz; try (exfalso; omega)) <;> (have hz := nz hz)) | ((first | rw [if_pos (show _ ∧ _ from ⟨by omega, by omega⟩)] | rw [if_pos (show _ ∧ _ from by simp only [List.length_append, List.length_cons, List.length_nil]; exact ⟨by omega, by omega⟩)]); refine sM ?_) | (simp only [thenV, blockV, if_true, if_false, Nat.reduceEqDiff, reduceCtorEq, imp_self]) | (clear hN N))
  all_goals (first | exact retA hQ Try.results39 (Desc.re [some 0] rfl) | exact retN hQ Try.results39 (Desc.re [some 0] rfl))
set_option maxRecDepth 100000 in
set_option maxHeartbeats 4000000 in
theorem rdtake3_3 (c0 : Clk) {key : ByteArray} {i : Nat} (hl : b.length ≤ 1000000) (ht : tk b = (p, u, 0)) (hwl : IntKind.u64.wrap (d.ks.length : Int) = (d.ks.length : Int)) (hp0 : ((0 : Int) < (p.toNat : Int)) = True) (hgt : ((d.ks.length : Int) < (p.toNat : Int)) = False) (hw3 : IntKind.i64.wrap (p.toNat : Int) = (p.toNat : Int)) (hw1 : IntKind.i64.wrap ((p.toNat : Int) - 1) = (i : Int)) (hlt : ((i : Int) < (d.ks.length : Int)) = True) (hget : d.ks[i]? = some key)
    (he hf hul hw2 hw4 hw5 hq hsh hle hat hub ht2 : True) :
    Sp Try.prog K 39 [.ptr 0 3, .sl 1 (bs b)] [d.ob3 c0] fun x hh => x = dtV (key, u, 0) ∧ hh = [d.ob3 c0] := by
  refine Sp.of_bodyD Try.func39 rfl ?_
  intro Q hQ
  simp only [List.replicate, List.length_cons, List.length_nil, Try.ntmps39, Nat.reduceAdd, Nat.reduceSub, List.cons_append, List.nil_append, go_sem]
  have hz : True := trivial
  have hy := yieldedV_eq
  have hL := And.intro @he (And.intro @hf (And.intro @hwl (And.intro @hgt (And.intro @hp0 (And.intro @hw1 (And.intro @hget (And.intro @hul (And.intro @hw2 (And.intro @hw3 (And.intro @hw4 (And.intro @hw5 (And.intro @hq (And.intro @hsh (And.intro @hlt (And.intro @hle (And.intro @hat (@hub)))))))))))))))))
  repeat' (first | (refine WPV.seqK ?_; intro N hN) | refine WPV.block ?_ | refine WPV.scope ?_ | refine WPV.skip ?_ | refine WPV.label ?_ | refine WPV.exit ?_ | refine WPV.ret ?_ | (refine WPV.regionG (M := noM) ?_; intro N hN ops hy; (try simp only [List.append] at hy ⊢); (try simp only [List.map_cons, List.map_nil] at hy)) | (refine WPV.drawK (M := noM) (by kernel_rfl) (by kernel_rfl) ?_; intro N hN; have hy := yieldedV_eq) | (refine WPV.condK ?_; intro A hA B hB) | (refine here ?_; refine sM ?_) | (refine And.intro (by kernel_rfl : okOrd _ _ = true) ?_) | refine Both.mk ?_ ?_ | ((with_reducible refine CallO.gd 86 ?_); first | refine CallO.toA Try.call86 (vrtake_s ht (by omega) _) ?_ | refine CallO.toA Try.call86 (vrtake_s ht2 (by omega) _) ?_) | ((with_reducible refine CallO.gd 44 ?_); refine CallO.frA [0] Try.call44 (rdat3_s c0 d key (by omega)) ?_) | ((with_reducible refine CallO.gd 84 ?_); refine CallO.frA [0] Try.call84 (rdcomes3_s c0 d key h8 hws hn) ?_) | ((with_reducible refine CallP.gd 86 ?_); first | refine CallP.toA Try.call86 (vrtake_s ht (by omega) _) ?_ | refine CallP.toA Try.call86 (vrtake_s ht2 (by omega) _) ?_) | (refine hN _ ?_; try clear hN N; try clear hy ops) | (refine hA ?_; clear hA A hB B; try simp only [hz]) | (refine hB ?_; clear hA A hB B; try simp only [hz]) | ((first | refine guardO.mk ?_ ?_ | refine guardD.mk ?_ ?_ | refine Br.mk ?_ ?_) <;> (intro hz; have h := nm hz; try (exfalso; omega)) <;> (have hz := nz hz)) | ((first | rw [if_pos (show _ ∧ _ from ⟨by omega, by omega⟩)] | rw [if_pos (show _ ∧ _ from by simp only [List.length_append, List.length_cons, List.length_nil]; exact ⟨by omega, by omega⟩)]); refine sM ?_) | (simp only [thenV, blockV, if_true, if_false, Nat.reduceEqDiff, reduceCtorEq, imp_self]) | (clear hN N))
  all_goals (first | exact retA hQ Try.results39 (Desc.re [some 0] rfl) | exact retN hQ Try.results39 (Desc.re [some 0] rfl))
set_option maxRecDepth 100000 in
set_option maxHeartbeats 4000000 in
theorem rdtake3_4 (c0 : Clk) (hl : b.length ≤ 1000000) (ht : tk b = (p, u, 0)) (hp : p.toNat = 0) (hwl : IntKind.u64.wrap (d.ks.length : Int) = (d.ks.length : Int)) (hul : ((u : Int) ≤ (b.length : Int)) = True) (ht2 : tk (b.drop u) = (q, v, f)) (hf : (f != 0) = true)
    (he hw1 hget hw2 hw3 hw4 hw5 hq hsh hlt hat hub : True) :
    Sp Try.prog K 39 [.ptr 0 3, .sl 1 (bs b)] [d.ob3 c0] fun x hh => x = dtV (⟨#[]⟩, 0, f) ∧ hh = [d.ob3 c0] := by
  have hle : (b.drop u).length ≤ 1000000000 := by rw [List.length_drop]; omega
  have hgt : ((d.ks.length : Int) < (p.toNat : Int)) = False := by simp; omega
  have hp0 : ((0 : Int) < (p.toNat : Int)) = False := by simp; omega
  refine Sp.of_bodyD Try.func39 rfl ?_
  intro Q hQ
  simp only [List.replicate, List.length_cons, List.length_nil, Try.ntmps39, Nat.reduceAdd, Nat.reduceSub, List.cons_append, List.nil_append, go_sem]
  have hz : True := trivial
  have hy := yieldedV_eq
  have hL := And.intro @he (And.intro @hf (And.intro @hwl (And.intro @hgt (And.intro @hp0 (And.intro @hw1 (And.intro @hget (And.intro @hul (And.intro @hw2 (And.intro @hw3 (And.intro @hw4 (And.intro @hw5 (And.intro @hq (And.intro @hsh (And.intro @hlt (And.intro @hle (And.intro @hat (@hub)))))))))))))))))
  repeat' (first | (refine WPV.seqK ?_; intro N hN) | refine WPV.block ?_ | refine WPV.scope ?_ | refine WPV.skip ?_ | refine WPV.label ?_ | refine WPV.exit ?_ | refine WPV.ret ?_ | (refine WPV.regionG (M := noM) ?_; intro N hN ops hy; (try simp only [List.append] at hy ⊢); (try simp only [List.map_cons, List.map_nil] at hy)) | (refine WPV.drawK (M := noM) (by kernel_rfl) (by kernel_rfl) ?_; intro N hN; have hy := yieldedV_eq) | (refine WPV.condK ?_; intro A hA B hB) | (refine here ?_; refine sM ?_) | (refine And.intro (by kernel_rfl : okOrd _ _ = true) ?_) | refine Both.mk ?_ ?_ | ((with_reducible refine CallO.gd 86 ?_); first | refine CallO.toA Try.call86 (vrtake_s ht (by omega) _) ?_ | refine CallO.toA Try.call86 (vrtake_s ht2 (by omega) _) ?_) | ((with_reducible refine CallO.gd 44 ?_); refine CallO.frA [0] Try.call44 (rdat3_s c0 d key (by omega)) ?_) | ((with_reducible refine CallO.gd 84 ?_); refine CallO.frA [0] Try.call84 (rdcomes3_s c0 d key h8 hws hn) ?_) | ((with_reducible refine CallP.gd 86 ?_); first | refine CallP.toA Try.call86 (vrtake_s ht (by omega) _) ?_ | refine CallP.toA Try.call86 (vrtake_s ht2 (by omega) _) ?_) | (refine hN _ ?_; try clear hN N; try clear hy ops) | (refine hA ?_; clear hA A hB B; try simp only [hz]) | (refine hB ?_; clear hA A hB B; try simp only [hz]) | ((first | refine guardO.mk ?_ ?_ | refine guardD.mk ?_ ?_ | refine Br.mk ?_ ?_) <;> (intro hz; have h := nm hz; try (exfalso; omega)) <;> (have hz := nz hz)) | ((first | rw [if_pos (show _ ∧ _ from ⟨by omega, by omega⟩)] | rw [if_pos (show _ ∧ _ from by simp only [List.length_append, List.length_cons, List.length_nil]; exact ⟨by omega, by omega⟩)]); refine sM ?_) | (simp only [thenV, blockV, if_true, if_false, Nat.reduceEqDiff, reduceCtorEq, imp_self]) | (clear hN N))
  all_goals (first | exact retA hQ Try.results39 (Desc.re [some 0] rfl) | exact retN hQ Try.results39 (Desc.re [some 0] rfl))
set_option maxRecDepth 100000 in
set_option maxHeartbeats 4000000 in
theorem rdtake3_5 (c0 : Clk) (hl : b.length ≤ 1000000) (ht : tk b = (p, u, 0)) (hp : p.toNat = 0) (hwl : IntKind.u64.wrap (d.ks.length : Int) = (d.ks.length : Int)) (hul : ((u : Int) ≤ (b.length : Int)) = True) (ht2 : tk (b.drop u) = (q, v, 0)) (hq : ((64 : Int) < (q.toNat : Int)) = True)
    (he hf hw1 hget hw2 hw3 hw4 hw5 hsh hlt hat hub : True) :
    Sp Try.prog K 39 [.ptr 0 3, .sl 1 (bs b)] [d.ob3 c0] fun x hh => x = dtV (⟨#[]⟩, 0, 4) ∧ hh = [d.ob3 c0] := by
  have hle : (b.drop u).length ≤ 1000000000 := by rw [List.length_drop]; omega
  have hgt : ((d.ks.length : Int) < (p.toNat : Int)) = False := by simp; omega
  have hp0 : ((0 : Int) < (p.toNat : Int)) = False := by simp; omega
  refine Sp.of_bodyD Try.func39 rfl ?_
  intro Q hQ
  simp only [List.replicate, List.length_cons, List.length_nil, Try.ntmps39, Nat.reduceAdd, Nat.reduceSub, List.cons_append, List.nil_append, go_sem]
  have hz : True := trivial
  have hy := yieldedV_eq
  have hL := And.intro @he (And.intro @hf (And.intro @hwl (And.intro @hgt (And.intro @hp0 (And.intro @hw1 (And.intro @hget (And.intro @hul (And.intro @hw2 (And.intro @hw3 (And.intro @hw4 (And.intro @hw5 (And.intro @hq (And.intro @hsh (And.intro @hlt (And.intro @hle (And.intro @hat (@hub)))))))))))))))))
  repeat' (first | (refine WPV.seqK ?_; intro N hN) | refine WPV.block ?_ | refine WPV.scope ?_ | refine WPV.skip ?_ | refine WPV.label ?_ | refine WPV.exit ?_ | refine WPV.ret ?_ | (refine WPV.regionG (M := noM) ?_; intro N hN ops hy; (try simp only [List.append] at hy ⊢); (try simp only [List.map_cons, List.map_nil] at hy)) | (refine WPV.drawK (M := noM) (by kernel_rfl) (by kernel_rfl) ?_; intro N hN; have hy := yieldedV_eq) | (refine WPV.condK ?_; intro A hA B hB) | (refine here ?_; refine sM ?_) | (refine And.intro (by kernel_rfl : okOrd _ _ = true) ?_) | refine Both.mk ?_ ?_ | ((with_reducible refine CallO.gd 86 ?_); first | refine CallO.toA Try.call86 (vrtake_s ht (by omega) _) ?_ | refine CallO.toA Try.call86 (vrtake_s ht2 (by omega) _) ?_) | ((with_reducible refine CallO.gd 44 ?_); refine CallO.frA [0] Try.call44 (rdat3_s c0 d key (by omega)) ?_) | ((with_reducible refine CallO.gd 84 ?_); refine CallO.frA [0] Try.call84 (rdcomes3_s c0 d key h8 hws hn) ?_) | ((with_reducible refine CallP.gd 86 ?_); first | refine CallP.toA Try.call86 (vrtake_s ht (by omega) _) ?_ | refine CallP.toA Try.call86 (vrtake_s ht2 (by omega) _) ?_) | (refine hN _ ?_; try clear hN N; try clear hy ops) | (refine hA ?_; clear hA A hB B; try simp only [hz]) | (refine hB ?_; clear hA A hB B; try simp only [hz]) | ((first | refine guardO.mk ?_ ?_ | refine guardD.mk ?_ ?_ | refine Br.mk ?_ ?_) <;> (intro hz; have h := nm hz; try (exfalso; omega)) <;> (have hz := nz hz)) | ((first | rw [if_pos (show _ ∧ _ from ⟨by omega, by omega⟩)] | rw [if_pos (show _ ∧ _ from by simp only [List.length_append, List.length_cons, List.length_nil]; exact ⟨by omega, by omega⟩)]); refine sM ?_) | (simp only [thenV, blockV, if_true, if_false, Nat.reduceEqDiff, reduceCtorEq, imp_self]) | (clear hN N))
  all_goals (first | exact retA hQ Try.results39 (Desc.re [some 0] rfl) | exact retN hQ Try.results39 (Desc.re [some 0] rfl))
set_option maxRecDepth 100000 in
set_option maxHeartbeats 4000000 in
theorem rdtake3_6 (c0 : Clk) (hl : b.length ≤ 1000000) (ht : tk b = (p, u, 0)) (hp : p.toNat = 0) (hwl : IntKind.u64.wrap (d.ks.length : Int) = (d.ks.length : Int)) (hul : ((u : Int) ≤ (b.length : Int)) = True) (ht2 : tk (b.drop u) = (q, v, 0)) (hq : ((64 : Int) < (q.toNat : Int)) = False) (hw2 : IntKind.i64.wrap ((u : Int) + (v : Int)) = ((u + v : Nat) : Int)) (hw4 : IntKind.i64.wrap (q.toNat : Int) = (q.toNat : Int))
    (hw5 : IntKind.i64.wrap (((u + v : Nat) : Int) + (q.toNat : Int)) = ((u + v + q.toNat : Nat) : Int)) (hsh : ((b.length : Int) < ((u + v + q.toNat : Nat) : Int)) = True)
    (he hf hw1 hget hw3 hlt hat hub : True) :
    Sp Try.prog K 39 [.ptr 0 3, .sl 1 (bs b)] [d.ob3 c0] fun x hh => x = dtV (⟨#[]⟩, 0, 2) ∧ hh = [d.ob3 c0] := by
  have hle : (b.drop u).length ≤ 1000000000 := by rw [List.length_drop]; omega
  have hgt : ((d.ks.length : Int) < (p.toNat : Int)) = False := by simp; omega
  have hp0 : ((0 : Int) < (p.toNat : Int)) = False := by simp; omega
  refine Sp.of_bodyD Try.func39 rfl ?_
  intro Q hQ
  simp only [List.replicate, List.length_cons, List.length_nil, Try.ntmps39, Nat.reduceAdd, Nat.reduceSub, List.cons_append, List.nil_append, go_sem]
  have hz : True := trivial
  have hy := yieldedV_eq
  have hL := And.intro @he (And.intro @hf (And.intro @hwl (And.intro @hgt (And.intro @hp0 (And.intro @hw1 (And.intro @hget (And.intro @hul (And.intro @hw2 (And.intro @hw3 (And.intro @hw4 (And.intro @hw5 (And.intro @hq (And.intro @hsh (And.intro @hlt (And.intro @hle (And.intro @hat (@hub)))))))))))))))))
  repeat' (first | (refine WPV.seqK ?_; intro N hN) | refine WPV.block ?_ | refine WPV.scope ?_ | refine WPV.skip ?_ | refine WPV.label ?_ | refine WPV.exit ?_ | refine WPV.ret ?_ | (refine WPV.regionG (M := noM) ?_; intro N hN ops hy; (try simp only [List.append] at hy ⊢); (try simp only [List.map_cons, List.map_nil] at hy)) | (refine WPV.drawK (M := noM) (by kernel_rfl) (by kernel_rfl) ?_; intro N hN; have hy := yieldedV_eq) | (refine WPV.condK ?_; intro A hA B hB) | (refine here ?_; refine sM ?_) | (refine And.intro (by kernel_rfl : okOrd _ _ = true) ?_) | refine Both.mk ?_ ?_ | ((with_reducible refine CallO.gd 86 ?_); first | refine CallO.toA Try.call86 (vrtake_s ht (by omega) _) ?_ | refine CallO.toA Try.call86 (vrtake_s ht2 (by omega) _) ?_) | ((with_reducible refine CallO.gd 44 ?_); refine CallO.frA [0] Try.call44 (rdat3_s c0 d key (by omega)) ?_) | ((with_reducible refine CallO.gd 84 ?_); refine CallO.frA [0] Try.call84 (rdcomes3_s c0 d key h8 hws hn) ?_) | ((with_reducible refine CallP.gd 86 ?_); first | refine CallP.toA Try.call86 (vrtake_s ht (by omega) _) ?_ | refine CallP.toA Try.call86 (vrtake_s ht2 (by omega) _) ?_) | (refine hN _ ?_; try clear hN N; try clear hy ops) | (refine hA ?_; clear hA A hB B; try simp only [hz]) | (refine hB ?_; clear hA A hB B; try simp only [hz]) | ((first | refine guardO.mk ?_ ?_ | refine guardD.mk ?_ ?_ | refine Br.mk ?_ ?_) <;> (intro hz; have h := nm hz; try (exfalso; omega)) <;> (have hz := nz hz)) | ((first | rw [if_pos (show _ ∧ _ from ⟨by omega, by omega⟩)] | rw [if_pos (show _ ∧ _ from by simp only [List.length_append, List.length_cons, List.length_nil]; exact ⟨by omega, by omega⟩)]); refine sM ?_) | (simp only [thenV, blockV, if_true, if_false, Nat.reduceEqDiff, reduceCtorEq, imp_self]) | (clear hN N))
  all_goals (first | exact retA hQ Try.results39 (Desc.re [some 0] rfl) | exact retN hQ Try.results39 (Desc.re [some 0] rfl))
set_option maxRecDepth 100000 in
set_option maxHeartbeats 4000000 in
theorem rdtake3_7 (c0 : Clk) {key : ByteArray} (h8 : d.ks.length ≤ 8) (hws : d.ws.length = d.ks.length) (hn : 0 ≤ d.now ∧ d.now ≤ 1000000) (hl : b.length ≤ 1000000) (ht : tk b = (p, u, 0)) (hp : p.toNat = 0) (hwl : IntKind.u64.wrap (d.ks.length : Int) = (d.ks.length : Int)) (hul : ((u : Int) ≤ (b.length : Int)) = True) (ht2 : tk (b.drop u) = (q, v, 0)) (hq : ((64 : Int) < (q.toNat : Int)) = False) (hw2 : IntKind.i64.wrap ((u : Int) + (v : Int)) = ((u + v : Nat) : Int)) (hw4 : IntKind.i64.wrap (q.toNat : Int) = (q.toNat : Int))
    (hw5 : IntKind.i64.wrap (((u + v : Nat) : Int) + (q.toNat : Int)) = ((u + v + q.toNat : Nat) : Int)) (hsh : ((b.length : Int) < ((u + v + q.toNat : Nat) : Int)) = False) (hub : (((u + v : Nat) : Int) ≤ ((u + v + q.toNat : Nat) : Int)) = True) (hlt : (((u + v + q.toNat : Nat) : Int) ≤ (b.length : Int)) = True) (hw1 : (⟨((b.take (u + v + q.toNat)).drop (u + v)).toArray⟩ : ByteArray) = key) (hat : (0 ≤ d.at_ key) = True)
    (he hf hw3 : True) :
    Sp Try.prog K 39 [.ptr 0 3, .sl 1 (bs b)] [d.ob3 c0] fun x hh => x = dtV (⟨#[]⟩, 0, 3) ∧ hh = [d.ob3 c0] := by
  have hle : (b.drop u).length ≤ 1000000000 := by rw [List.length_drop]; omega
  have hgt : ((d.ks.length : Int) < (p.toNat : Int)) = False := by simp; omega
  have hp0 : ((0 : Int) < (p.toNat : Int)) = False := by simp; omega
  have hget := bs_unbs
  refine Sp.of_bodyD Try.func39 rfl ?_
  intro Q hQ
  simp only [List.replicate, List.length_cons, List.length_nil, Try.ntmps39, Nat.reduceAdd, Nat.reduceSub, List.cons_append, List.nil_append, go_sem]
  have hz : True := trivial
  have hy := yieldedV_eq
  have hL := And.intro @he (And.intro @hf (And.intro @hwl (And.intro @hgt (And.intro @hp0 (And.intro @hw1 (And.intro @hget (And.intro @hul (And.intro @hw2 (And.intro @hw3 (And.intro @hw4 (And.intro @hw5 (And.intro @hq (And.intro @hsh (And.intro @hlt (And.intro @hle (And.intro @hat (@hub)))))))))))))))))
  repeat' (first | (refine WPV.seqK ?_; intro N hN) | refine WPV.block ?_ | refine WPV.scope ?_ | refine WPV.skip ?_ | refine WPV.label ?_ | refine WPV.exit ?_ | refine WPV.ret ?_ | (refine WPV.regionG (M := noM) ?_; intro N hN ops hy; (try simp only [List.append] at hy ⊢); (try simp only [List.map_cons, List.map_nil] at hy)) | (refine WPV.drawK (M := noM) (by kernel_rfl) (by kernel_rfl) ?_; intro N hN; have hy := yieldedV_eq) | (refine WPV.condK ?_; intro A hA B hB) | (refine here ?_; refine sM ?_) | (refine And.intro (by kernel_rfl : okOrd _ _ = true) ?_) | refine Both.mk ?_ ?_ | ((with_reducible refine CallO.gd 86 ?_); first | refine CallO.toA Try.call86 (vrtake_s ht (by omega) _) ?_ | refine CallO.toA Try.call86 (vrtake_s ht2 (by omega) _) ?_) | ((with_reducible refine CallO.gd 44 ?_); refine CallO.frA [0] Try.call44 (rdat3_s c0 d key (by omega)) ?_) | ((with_reducible refine CallO.gd 84 ?_); refine CallO.frA [0] Try.call84 (rdcomes3_s c0 d key h8 hws hn) ?_) | ((with_reducible refine CallP.gd 86 ?_); first | refine CallP.toA Try.call86 (vrtake_s ht (by omega) _) ?_ | refine CallP.toA Try.call86 (vrtake_s ht2 (by omega) _) ?_) | (refine hN _ ?_; try clear hN N; try clear hy ops) | (refine hA ?_; clear hA A hB B; try simp only [hz]) | (refine hB ?_; clear hA A hB B; try simp only [hz]) | ((first | refine guardO.mk ?_ ?_ | refine guardD.mk ?_ ?_ | refine Br.mk ?_ ?_) <;> (intro hz; have h := nm hz; try (exfalso; omega)) <;> (have hz := nz hz)) | ((first | rw [if_pos (show _ ∧ _ from ⟨by omega, by omega⟩)] | rw [if_pos (show _ ∧ _ from by simp only [List.length_append, List.length_cons, List.length_nil]; exact ⟨by omega, by omega⟩)]); refine sM ?_) | (simp only [thenV, blockV, if_true, if_false, Nat.reduceEqDiff, reduceCtorEq, imp_self]) | (clear hN N))
  all_goals (first | exact retA hQ Try.results39 (Desc.re [some 0] rfl) | exact retN hQ Try.results39 (Desc.re [some 0] rfl))
set_option maxRecDepth 100000 in
set_option maxHeartbeats 4000000 in
theorem rdtake3_8 (c0 : Clk) {key : ByteArray} (h8 : d.ks.length ≤ 8) (hws : d.ws.length = d.ks.length) (hn : 0 ≤ d.now ∧ d.now ≤ 1000000) (hl : b.length ≤ 1000000) (ht : tk b = (p, u, 0)) (hp : p.toNat = 0) (hwl : IntKind.u64.wrap (d.ks.length : Int) = (d.ks.length : Int)) (hul : ((u : Int) ≤ (b.length : Int)) = True) (ht2 : tk (b.drop u) = (q, v, 0)) (hq : ((64 : Int) < (q.toNat : Int)) = False) (hw2 : IntKind.i64.wrap ((u : Int) + (v : Int)) = ((u + v : Nat) : Int)) (hw4 : IntKind.i64.wrap (q.toNat : Int) = (q.toNat : Int))
    (hw5 : IntKind.i64.wrap (((u + v : Nat) : Int) + (q.toNat : Int)) = ((u + v + q.toNat : Nat) : Int)) (hsh : ((b.length : Int) < ((u + v + q.toNat : Nat) : Int)) = False) (hub : (((u + v : Nat) : Int) ≤ ((u + v + q.toNat : Nat) : Int)) = True) (hlt : (((u + v + q.toNat : Nat) : Int) ≤ (b.length : Int)) = True) (hw1 : (⟨((b.take (u + v + q.toNat)).drop (u + v)).toArray⟩ : ByteArray) = key) (hat : (0 ≤ d.at_ key) = False)
    (he hf hw3 : True) :
    Sp Try.prog K 39 [.ptr 0 3, .sl 1 (bs b)] [d.ob3 c0] fun x hh => x = dtV (key, (u + v + q.toNat : Nat), 0) ∧ hh = [(d.comes key).ob3 c0] := by
  have hle : (b.drop u).length ≤ 1000000000 := by rw [List.length_drop]; omega
  have hgt : ((d.ks.length : Int) < (p.toNat : Int)) = False := by simp; omega
  have hp0 : ((0 : Int) < (p.toNat : Int)) = False := by simp; omega
  have hget := bs_unbs
  refine Sp.of_bodyD Try.func39 rfl ?_
  intro Q hQ
  simp only [List.replicate, List.length_cons, List.length_nil, Try.ntmps39, Nat.reduceAdd, Nat.reduceSub, List.cons_append, List.nil_append, go_sem]
  have hz : True := trivial
  have hy := yieldedV_eq
  have hL := And.intro @he (And.intro @hf (And.intro @hwl (And.intro @hgt (And.intro @hp0 (And.intro @hw1 (And.intro @hget (And.intro @hul (And.intro @hw2 (And.intro @hw3 (And.intro @hw4 (And.intro @hw5 (And.intro @hq (And.intro @hsh (And.intro @hlt (And.intro @hle (And.intro @hat (@hub)))))))))))))))))
  repeat' (first | (refine WPV.seqK ?_; intro N hN) | refine WPV.block ?_ | refine WPV.scope ?_ | refine WPV.skip ?_ | refine WPV.label ?_ | refine WPV.exit ?_ | refine WPV.ret ?_ | (refine WPV.regionG (M := noM) ?_; intro N hN ops hy; (try simp only [List.append] at hy ⊢); (try simp only [List.map_cons, List.map_nil] at hy)) | (refine WPV.drawK (M := noM) (by kernel_rfl) (by kernel_rfl) ?_; intro N hN; have hy := yieldedV_eq) | (refine WPV.condK ?_; intro A hA B hB) | (refine here ?_; refine sM ?_) | (refine And.intro (by kernel_rfl : okOrd _ _ = true) ?_) | refine Both.mk ?_ ?_ | ((with_reducible refine CallO.gd 86 ?_); first | refine CallO.toA Try.call86 (vrtake_s ht (by omega) _) ?_ | refine CallO.toA Try.call86 (vrtake_s ht2 (by omega) _) ?_) | ((with_reducible refine CallO.gd 44 ?_); refine CallO.frA [0] Try.call44 (rdat3_s c0 d key (by omega)) ?_) | ((with_reducible refine CallO.gd 84 ?_); refine CallO.frA [0] Try.call84 (rdcomes3_s c0 d key h8 hws hn) ?_) | ((with_reducible refine CallP.gd 86 ?_); first | refine CallP.toA Try.call86 (vrtake_s ht (by omega) _) ?_ | refine CallP.toA Try.call86 (vrtake_s ht2 (by omega) _) ?_) | (refine hN _ ?_; try clear hN N; try clear hy ops) | (refine hA ?_; clear hA A hB B; try simp only [hz]) | (refine hB ?_; clear hA A hB B; try simp only [hz]) | ((first | refine guardO.mk ?_ ?_ | refine guardD.mk ?_ ?_ | refine Br.mk ?_ ?_) <;> (intro hz; have h := nm hz; try (exfalso; omega)) <;> (have hz := nz hz)) | ((first | rw [if_pos (show _ ∧ _ from ⟨by omega, by omega⟩)] | rw [if_pos (show _ ∧ _ from by simp only [List.length_append, List.length_cons, List.length_nil]; exact ⟨by omega, by omega⟩)]); refine sM ?_) | (simp only [thenV, blockV, if_true, if_false, Nat.reduceEqDiff, reduceCtorEq, imp_self]) | (clear hN N))
  all_goals (first | exact retA hQ Try.results39 (Desc.re [some 0] rfl) | exact retN hQ Try.results39 (Desc.re [some 0] rfl))
end

set_option maxRecDepth 100000 in
theorem rdtake3_s (c0 : Clk) (d : Rdi) (b : List UInt8) (hl : b.length ≤ 1000000) (h8 : d.ks.length ≤ 8) (hws : d.ws.length = d.ks.length) (hn : 0 ≤ d.now ∧ d.now ≤ 1000000) : Sp Try.prog K 39 [.ptr 0 3, .sl 1 (bs b)] [d.ob3 c0] fun x hh => x = dtV (d.take b).1 ∧ hh = [(d.take b).2.ob3 c0] := by
  obtain ⟨p, u, e, ht⟩ : ∃ p u e, tk b = (p, u, e) := ⟨_, _, _, rfl⟩
  have T := True.intro
  unfold Rdi.take dkOf
  simp only [ht]
  by_cases he : e = 0
  · subst he
    have hu : u ≤ b.length := by have := dkOf_lt (b := b) (by rw [ht]); rwa [ht] at this
    have hwl : IntKind.u64.wrap (d.ks.length : Int) = (d.ks.length : Int) := wr_u64 (by omega) (by omega)
    simp only [ne_eq, not_true_eq_false, if_false]
    by_cases hp : p.toNat = 0
    · obtain ⟨q, v, f, ht2⟩ : ∃ q v f, tk (b.drop u) = (q, v, f) := ⟨_, _, _, rfl⟩
      simp only [hp, not_true_eq_false, if_false, ht2]
      have hul : ((u : Int) ≤ (b.length : Int)) = True := by simp; exact hu
      by_cases hf : f = 0
      · subst hf
        have hv : u + v ≤ b.length := by
          have := dkOf_lt (b := b.drop u) (by rw [ht2])
          rw [ht2, List.length_drop] at this
          have this : v ≤ b.length - u := this
          omega
        have hw2 : IntKind.i64.wrap ((u : Int) + (v : Int)) = ((u + v : Nat) : Int) := by rw [wr_i64 (by omega) (by omega)]; omega
        simp only [not_true_eq_false, if_false]
        by_cases hq : 64 < q.toNat
        · rw [if_pos hq]
          exact rdtake3_5 c0 hl ht hp hwl hul ht2 (by simp; omega) T T T T T T T T T T T T
        · rw [if_neg hq]
          have hw4 : IntKind.i64.wrap (q.toNat : Int) = (q.toNat : Int) := wr_i64 (by omega) (by omega)
          have hw5 : IntKind.i64.wrap (((u + v : Nat) : Int) + (q.toNat : Int)) = ((u + v + q.toNat : Nat) : Int) := by rw [wr_i64 (by omega) (by omega)]; omega
          by_cases hsh : b.length < u + v + q.toNat
          · rw [if_pos hsh]
            exact rdtake3_6 c0 hl ht hp hwl hul ht2 (by simp; omega) hw2 hw4 hw5 (by simp; omega) T T T T T T T T
          · rw [if_neg hsh]
            have hk : (⟨((b.take (u + v + q.toNat)).drop (u + v)).toArray⟩ : ByteArray) = dkText b (u + v) q.toNat := by
              unfold dkText
              rw [List.drop_take, show u + v + q.toNat - (u + v) = q.toNat by omega]
            simp only []
            by_cases hat : 0 ≤ d.at_ (dkText b (u + v) q.toNat)
            · rw [if_pos hat]
              exact rdtake3_7 c0 h8 hws hn hl ht hp hwl hul ht2 (by simp; omega) hw2 hw4 hw5 (by simp; omega) (by simp; omega) (by simp; omega) hk (eq_true hat) T T T
            · rw [if_neg hat]
              exact rdtake3_8 c0 h8 hws hn hl ht hp hwl hul ht2 (by simp; omega) hw2 hw4 hw5 (by simp; omega) (by simp; omega) (by simp; omega) hk (eq_false hat) T T T
      · rw [if_pos hf]
        exact rdtake3_4 c0 hl ht hp hwl hul ht2 (by simp; exact hf) T T T T T T T T T T T T
    · rw [if_pos hp]
      simp only []
      by_cases hlt : d.ks.length < p.toNat
      · rw [if_pos hlt]
        exact rdtake3_2 c0 hl ht hwl (by simp; omega) (by simp; omega) T T T T T T T T T T T T T T T T
      · rw [if_neg hlt]
        exact rdtake3_3 c0 (i := p.toNat - 1) hl ht hwl (by simp; omega) (by simp; omega) (wr_i64 (by omega) (by omega)) (by rw [wr_i64 (by omega) (by omega)]; omega) (by simp; omega) (by rw [List.getD_eq_getElem?_getD, List.getElem?_eq_getElem (by omega)]; rfl) T T T T T T T T T T T T
  · rw [if_pos he]
    exact rdtake3_1 c0 hl ht (by simp; exact he) T T T T T T T T T T T T T T T T T T
end Go.Proofs.Ytonllhjmoenckaa
