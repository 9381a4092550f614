/- Parts of the proofs, joined: FrmP, ScrX. -/
import Derived.Test.YtgfnpcmehnjopaaDoorB9
import Derived.Test.YtgfnpcmehnjopaaDoorB10
import Derived.Test.YtgfnpcmehnjopaaDoorB11
import Derived.Test.YtgfnpcmehnjopaaDoorB14
section
namespace Go.Proofs.YtgfnpcmehnjopaaDoor
section
open Go Go.RowKit
set_option linter.unusedVariables false
set_option linter.unusedSimpArgs false
variable {K : Nat → Obj → Prop}
set_option maxRecDepth 100000 in
theorem wrap_s (hK : KT K) (p : List UInt8) (hl : p.length ≤ 100000000) (h : List Ho) : Sp Tryd.prog K 23 [.sl 1 (bs p)] h fun u hh => u = byV (wrapF p) ∧ hh = h := by
  refine Sp.pure_ (R := fun u hh => Wk [u] [byV (wrapF p)]) ?_ (fun _ => rfl) (fun _ => rfl) (fun v h e => e) h
  have z0 : (0 : Int) ≤ (p.length : Int) := by omega
  have z1 : (p.length : Int) < 18446744073709551616 := by omega
  have hv := vput_len (n := p.length) (by omega)
  have q0 : IntKind.u64.wrap (p.length : Int) = (p.length : Int) := wr_u64 (by omega) (by omega)
  have hs : (vput p.length ++ p).length ≤ 1000000000 := by simp; omega
  unfold wrapF
  by_cases h8 : 8192 < p.length
  · have q1 : ((8192 : Int) < (p.length : Int)) = True := eq_true (by omega)
    rw [if_pos h8]
    refine Sp.of_bodyD Tryd.func23 rfl ?_
    intro Q hQ
    simp only [List.replicate, List.length_cons, List.length_nil, Tryd.ntmps23, Nat.reduceAdd, Nat.reduceSub, List.cons_append, List.nil_append, go_sem]
    have hz : True := trivial
    have hy := yieldedV_eq
    have hL := And.intro @q0 (And.intro @q1 (@bs_nil))
    repeat' (first | (refine WPV.seqK ?_; intro N hN) | refine gA ?_ | (refine gR (M := noM) ?_; intro N hN ops hy) | (refine gD (M := noM) ?_; intro N hN; have hy := yieldedV_eq) | (refine WPV.condK ?_; intro A hA B hB) | (refine here ?_; refine sM ?_) | refine Both.mk ?_ ?_ | ((with_reducible refine CallO.gd 62 ?_); refine CallO.frA [] Tryd.call62 (vputO_s z0 z1) ?_) | ((with_reducible refine CallO.gd 36 ?_); refine CallO.toA Tryd.call36 (seal_s hK (vput p.length ++ p) hs _) ?_) | ((with_reducible refine CallP.gd 36 ?_); refine CallP.toA Tryd.call36 (seal_s hK (vput p.length ++ p) hs _) ?_) | (refine hN _ ?_; try clear hN N; try clear hy ops) | (refine hA ?_; clear hA A hB B; try simp only [hz]) | (refine hB ?_; clear hA A hB B; try simp only [hz]) | (refine gG ?_ ?_ <;> (intro hz; have h := nm hz; try (exfalso; omega)) <;> (have hz := nz hz)) | ((first | rw [if_pos (show _ ∧ _ from ⟨by omega, by omega⟩)] | rw [if_pos (show _ ∧ _ from by simp only [List.length_append, List.length_cons, List.length_nil]; exact ⟨by omega, by omega⟩)]); refine sM ?_) | refine gT ?_ | (clear hN N))
    all_goals (apply And.right; refine hQ _ _ _ Desc.refl ?_ (Wk.tupC (Wk.null Wk.refl) Wk.nil))
    · (first | (simp only [go_sem, reduceCtorEq, Nat.reduceAdd, Nat.reduceSub, Nat.reduceMul, Nat.reduceLT, Nat.reduceLeDiff, Int.reduceLT, Int.reduceLE, Int.reduceEq, Int.reduceNe, Int.reduceAdd, Int.reduceSub, Int.reduceMul, Int.reduceToNat, Int.reduceNeg, Int.reducePow, Nat.reducePow, Nat.reduceEqDiff, Nat.reduceBEq, Int.reduceBEq, Int.reduceBNe, Int.reduceNegSucc, Tryd.results23]; done) | (simp only [go_sem, reduceCtorEq, Nat.reduceAdd, Nat.reduceSub, Nat.reduceMul, Nat.reduceLT, Nat.reduceLeDiff, Int.reduceLT, Int.reduceLE, Int.reduceEq, Int.reduceNe, Int.reduceAdd, Int.reduceSub, Int.reduceMul, Int.reduceToNat, Int.reduceNeg, Int.reducePow, Nat.reducePow, Nat.reduceEqDiff, Nat.reduceBEq, Int.reduceBEq, Int.reduceBNe, Int.reduceNegSucc, Tryd.results23]; rfl) | rfl)
  · have q1 : ((8192 : Int) < (p.length : Int)) = False := eq_false (by omega)
    rw [if_neg h8]
    refine Sp.of_bodyD Tryd.func23 rfl ?_
    intro Q hQ
    simp only [List.replicate, List.length_cons, List.length_nil, Tryd.ntmps23, Nat.reduceAdd, Nat.reduceSub, List.cons_append, List.nil_append, go_sem]
    have hz : True := trivial
    have hy := yieldedV_eq
    have hL := And.intro @q0 (And.intro @q1 (@bs_nil))
    repeat' (first | (refine WPV.seqK ?_; intro N hN) | refine gA ?_ | (refine gR (M := noM) ?_; intro N hN ops hy) | (refine gD (M := noM) ?_; intro N hN; have hy := yieldedV_eq) | (refine WPV.condK ?_; intro A hA B hB) | (refine here ?_; refine sM ?_) | refine Both.mk ?_ ?_ | ((with_reducible refine CallO.gd 62 ?_); refine CallO.frA [] Tryd.call62 (vputO_s z0 z1) ?_) | ((with_reducible refine CallO.gd 36 ?_); refine CallO.toA Tryd.call36 (seal_s hK (vput p.length ++ p) hs _) ?_) | ((with_reducible refine CallP.gd 36 ?_); refine CallP.toA Tryd.call36 (seal_s hK (vput p.length ++ p) hs _) ?_) | (refine hN _ ?_; try clear hN N; try clear hy ops) | (refine hA ?_; clear hA A hB B; try simp only [hz]) | (refine hB ?_; clear hA A hB B; try simp only [hz]) | (refine gG ?_ ?_ <;> (intro hz; have h := nm hz; try (exfalso; omega)) <;> (have hz := nz hz)) | ((first | rw [if_pos (show _ ∧ _ from ⟨by omega, by omega⟩)] | rw [if_pos (show _ ∧ _ from by simp only [List.length_append, List.length_cons, List.length_nil]; exact ⟨by omega, by omega⟩)]); refine sM ?_) | refine gT ?_ | (clear hN N))
    all_goals (apply And.right; refine hQ _ _ _ Desc.refl ?_ (Wk.refl))
    · (first | (simp only [go_sem, reduceCtorEq, Nat.reduceAdd, Nat.reduceSub, Nat.reduceMul, Nat.reduceLT, Nat.reduceLeDiff, Int.reduceLT, Int.reduceLE, Int.reduceEq, Int.reduceNe, Int.reduceAdd, Int.reduceSub, Int.reduceMul, Int.reduceToNat, Int.reduceNeg, Int.reducePow, Nat.reducePow, Nat.reduceEqDiff, Nat.reduceBEq, Int.reduceBEq, Int.reduceBNe, Int.reduceNegSucc, Tryd.results23]; done) | (simp only [go_sem, reduceCtorEq, Nat.reduceAdd, Nat.reduceSub, Nat.reduceMul, Nat.reduceLT, Nat.reduceLeDiff, Int.reduceLT, Int.reduceLE, Int.reduceEq, Int.reduceNe, Int.reduceAdd, Int.reduceSub, Int.reduceMul, Int.reduceToNat, Int.reduceNeg, Int.reducePow, Nat.reducePow, Nat.reduceEqDiff, Nat.reduceBEq, Int.reduceBEq, Int.reduceBNe, Int.reduceNegSucc, Tryd.results23]; rfl) | rfl)
abbrev nxV (r : List UInt8 × Nat × Int) : V := .tup [.sl 1 (bs r.1), .sc (.int .i64 (r.2.1 : Int)), .sc (.int .i64 r.2.2)]
theorem nx0_wk (e : Int) : Wk [.tup [.sc (.slice none 0 0), .sc (.int .i64 0), .sc (.int .i64 e)]] [nxV ([], 0, e)] := Wk.tupC (Wk.null Wk.refl) Wk.nil
set_option maxRecDepth 100000 in
set_option maxHeartbeats 1000000 in
theorem next_s (hK : KT K) (b : List UInt8) (hl : b.length ≤ 1000000000) (h : List Ho) : Sp Tryd.prog K 68 [.sl 1 (bs b)] h fun u hh => u = nxV (nextF b) ∧ hh = h := by
  refine Sp.pure_ (R := fun u hh => Wk [u] [nxV (nextF b)]) ?_ (fun _ => rfl) (fun _ => rfl) (fun v h e => e) h
  obtain ⟨n, u, e, ht⟩ : ∃ n u e, tk b = (n, u, e) := ⟨_, _, _, rfl⟩
  have q1 : True := trivial
  have q2 : True := trivial
  have q3 : True := trivial
  have q4 : True := trivial
  have q5 : True := trivial
  have q6 : True := trivial
  have q7 : True := trivial
  have q8 : True := trivial
  have q9 : True := trivial
  have ho : Sp Tryd.prog K 76 [.sl 1 (bs [])] [] fun u hh => u = .tup [.sl 1 (bs (openF []).1), .sc (.int .i64 (openF []).2)] ∧ hh = [] := open_s hK [] (by simp) []
  have q : List UInt8 := []
  have hq : True := trivial
  unfold nextF
  rw [ht]
  dsimp only
  by_cases he : e ≠ 0
  · have q0 : (e != 0) = true := by simpa using he
    rw [if_pos he]
    refine Sp.of_bodyD Tryd.func68 rfl ?_
    intro Q hQ
    simp only [List.replicate, List.length_cons, List.length_nil, Tryd.ntmps68, Nat.reduceAdd, Nat.reduceSub, List.cons_append, List.nil_append, go_sem]
    have hz : True := trivial
    have hy := yieldedV_eq
    have hL := And.intro @q0 (And.intro @q1 (And.intro @q2 (And.intro @q3 (And.intro @q4 (And.intro @q5 (And.intro @q6 (And.intro @q7 (And.intro @q8 (@q9)))))))))
    repeat' (first | (refine WPV.seqK ?_; intro N hN) | refine gA ?_ | (refine gR (M := noM) ?_; intro N hN ops hy) | (refine gD (M := noM) ?_; intro N hN; have hy := yieldedV_eq) | (refine WPV.condK ?_; intro A hA B hB) | (refine here ?_; refine sM ?_) | refine Both.mk ?_ ?_ | ((with_reducible refine CallO.gd 77 ?_); refine CallO.toA Tryd.call77 (vtake_s ht hl _) ?_) | ((with_reducible refine CallO.gd 76 ?_); refine CallO.toA Tryd.call76 (ho) ?_) | ((with_reducible refine CallO.gd 75 ?_); refine CallO.toA Tryd.call75 (bclone_s (q.drop u) hq _) ?_) | ((with_reducible refine CallP.gd 77 ?_); refine CallP.toA Tryd.call77 (vtake_s ht hl _) ?_) | ((with_reducible refine CallP.gd 76 ?_); refine CallP.toA Tryd.call76 (ho) ?_) | ((with_reducible refine CallP.gd 75 ?_); refine CallP.toA Tryd.call75 (bclone_s (q.drop u) hq _) ?_) | (refine hN _ ?_; try clear hN N; try clear hy ops) | (refine hA ?_; clear hA A hB B; try simp only [hz]) | (refine hB ?_; clear hA A hB B; try simp only [hz]) | (refine gG ?_ ?_ <;> (intro hz; have h := nm hz; try (exfalso; omega)) <;> (have hz := nz hz)) | ((first | rw [if_pos (show _ ∧ _ from ⟨by omega, by omega⟩)] | rw [if_pos (show _ ∧ _ from by simp only [List.length_append, List.length_cons, List.length_nil]; exact ⟨by omega, by omega⟩)]); refine sM ?_) | refine gT ?_ | (clear hN N))
    all_goals (apply And.right; refine hQ _ _ _ Desc.refl ?_ (nx0_wk _))
    · (first | (simp only [go_sem, reduceCtorEq, Nat.reduceAdd, Nat.reduceSub, Nat.reduceMul, Nat.reduceLT, Nat.reduceLeDiff, Int.reduceLT, Int.reduceLE, Int.reduceEq, Int.reduceNe, Int.reduceAdd, Int.reduceSub, Int.reduceMul, Int.reduceToNat, Int.reduceNeg, Int.reducePow, Nat.reducePow, Nat.reduceEqDiff, Nat.reduceBEq, Int.reduceBEq, Int.reduceBNe, Int.reduceNegSucc, Tryd.results68]; done) | (simp only [go_sem, reduceCtorEq, Nat.reduceAdd, Nat.reduceSub, Nat.reduceMul, Nat.reduceLT, Nat.reduceLeDiff, Int.reduceLT, Int.reduceLE, Int.reduceEq, Int.reduceNe, Int.reduceAdd, Int.reduceSub, Int.reduceMul, Int.reduceToNat, Int.reduceNeg, Int.reducePow, Nat.reducePow, Nat.reduceEqDiff, Nat.reduceBEq, Int.reduceBEq, Int.reduceBNe, Int.reduceNegSucc, Tryd.results68]; rfl) | rfl)
  rw [if_neg he]
  have he0 : e = 0 := Decidable.not_not.1 he
  subst he0
  have hok := tk_ok (l := b) (by rw [ht])
  rw [ht] at hok
  dsimp only at hok
  have q0 : ((0 : Int) != 0) = false := rfl
  by_cases hn : 8192 < n.toNat
  · have q1 : ((8192 : Int) < (n.toNat : Int)) = True := eq_true (by omega)
    rw [if_pos hn]
    refine Sp.of_bodyD Tryd.func68 rfl ?_
    intro Q hQ
    simp only [List.replicate, List.length_cons, List.length_nil, Tryd.ntmps68, Nat.reduceAdd, Nat.reduceSub, List.cons_append, List.nil_append, go_sem]
    have hz : True := trivial
    have hy := yieldedV_eq
    have hL := And.intro @q0 (And.intro @q1 (And.intro @q2 (And.intro @q3 (And.intro @q4 (And.intro @q5 (And.intro @q6 (And.intro @q7 (And.intro @q8 (@q9)))))))))
    repeat' (first | (refine WPV.seqK ?_; intro N hN) | refine gA ?_ | (refine gR (M := noM) ?_; intro N hN ops hy) | (refine gD (M := noM) ?_; intro N hN; have hy := yieldedV_eq) | (refine WPV.condK ?_; intro A hA B hB) | (refine here ?_; refine sM ?_) | refine Both.mk ?_ ?_ | ((with_reducible refine CallO.gd 77 ?_); refine CallO.toA Tryd.call77 (vtake_s ht hl _) ?_) | ((with_reducible refine CallO.gd 76 ?_); refine CallO.toA Tryd.call76 (ho) ?_) | ((with_reducible refine CallO.gd 75 ?_); refine CallO.toA Tryd.call75 (bclone_s (q.drop u) hq _) ?_) | ((with_reducible refine CallP.gd 77 ?_); refine CallP.toA Tryd.call77 (vtake_s ht hl _) ?_) | ((with_reducible refine CallP.gd 76 ?_); refine CallP.toA Tryd.call76 (ho) ?_) | ((with_reducible refine CallP.gd 75 ?_); refine CallP.toA Tryd.call75 (bclone_s (q.drop u) hq _) ?_) | (refine hN _ ?_; try clear hN N; try clear hy ops) | (refine hA ?_; clear hA A hB B; try simp only [hz]) | (refine hB ?_; clear hA A hB B; try simp only [hz]) | (refine gG ?_ ?_ <;> (intro hz; have h := nm hz; try (exfalso; omega)) <;> (have hz := nz hz)) | ((first | rw [if_pos (show _ ∧ _ from ⟨by omega, by omega⟩)] | rw [if_pos (show _ ∧ _ from by simp only [List.length_append, List.length_cons, List.length_nil]; exact ⟨by omega, by omega⟩)]); refine sM ?_) | refine gT ?_ | (clear hN N))
    all_goals (apply And.right; refine hQ _ _ _ Desc.refl ?_ (nx0_wk _))
    · (first | (simp only [go_sem, reduceCtorEq, Nat.reduceAdd, Nat.reduceSub, Nat.reduceMul, Nat.reduceLT, Nat.reduceLeDiff, Int.reduceLT, Int.reduceLE, Int.reduceEq, Int.reduceNe, Int.reduceAdd, Int.reduceSub, Int.reduceMul, Int.reduceToNat, Int.reduceNeg, Int.reducePow, Nat.reducePow, Nat.reduceEqDiff, Nat.reduceBEq, Int.reduceBEq, Int.reduceBNe, Int.reduceNegSucc, Tryd.results68]; done) | (simp only [go_sem, reduceCtorEq, Nat.reduceAdd, Nat.reduceSub, Nat.reduceMul, Nat.reduceLT, Nat.reduceLeDiff, Int.reduceLT, Int.reduceLE, Int.reduceEq, Int.reduceNe, Int.reduceAdd, Int.reduceSub, Int.reduceMul, Int.reduceToNat, Int.reduceNeg, Int.reducePow, Nat.reducePow, Nat.reduceEqDiff, Nat.reduceBEq, Int.reduceBEq, Int.reduceBNe, Int.reduceNegSucc, Tryd.results68]; rfl) | rfl)
  rw [if_neg hn]
  have q1 : ((8192 : Int) < (n.toNat : Int)) = False := eq_false (by omega)
  have q2 : IntKind.i64.wrap (n.toNat : Int) = (n.toNat : Int) := wr_i64 (by omega) (by omega)
  have q3 : IntKind.i64.wrap ((u : Int) + (n.toNat : Int)) = ((u + n.toNat : Nat) : Int) := by rw [wr_i64 (by omega) (by omega)]; rfl
  have q4 : IntKind.i64.wrap (((u + n.toNat : Nat) : Int) + 4) = ((u + n.toNat + 4 : Nat) : Int) := by rw [wr_i64 (by omega) (by omega)]; rfl
  generalize hm : u + n.toNat + 4 = m at q4 ⊢
  by_cases hb : b.length < m
  · have q5 : ((b.length : Int) < (m : Int)) = True := eq_true (by omega)
    rw [if_pos hb]
    refine Sp.of_bodyD Tryd.func68 rfl ?_
    intro Q hQ
    simp only [List.replicate, List.length_cons, List.length_nil, Tryd.ntmps68, Nat.reduceAdd, Nat.reduceSub, List.cons_append, List.nil_append, go_sem]
    have hz : True := trivial
    have hy := yieldedV_eq
    have hL := And.intro @q0 (And.intro @q1 (And.intro @q2 (And.intro @q3 (And.intro @q4 (And.intro @q5 (And.intro @q6 (And.intro @q7 (And.intro @q8 (@q9)))))))))
    repeat' (first | (refine WPV.seqK ?_; intro N hN) | refine gA ?_ | (refine gR (M := noM) ?_; intro N hN ops hy) | (refine gD (M := noM) ?_; intro N hN; have hy := yieldedV_eq) | (refine WPV.condK ?_; intro A hA B hB) | (refine here ?_; refine sM ?_) | refine Both.mk ?_ ?_ | ((with_reducible refine CallO.gd 77 ?_); refine CallO.toA Tryd.call77 (vtake_s ht hl _) ?_) | ((with_reducible refine CallO.gd 76 ?_); refine CallO.toA Tryd.call76 (ho) ?_) | ((with_reducible refine CallO.gd 75 ?_); refine CallO.toA Tryd.call75 (bclone_s (q.drop u) hq _) ?_) | ((with_reducible refine CallP.gd 77 ?_); refine CallP.toA Tryd.call77 (vtake_s ht hl _) ?_) | ((with_reducible refine CallP.gd 76 ?_); refine CallP.toA Tryd.call76 (ho) ?_) | ((with_reducible refine CallP.gd 75 ?_); refine CallP.toA Tryd.call75 (bclone_s (q.drop u) hq _) ?_) | (refine hN _ ?_; try clear hN N; try clear hy ops) | (refine hA ?_; clear hA A hB B; try simp only [hz]) | (refine hB ?_; clear hA A hB B; try simp only [hz]) | (refine gG ?_ ?_ <;> (intro hz; have h := nm hz; try (exfalso; omega)) <;> (have hz := nz hz)) | ((first | rw [if_pos (show _ ∧ _ from ⟨by omega, by omega⟩)] | rw [if_pos (show _ ∧ _ from by simp only [List.length_append, List.length_cons, List.length_nil]; exact ⟨by omega, by omega⟩)]); refine sM ?_) | refine gT ?_ | (clear hN N))
    all_goals (apply And.right; refine hQ _ _ _ Desc.refl ?_ (nx0_wk _))
    · (first | (simp only [go_sem, reduceCtorEq, Nat.reduceAdd, Nat.reduceSub, Nat.reduceMul, Nat.reduceLT, Nat.reduceLeDiff, Int.reduceLT, Int.reduceLE, Int.reduceEq, Int.reduceNe, Int.reduceAdd, Int.reduceSub, Int.reduceMul, Int.reduceToNat, Int.reduceNeg, Int.reducePow, Nat.reducePow, Nat.reduceEqDiff, Nat.reduceBEq, Int.reduceBEq, Int.reduceBNe, Int.reduceNegSucc, Tryd.results68]; done) | (simp only [go_sem, reduceCtorEq, Nat.reduceAdd, Nat.reduceSub, Nat.reduceMul, Nat.reduceLT, Nat.reduceLeDiff, Int.reduceLT, Int.reduceLE, Int.reduceEq, Int.reduceNe, Int.reduceAdd, Int.reduceSub, Int.reduceMul, Int.reduceToNat, Int.reduceNeg, Int.reducePow, Nat.reducePow, Nat.reduceEqDiff, Nat.reduceBEq, Int.reduceBEq, Int.reduceBNe, Int.reduceNegSucc, Tryd.results68]; rfl) | rfl)
  rw [if_neg hb]
  have q5 : ((b.length : Int) < (m : Int)) = False := eq_false (by omega)
  have q6 : ((m : Int) ≤ (b.length : Int)) = True := eq_true (by omega)
  clear ho
  have ho := open_s hK (b.take m) (by simp; omega) []
  obtain ⟨q, f, hqf⟩ : ∃ q f, openF (b.take m) = (q, f) := ⟨_, _, rfl⟩
  rw [hqf] at ho ⊢
  dsimp only at ho ⊢
  by_cases hf : f ≠ 0
  · have q7 : (f != 0) = true := by simpa using hf
    rw [if_pos hf]
    refine Sp.of_bodyD Tryd.func68 rfl ?_
    intro Q hQ
    simp only [List.replicate, List.length_cons, List.length_nil, Tryd.ntmps68, Nat.reduceAdd, Nat.reduceSub, List.cons_append, List.nil_append, go_sem]
    have hz : True := trivial
    have hy := yieldedV_eq
    have hL := And.intro @q0 (And.intro @q1 (And.intro @q2 (And.intro @q3 (And.intro @q4 (And.intro @q5 (And.intro @q6 (And.intro @q7 (And.intro @q8 (@q9)))))))))
    repeat' (first | (refine WPV.seqK ?_; intro N hN) | refine gA ?_ | (refine gR (M := noM) ?_; intro N hN ops hy) | (refine gD (M := noM) ?_; intro N hN; have hy := yieldedV_eq) | (refine WPV.condK ?_; intro A hA B hB) | (refine here ?_; refine sM ?_) | refine Both.mk ?_ ?_ | ((with_reducible refine CallO.gd 77 ?_); refine CallO.toA Tryd.call77 (vtake_s ht hl _) ?_) | ((with_reducible refine CallO.gd 76 ?_); refine CallO.toA Tryd.call76 (ho) ?_) | ((with_reducible refine CallO.gd 75 ?_); refine CallO.toA Tryd.call75 (bclone_s (q.drop u) hq _) ?_) | ((with_reducible refine CallP.gd 77 ?_); refine CallP.toA Tryd.call77 (vtake_s ht hl _) ?_) | ((with_reducible refine CallP.gd 76 ?_); refine CallP.toA Tryd.call76 (ho) ?_) | ((with_reducible refine CallP.gd 75 ?_); refine CallP.toA Tryd.call75 (bclone_s (q.drop u) hq _) ?_) | (refine hN _ ?_; try clear hN N; try clear hy ops) | (refine hA ?_; clear hA A hB B; try simp only [hz]) | (refine hB ?_; clear hA A hB B; try simp only [hz]) | (refine gG ?_ ?_ <;> (intro hz; have h := nm hz; try (exfalso; omega)) <;> (have hz := nz hz)) | ((first | rw [if_pos (show _ ∧ _ from ⟨by omega, by omega⟩)] | rw [if_pos (show _ ∧ _ from by simp only [List.length_append, List.length_cons, List.length_nil]; exact ⟨by omega, by omega⟩)]); refine sM ?_) | refine gT ?_ | (clear hN N))
    all_goals (apply And.right; refine hQ _ _ _ Desc.refl ?_ (nx0_wk _))
    · (first | (simp only [go_sem, reduceCtorEq, Nat.reduceAdd, Nat.reduceSub, Nat.reduceMul, Nat.reduceLT, Nat.reduceLeDiff, Int.reduceLT, Int.reduceLE, Int.reduceEq, Int.reduceNe, Int.reduceAdd, Int.reduceSub, Int.reduceMul, Int.reduceToNat, Int.reduceNeg, Int.reducePow, Nat.reducePow, Nat.reduceEqDiff, Nat.reduceBEq, Int.reduceBEq, Int.reduceBNe, Int.reduceNegSucc, Tryd.results68]; done) | (simp only [go_sem, reduceCtorEq, Nat.reduceAdd, Nat.reduceSub, Nat.reduceMul, Nat.reduceLT, Nat.reduceLeDiff, Int.reduceLT, Int.reduceLE, Int.reduceEq, Int.reduceNe, Int.reduceAdd, Int.reduceSub, Int.reduceMul, Int.reduceToNat, Int.reduceNeg, Int.reducePow, Nat.reducePow, Nat.reduceEqDiff, Nat.reduceBEq, Int.reduceBEq, Int.reduceBNe, Int.reduceNegSucc, Tryd.results68]; rfl) | rfl)
  rw [if_neg hf]
  have hf0 : f = 0 := Decidable.not_not.1 hf
  subst hf0
  have q7 : ((0 : Int) != 0) = false := rfl
  have hoo := openF_ok (b := b.take m) (by rw [hqf])
  rw [hqf] at hoo
  dsimp only at hoo
  have hql : q.length = m - 4 := by rw [hoo.2.1, List.length_take, List.length_take]; omega
  have hq : (q.drop u).length ≤ 1000000000 := by simp; omega
  have q8 : ((u : Int) ≤ (q.length : Int)) = True := eq_true (by omega)
  refine Sp.of_bodyD Tryd.func68 rfl ?_
  intro Q hQ
  simp only [List.replicate, List.length_cons, List.length_nil, Tryd.ntmps68, Nat.reduceAdd, Nat.reduceSub, List.cons_append, List.nil_append, go_sem]
  have hz : True := trivial
  have hy := yieldedV_eq
  have hL := And.intro @q0 (And.intro @q1 (And.intro @q2 (And.intro @q3 (And.intro @q4 (And.intro @q5 (And.intro @q6 (And.intro @q7 (And.intro @q8 (@q9)))))))))
  repeat' (first | (refine WPV.seqK ?_; intro N hN) | refine gA ?_ | (refine gR (M := noM) ?_; intro N hN ops hy) | (refine gD (M := noM) ?_; intro N hN; have hy := yieldedV_eq) | (refine WPV.condK ?_; intro A hA B hB) | (refine here ?_; refine sM ?_) | refine Both.mk ?_ ?_ | ((with_reducible refine CallO.gd 77 ?_); refine CallO.toA Tryd.call77 (vtake_s ht hl _) ?_) | ((with_reducible refine CallO.gd 76 ?_); refine CallO.toA Tryd.call76 (ho) ?_) | ((with_reducible refine CallO.gd 75 ?_); refine CallO.toA Tryd.call75 (bclone_s (q.drop u) hq _) ?_) | ((with_reducible refine CallP.gd 77 ?_); refine CallP.toA Tryd.call77 (vtake_s ht hl _) ?_) | ((with_reducible refine CallP.gd 76 ?_); refine CallP.toA Tryd.call76 (ho) ?_) | ((with_reducible refine CallP.gd 75 ?_); refine CallP.toA Tryd.call75 (bclone_s (q.drop u) hq _) ?_) | (refine hN _ ?_; try clear hN N; try clear hy ops) | (refine hA ?_; clear hA A hB B; try simp only [hz]) | (refine hB ?_; clear hA A hB B; try simp only [hz]) | (refine gG ?_ ?_ <;> (intro hz; have h := nm hz; try (exfalso; omega)) <;> (have hz := nz hz)) | ((first | rw [if_pos (show _ ∧ _ from ⟨by omega, by omega⟩)] | rw [if_pos (show _ ∧ _ from by simp only [List.length_append, List.length_cons, List.length_nil]; exact ⟨by omega, by omega⟩)]); refine sM ?_) | refine gT ?_ | (clear hN N))
  all_goals (apply And.right; refine hQ _ _ _ Desc.refl ?_ Wk.refl)
  · (first | (simp only [go_sem, reduceCtorEq, Nat.reduceAdd, Nat.reduceSub, Nat.reduceMul, Nat.reduceLT, Nat.reduceLeDiff, Int.reduceLT, Int.reduceLE, Int.reduceEq, Int.reduceNe, Int.reduceAdd, Int.reduceSub, Int.reduceMul, Int.reduceToNat, Int.reduceNeg, Int.reducePow, Nat.reducePow, Nat.reduceEqDiff, Nat.reduceBEq, Int.reduceBEq, Int.reduceBNe, Int.reduceNegSucc, Tryd.results68]; done) | (simp only [go_sem, reduceCtorEq, Nat.reduceAdd, Nat.reduceSub, Nat.reduceMul, Nat.reduceLT, Nat.reduceLeDiff, Int.reduceLT, Int.reduceLE, Int.reduceEq, Int.reduceNe, Int.reduceAdd, Int.reduceSub, Int.reduceMul, Int.reduceToNat, Int.reduceNeg, Int.reducePow, Nat.reducePow, Nat.reduceEqDiff, Nat.reduceBEq, Int.reduceBEq, Int.reduceBNe, Int.reduceNegSucc, Tryd.results68]; rfl) | rfl)
end
section
open Go Go.RowKit
set_option linter.unusedVariables false
set_option linter.unusedSimpArgs false
variable {K : Nat → Obj → Prop}
theorem next_e (hK : KT K) {b p : List UInt8} {n : Nat} {e : Int} (hl : b.length ≤ 100000000) (h : nextF b = (p, n, e)) : Sp Tryd.prog K 68 [.sl 1 (bs b)] [] fun u hh => u = .tup [.sl 1 (bs p), .sc (.int .i64 (n : Int)), .sc (.int .i64 e)] ∧ hh = [] := by
  have := next_s hK b (by omega) []
  rwa [h] at this
def sbx (b : List UInt8) (out : List (List UInt8)) (used : Nat) : List Ho := [.cells [.sc (.int .i64 (used : Int))], .cells [.sl 1 (bs b)], .cells [.own 1 (rs out) 3], .tail]
set_option maxRecDepth 100000 in
theorem scan1_end (b : List UInt8) (out : List (List UInt8)) (used : Nat) (h : used = b.length) : Sp Tryd.prog K 79 [.ptr 0 0, .ptr 1 0, .ptr 2 0] (sbx b out used) fun u hh => u = .tup [.sc (.bool false), .sc (.int .i64 0)] ∧ hh = sbx b out used := by
  have q0 : ((used : Int) == (b.length : Int)) = true := by rw [h]; simp
  unfold sbx
  refine Sp.of_bodyD Tryd.func79 rfl ?_
  intro Q hQ
  simp only [List.replicate, List.length_cons, List.length_nil, Tryd.ntmps79, Nat.reduceAdd, Nat.reduceSub, List.cons_append, List.nil_append, go_sem]
  have hz : True := trivial
  have hy := yieldedV_eq
  have hL := @q0
  repeat' (first | (refine WPV.seqK ?_; intro N hN) | refine gA ?_ | (refine gR (M := noM) ?_; intro N hN ops hy) | (refine gD (M := noM) ?_; intro N hN; have hy := yieldedV_eq) | (refine WPV.condK ?_; intro A hA B hB) | (refine here ?_; refine sM ?_) | refine Both.mk ?_ ?_ | (refine hN _ ?_; try clear hN N; try clear hy ops) | (refine hA ?_; clear hA A hB B; try simp only [hz]) | (refine hB ?_; clear hA A hB B; try simp only [hz]) | (refine gG ?_ ?_ <;> (intro hz; have h := nm hz; try (exfalso; omega)) <;> (have hz := nz hz)) | ((first | rw [if_pos (show _ ∧ _ from ⟨by omega, by omega⟩)] | rw [if_pos (show _ ∧ _ from by simp only [List.length_append, List.length_cons, List.length_nil]; exact ⟨by omega, by omega⟩)]); refine sM ?_) | refine gT ?_ | (clear hN N))
  all_goals (first | exact retA hQ Tryd.results79 (Desc.refl) | exact retN hQ Tryd.results79 (Desc.refl))
set_option maxRecDepth 100000 in
theorem scan1_err (hK : KT K) (b : List UInt8) (out : List (List UInt8)) (used : Nat) (p : List UInt8) (n : Nat) (e : Int) (hl : b.length ≤ 100000000) (h : used < b.length) (hx : nextF (b.drop used) = (p, n, e)) (he : e ≠ 0) : Sp Tryd.prog K 79 [.ptr 0 0, .ptr 1 0, .ptr 2 0] (sbx b out used) fun u hh => u = .tup [.sc (.bool false), .sc (.int .i64 e)] ∧ hh = sbx b out used := by
  have q0 : ((used : Int) == (b.length : Int)) = false := by rw [beq_eq_false_iff_ne]; omega
  have q1 : ((used : Int) ≤ (b.length : Int)) = True := eq_true (by omega)
  have q2 : (e != 0) = true := by simpa using he
  have hn0 := next_e hK (by simp; omega) hx
  have hn := hn0.lift (fun _ => rfl) (fun _ => rfl) (sbx b out used)
  unfold sbx at hn ⊢
  refine Sp.of_bodyD Tryd.func79 rfl ?_
  intro Q hQ
  simp only [List.replicate, List.length_cons, List.length_nil, Tryd.ntmps79, Nat.reduceAdd, Nat.reduceSub, List.cons_append, List.nil_append, go_sem]
  have hz : True := trivial
  have hy := yieldedV_eq
  have hL := And.intro @q0 (And.intro @q1 (@q2))
  repeat' (first | (refine WPV.seqK ?_; intro N hN) | refine gA ?_ | (refine gR (M := noM) ?_; intro N hN ops hy) | (refine gD (M := noM) ?_; intro N hN; have hy := yieldedV_eq) | (refine WPV.condK ?_; intro A hA B hB) | (refine here ?_; refine sM ?_) | refine Both.mk ?_ ?_ | ((with_reducible refine CallO.gd 68 ?_); refine CallO.toA Tryd.call68 (hn) ?_) | ((with_reducible refine CallP.gd 68 ?_); refine CallP.toA Tryd.call68 (hn) ?_) | (refine hN _ ?_; try clear hN N; try clear hy ops) | (refine hA ?_; clear hA A hB B; try simp only [hz]) | (refine hB ?_; clear hA A hB B; try simp only [hz]) | (refine gG ?_ ?_ <;> (intro hz; have h := nm hz; try (exfalso; omega)) <;> (have hz := nz hz)) | ((first | rw [if_pos (show _ ∧ _ from ⟨by omega, by omega⟩)] | rw [if_pos (show _ ∧ _ from by simp only [List.length_append, List.length_cons, List.length_nil]; exact ⟨by omega, by omega⟩)]); refine sM ?_) | refine gT ?_ | (clear hN N))
  all_goals (first | exact retA hQ Tryd.results79 (Desc.refl) | exact retN hQ Tryd.results79 (Desc.refl))
set_option maxRecDepth 100000 in
theorem scan1_ok (hK : KT K) (b : List UInt8) (out : List (List UInt8)) (used : Nat) (p : List UInt8) (n : Nat) (hl : b.length ≤ 100000000) (h : used < b.length) (hx : nextF (b.drop used) = (p, n, 0)) (ho : out.length ≤ 100000000) : Sp Tryd.prog K 79 [.ptr 0 0, .ptr 1 0, .ptr 2 0] (sbx b out used) fun u hh => u = .tup [.sc (.bool true), .sc (.int .i64 0)] ∧ hh = [.cells [.sc (.int .i64 ((used + n : Nat) : Int))], .cells [.sl 1 (bs b)], .cells [.own 1 (rs (out ++ [p])) 4], .dead, .tail] := by
  have q0 : ((used : Int) == (b.length : Int)) = false := by rw [beq_eq_false_iff_ne]; omega
  have q1 : ((used : Int) ≤ (b.length : Int)) = True := eq_true (by omega)
  have q2 : ((0 : Int) != 0) = false := rfl
  have hnl := (nextF_len (b.drop used)).1
  rw [hx, List.length_drop] at hnl
  dsimp only at hnl
  have q3 : IntKind.i64.wrap ((used : Int) + (n : Int)) = ((used + n : Nat) : Int) := by rw [wr_i64 (by omega) (by omega)]; rfl
  have hn0 := next_e hK (by simp; omega) hx
  have hn := hn0.lift (fun _ => rfl) (fun _ => rfl) (sbx b out used)
  unfold sbx at hn ⊢
  refine Sp.of_bodyD Tryd.func79 rfl ?_
  intro Q hQ
  simp only [List.replicate, List.length_cons, List.length_nil, Tryd.ntmps79, Nat.reduceAdd, Nat.reduceSub, List.cons_append, List.nil_append, go_sem]
  have hz : True := trivial
  have hy := yieldedV_eq
  have hL := And.intro @q0 (And.intro @q1 (And.intro @q2 (@q3)))
  repeat' (first | (refine WPV.seqK ?_; intro N hN) | refine gA ?_ | (refine gR (M := noM) ?_; intro N hN ops hy) | (refine gD (M := noM) ?_; intro N hN; have hy := yieldedV_eq) | (refine WPV.condK ?_; intro A hA B hB) | (refine here ?_; refine sM ?_) | refine Both.mk ?_ ?_ | ((with_reducible refine CallO.gd 68 ?_); refine CallO.toA Tryd.call68 (hn) ?_) | ((with_reducible refine CallP.gd 68 ?_); refine CallP.toA Tryd.call68 (hn) ?_) | (refine hN _ ?_; try clear hN N; try clear hy ops) | (refine hA ?_; clear hA A hB B; try simp only [hz]) | (refine hB ?_; clear hA A hB B; try simp only [hz]) | (refine gG ?_ ?_ <;> (intro hz; have h := nm hz; try (exfalso; omega)) <;> (have hz := nz hz)) | ((first | rw [if_pos (show _ ∧ _ from ⟨by omega, by omega⟩)] | rw [if_pos (show _ ∧ _ from by simp only [List.length_append, List.length_cons, List.length_nil]; exact ⟨by omega, by omega⟩)]); refine sM ?_) | refine gT ?_ | (clear hN N))
  all_goals (first | exact retA hQ Tryd.results79 (Desc.refl) | exact retN hQ Tryd.results79 (Desc.refl))
abbrev scV (r : List (List UInt8) × Nat × Int) : V := .tup [.sl 1 (rs r.1), .sc (.int .i64 (r.2.1 : Int)), .sc (.int .i64 r.2.2)]
structure ScJ (b : List UInt8) (out : List (List UInt8)) (used : Nat) : Prop where
  le : used ≤ b.length
  ol : out.length ≤ used
  eq : ∃ k, b.length < used + k ∧ scanF b = scanN b k out used
set_option maxRecDepth 100000 in
set_option maxHeartbeats 1000000 in
theorem scan_s (hK : KT K) (b : List UInt8) (hl : b.length ≤ 100000000) (h : List Ho) : Sp Tryd.prog K 42 [.sl 1 (bs b)] h fun u hh => u = scV (scanF b) ∧ hh = h := by
  refine Sp.pure_ (R := fun u hh => u = scV (scanF b) ∧ hh = []) ?_ (fun _ => rfl) (fun _ => rfl) (fun v h ⟨e, _⟩ => by rw [e]; exact Wk.refl) h
  have q0 : True := trivial
  refine Sp.of_bodyD Tryd.func42 rfl ?_
  intro Q hQ
  simp only [List.replicate, List.length_cons, List.length_nil, Tryd.ntmps42, Nat.reduceAdd, Nat.reduceSub, List.cons_append, List.nil_append, go_sem]
  have hz : True := trivial
  have hy := yieldedV_eq
  have hL := @q0
  repeat' (first | (refine WPV.seqK ?_; intro N hN) | refine gA ?_ | (refine gR (M := noM) ?_; intro N hN ops hy) | (refine gD (M := noM) ?_; intro N hN; have hy := yieldedV_eq) | (refine WPV.condK ?_; intro A hA B hB) | (refine here ?_; refine sM ?_) | refine Both.mk ?_ ?_ | (refine hN _ ?_; try clear hN N; try clear hy ops) | (refine hA ?_; clear hA A hB B; try simp only [hz]) | (refine hB ?_; clear hA A hB B; try simp only [hz]) | (refine gG ?_ ?_ <;> (intro hz; have h := nm hz; try (exfalso; omega)) <;> (have hz := nz hz)) | ((first | rw [if_pos (show _ ∧ _ from ⟨by omega, by omega⟩)] | rw [if_pos (show _ ∧ _ from by simp only [List.length_append, List.length_cons, List.length_nil]; exact ⟨by omega, by omega⟩)]); refine sM ?_) | refine gT ?_ | (clear hN N))
  refine WPV.desc ((Desc.own0H 1 0 1 rfl rfl).trans (Desc.weakA (tm' := [.any, .any, .any, .any, .any, .ptr 1 0, .ptr 2 0, .fn 79 [.ptr 2 0, .ptr 0 0, .ptr 1 0], .any, .any, .any, .any, .any, .any, .any, .any, .any, .any, .any, .any, .any]) (h' := [.cells [.sl 1 (bs b)], .cells [.own 1 (rs []) 3], .cells [.sc (.int .i64 ((0 : Nat) : Int))], .tail]))) ?_
  refine WPV.loopA (α := List (List UInt8) × Nat) (fun s => b.length - s.2) (fun s => ⟨[.any, .any, .any, .any, .any, .ptr 1 0, .ptr 2 0, .fn 79 [.ptr 2 0, .ptr 0 0, .ptr 1 0], .any, .any, .any, .any, .any, .any, .any, .any, .any, .any, .any, .any, .any], [.cells [.sl 1 (bs b)], .cells [.own 1 (rs s.1) 3], .cells [.sc (.int .i64 (s.2 : Int))], .tail]⟩) (fun s => ScJ b s.1 s.2) (fun s hJ H => ?_) ([], 0) ⟨Nat.zero_le _, Nat.le_refl _, b.length + 1, by omega, rfl⟩
  obtain ⟨out, used⟩ := s
  obtain ⟨h1, h2, k, h3, h4⟩ := hJ
  dsimp only at h1 h2 h3 h4 H ⊢
  obtain ⟨k, rfl⟩ : ∃ j, k = j + 1 := ⟨k - 1, by omega⟩
  unfold scanN at h4
  by_cases hu : used = b.length
  · rw [if_pos hu] at h4
    rw [h4] at hQ
    have hs := scan1_end (K := K) b out used hu
    unfold sbx at hs
    clear H
    refine loopV ?_
    have hz : True := trivial
    have hy := yieldedV_eq
    have hL := @q0
    repeat' (first | (refine WPV.seqK ?_; intro N hN) | refine gA ?_ | (refine gR (M := noM) ?_; intro N hN ops hy) | (refine gD (M := noM) ?_; intro N hN; have hy := yieldedV_eq) | (refine WPV.condK ?_; intro A hA B hB) | (refine here ?_; refine sM ?_) | refine Both.mk ?_ ?_ | ((with_reducible refine CallO.gd 79 ?_); refine CallO.frA [2, 0, 1, 3] Tryd.call79 (hs) ?_) | (refine hN _ ?_; try clear hN N; try clear hy ops) | (refine hA ?_; clear hA A hB B; try simp only [hz]) | (refine hB ?_; clear hA A hB B; try simp only [hz]) | (refine gG ?_ ?_ <;> (intro hz; have h := nm hz; try (exfalso; omega)) <;> (have hz := nz hz)) | ((first | rw [if_pos (show _ ∧ _ from ⟨by omega, by omega⟩)] | rw [if_pos (show _ ∧ _ from by simp only [List.length_append, List.length_cons, List.length_nil]; exact ⟨by omega, by omega⟩)]); refine sM ?_) | refine gT ?_ | (clear hN N))
    all_goals (first | exact retA hQ Tryd.results42 (Desc.re [] rfl) | exact retN hQ Tryd.results42 (Desc.re [] rfl))
  rw [if_neg hu] at h4
  obtain ⟨p, n, e, hx⟩ : ∃ p n e, nextF (b.drop used) = (p, n, e) := ⟨_, _, _, rfl⟩
  have hnl := nextF_len (b.drop used)
  rw [hx] at h4 hnl
  dsimp only at h4 hnl
  rw [List.length_drop] at hnl
  by_cases he : e ≠ 0
  · rw [if_pos he] at h4
    rw [h4] at hQ
    have hs := scan1_err hK b out used p n e hl (by omega) hx he
    unfold sbx at hs
    clear H
    refine loopV ?_
    have hz : True := trivial
    have hy := yieldedV_eq
    have hL := @q0
    repeat' (first | (refine WPV.seqK ?_; intro N hN) | refine gA ?_ | (refine gR (M := noM) ?_; intro N hN ops hy) | (refine gD (M := noM) ?_; intro N hN; have hy := yieldedV_eq) | (refine WPV.condK ?_; intro A hA B hB) | (refine here ?_; refine sM ?_) | refine Both.mk ?_ ?_ | ((with_reducible refine CallO.gd 79 ?_); refine CallO.frA [2, 0, 1, 3] Tryd.call79 (hs) ?_) | (refine hN _ ?_; try clear hN N; try clear hy ops) | (refine hA ?_; clear hA A hB B; try simp only [hz]) | (refine hB ?_; clear hA A hB B; try simp only [hz]) | (refine gG ?_ ?_ <;> (intro hz; have h := nm hz; try (exfalso; omega)) <;> (have hz := nz hz)) | ((first | rw [if_pos (show _ ∧ _ from ⟨by omega, by omega⟩)] | rw [if_pos (show _ ∧ _ from by simp only [List.length_append, List.length_cons, List.length_nil]; exact ⟨by omega, by omega⟩)]); refine sM ?_) | refine gT ?_ | (clear hN N))
    all_goals (first | exact retA hQ Tryd.results42 (Desc.re [] rfl) | exact retN hQ Tryd.results42 (Desc.re [] rfl))
  rw [if_neg he] at h4
  have he0 : e = 0 := Decidable.not_not.1 he
  subst he0
  have hs := scan1_ok hK b out used p n hl (by omega) hx (by omega)
  unfold sbx at hs
  have hn5 := hnl.2 rfl
  have H' := H (out ++ [p], used + n) ⟨by dsimp only; omega, by simp; omega, k, by dsimp only; omega, h4⟩ (by dsimp only; omega)
  clear H
  dsimp only at H'
  refine loopV ?_
  have hz : True := trivial
  have hy := yieldedV_eq
  have hL := @q0
  repeat' (first | (refine WPV.seqK ?_; intro N hN) | refine gA ?_ | (refine gR (M := noM) ?_; intro N hN ops hy) | (refine gD (M := noM) ?_; intro N hN; have hy := yieldedV_eq) | (refine WPV.condK ?_; intro A hA B hB) | (refine here ?_; refine sM ?_) | refine Both.mk ?_ ?_ | ((with_reducible refine CallO.gd 79 ?_); refine CallO.frA [2, 0, 1, 3] Tryd.call79 (hs) ?_) | (refine hN _ ?_; try clear hN N; try clear hy ops) | (refine hA ?_; clear hA A hB B; try simp only [hz]) | (refine hB ?_; clear hA A hB B; try simp only [hz]) | (refine gG ?_ ?_ <;> (intro hz; have h := nm hz; try (exfalso; omega)) <;> (have hz := nz hz)) | ((first | rw [if_pos (show _ ∧ _ from ⟨by omega, by omega⟩)] | rw [if_pos (show _ ∧ _ from by simp only [List.length_append, List.length_cons, List.length_nil]; exact ⟨by omega, by omega⟩)]); refine sM ?_) | refine gT ?_ | (clear hN N))
  exact WPV.desc ((Desc.re [some 0, some 1, some 2, some 4] rfl).trans Desc.weakA) H'
theorem wrap_e (hK : KT K) {p f : List UInt8} {e : Int} (hl : p.length ≤ 100000000) (h : wrapF p = (f, e)) : Sp Tryd.prog K 23 [.sl 1 (bs p)] [] fun u hh => u = .tup [.sl 1 (bs f), .sc (.int .i64 e)] ∧ hh = [] := by
  have := wrap_s hK p hl []
  rwa [h] at this
set_option maxRecDepth 100000 in
set_option maxHeartbeats 1000000 in
theorem all_s (hK : KT K) (l : List (List UInt8)) (hl : l.length ≤ 1000000) (hp : ∀ p ∈ l, p.length ≤ 100000000) (h : List Ho) : Sp Tryd.prog K 44 [.sl 1 (rs l)] h fun u hh => u = byV (allF l) ∧ hh = h := by
  refine Sp.pure_ (R := fun u hh => Wk [u] [byV (allF l)]) ?_ (fun _ => rfl) (fun _ => rfl) (fun v h e => e) h
  have q0 : True := trivial
  have q1 : True := trivial
  have q2 : True := trivial
  have q3 : True := trivial
  refine Sp.of_bodyD Tryd.func44 rfl ?_
  intro Q hQ
  simp only [List.replicate, List.length_cons, List.length_nil, Tryd.ntmps44, Nat.reduceAdd, Nat.reduceSub, List.cons_append, List.nil_append, go_sem]
  have hz : True := trivial
  have hy := yieldedV_eq
  have hL := And.intro @q0 (And.intro @q1 (And.intro @q2 (@q3)))
  repeat' (first | (refine WPV.seqK ?_; intro N hN) | refine gA ?_ | (refine gR (M := noM) ?_; intro N hN ops hy) | (refine gD (M := noM) ?_; intro N hN; have hy := yieldedV_eq) | (refine WPV.condK ?_; intro A hA B hB) | (refine here ?_; refine sM ?_) | refine Both.mk ?_ ?_ | (refine hN _ ?_; try clear hN N; try clear hy ops) | (refine hA ?_; clear hA A hB B; try simp only [hz]) | (refine hB ?_; clear hA A hB B; try simp only [hz]) | (refine gG ?_ ?_ <;> (intro hz; have h := nm hz; try (exfalso; omega)) <;> (have hz := nz hz)) | ((first | rw [if_pos (show _ ∧ _ from ⟨by omega, by omega⟩)] | rw [if_pos (show _ ∧ _ from by simp only [List.length_append, List.length_cons, List.length_nil]; exact ⟨by omega, by omega⟩)]); refine sM ?_) | refine gT ?_ | (clear hN N))
  refine WPV.desc ((Desc.own0 (es := []) 4 1 rfl (.inr ⟨rfl, rfl⟩)).trans (Desc.weakA (tm' := [.any, .any, .any, .any, .own 1 (bs []) 0, .any, .any, .any, .any, .sl 1 (rs l), .sc (.int .i64 (l.length : Int)), .sc (.int .i64 ((0 : Nat) : Int)), .any, .any, .any, .any, .any, .any, .any, .any, .any, .any, .any, .any, .any, .any, .any, .any]) (h' := [.tail]))) ?_
  refine WPV.loopA (α := Nat × List UInt8) (fun s => l.length - s.1) (fun s => ⟨[.any, .any, .any, .any, .own 1 (bs s.2) 0, .any, .any, .any, .any, .sl 1 (rs l), .sc (.int .i64 (l.length : Int)), .sc (.int .i64 ((s.1 : Nat) : Int)), .any, .any, .any, .any, .any, .any, .any, .any, .any, .any, .any, .any, .any, .any, .any, .any], [.tail]⟩) (fun s => s.1 ≤ l.length ∧ s.2.length ≤ 9000 * s.1 ∧ allF l = allN (l.drop s.1) s.2) (fun s hJ H => ?_) (0, []) ⟨Nat.zero_le _, Nat.zero_le _, rfl⟩
  obtain ⟨k, b⟩ := s
  obtain ⟨hk0, hb, hJ⟩ := hJ
  dsimp only at hk0 hb hJ H ⊢
  by_cases h : k < l.length
  · have q0 : ((k : Int) < (l.length : Int)) = True := eq_true (by omega)
    have q1 : l[k]? = some l[k] := List.getElem?_eq_getElem h
    have hpl := hp l[k] (List.getElem_mem h)
    rw [List.drop_eq_getElem_cons h] at hJ
    generalize l[k] = p at q1 hpl hJ
    have q2 : IntKind.i64.wrap ((k : Int) + 1) = ((k + 1 : Nat) : Int) := by rw [wr_i64 (by omega) (by omega)]; rfl
    obtain ⟨f, e, hf⟩ : ∃ f e, wrapF p = (f, e) := ⟨_, _, rfl⟩
    have hfl := wrapF_len p
    have hw := (wrap_e hK hpl hf).lift (fun _ => rfl) (fun _ => rfl)
    unfold allN at hJ
    rw [hf] at hJ hfl
    dsimp only at hJ hfl
    by_cases he : e ≠ 0
    · have q3 : (e != 0) = true := by simpa using he
      rw [if_pos he] at hJ
      rw [hJ] at hQ
      clear H
      refine loopV ?_
      have hz : True := trivial
      have hy := yieldedV_eq
      have hL := And.intro @q0 (And.intro @q1 (And.intro @q2 (@q3)))
      repeat' (first | (refine WPV.seqK ?_; intro N hN) | refine gA ?_ | (refine gR (M := noM) ?_; intro N hN ops hy) | (refine gD (M := noM) ?_; intro N hN; have hy := yieldedV_eq) | (refine WPV.condK ?_; intro A hA B hB) | (refine here ?_; refine sM ?_) | refine Both.mk ?_ ?_ | ((with_reducible refine CallO.gd 23 ?_); refine CallO.toA Tryd.call23 (hw _) ?_) | ((with_reducible refine CallP.gd 23 ?_); refine CallP.toA Tryd.call23 (hw _) ?_) | (refine hN _ ?_; try clear hN N; try clear hy ops) | (refine hA ?_; clear hA A hB B; try simp only [hz]) | (refine hB ?_; clear hA A hB B; try simp only [hz]) | (refine gG ?_ ?_ <;> (intro hz; have h := nm hz; try (exfalso; omega)) <;> (have hz := nz hz)) | ((first | rw [if_pos (show _ ∧ _ from ⟨by omega, by omega⟩)] | rw [if_pos (show _ ∧ _ from by simp only [List.length_append, List.length_cons, List.length_nil]; exact ⟨by omega, by omega⟩)]); refine sM ?_) | refine gT ?_ | (clear hN N))
      all_goals (apply And.right; refine hQ _ _ _ Desc.refl ?_ (Wk.tupC (Wk.null Wk.refl) Wk.nil))
      · (first | (simp only [go_sem, reduceCtorEq, Nat.reduceAdd, Nat.reduceSub, Nat.reduceMul, Nat.reduceLT, Nat.reduceLeDiff, Int.reduceLT, Int.reduceLE, Int.reduceEq, Int.reduceNe, Int.reduceAdd, Int.reduceSub, Int.reduceMul, Int.reduceToNat, Int.reduceNeg, Int.reducePow, Nat.reducePow, Nat.reduceEqDiff, Nat.reduceBEq, Int.reduceBEq, Int.reduceBNe, Int.reduceNegSucc, Tryd.results44]; done) | (simp only [go_sem, reduceCtorEq, Nat.reduceAdd, Nat.reduceSub, Nat.reduceMul, Nat.reduceLT, Nat.reduceLeDiff, Int.reduceLT, Int.reduceLE, Int.reduceEq, Int.reduceNe, Int.reduceAdd, Int.reduceSub, Int.reduceMul, Int.reduceToNat, Int.reduceNeg, Int.reducePow, Nat.reducePow, Nat.reduceEqDiff, Nat.reduceBEq, Int.reduceBEq, Int.reduceBNe, Int.reduceNegSucc, Tryd.results44]; rfl) | rfl)
    · have he0 : e = 0 := Decidable.not_not.1 he
      subst he0
      have q3 : ((0 : Int) != 0) = false := rfl
      rw [if_neg he] at hJ
      have H' := H (k + 1, b ++ f) ⟨by dsimp only; omega, by simp; omega, hJ⟩ (by dsimp only; omega)
      clear H
      dsimp only at H'
      refine loopV ?_
      have hz : True := trivial
      have hy := yieldedV_eq
      have hL := And.intro @q0 (And.intro @q1 (And.intro @q2 (@q3)))
      repeat' (first | (refine WPV.seqK ?_; intro N hN) | refine gA ?_ | (refine gR (M := noM) ?_; intro N hN ops hy) | (refine gD (M := noM) ?_; intro N hN; have hy := yieldedV_eq) | (refine WPV.condK ?_; intro A hA B hB) | (refine here ?_; refine sM ?_) | refine Both.mk ?_ ?_ | ((with_reducible refine CallO.gd 23 ?_); refine CallO.toA Tryd.call23 (hw _) ?_) | ((with_reducible refine CallP.gd 23 ?_); refine CallP.toA Tryd.call23 (hw _) ?_) | (refine hN _ ?_; try clear hN N; try clear hy ops) | (refine hA ?_; clear hA A hB B; try simp only [hz]) | (refine hB ?_; clear hA A hB B; try simp only [hz]) | (refine gG ?_ ?_ <;> (intro hz; have h := nm hz; try (exfalso; omega)) <;> (have hz := nz hz)) | ((first | rw [if_pos (show _ ∧ _ from ⟨by omega, by omega⟩)] | rw [if_pos (show _ ∧ _ from by simp only [List.length_append, List.length_cons, List.length_nil]; exact ⟨by omega, by omega⟩)]); refine sM ?_) | refine gT ?_ | (clear hN N))
      exact WPV.desc ((Desc.re [some 1] rfl).trans Desc.weakA) H'
  obtain rfl : k = l.length := by omega
  clear H
  rw [List.drop_length] at hJ
  unfold allN at hJ
  rw [hJ] at hQ
  have q0 : ((l.length : Int) < (l.length : Int)) = False := by simp
  refine loopV ?_
  have hz : True := trivial
  have hy := yieldedV_eq
  have hL := And.intro @q0 (And.intro @q1 (And.intro @q2 (@q3)))
  repeat' (first | (refine WPV.seqK ?_; intro N hN) | refine gA ?_ | (refine gR (M := noM) ?_; intro N hN ops hy) | (refine gD (M := noM) ?_; intro N hN; have hy := yieldedV_eq) | (refine WPV.condK ?_; intro A hA B hB) | (refine here ?_; refine sM ?_) | refine Both.mk ?_ ?_ | (refine hN _ ?_; try clear hN N; try clear hy ops) | (refine hA ?_; clear hA A hB B; try simp only [hz]) | (refine hB ?_; clear hA A hB B; try simp only [hz]) | (refine gG ?_ ?_ <;> (intro hz; have h := nm hz; try (exfalso; omega)) <;> (have hz := nz hz)) | ((first | rw [if_pos (show _ ∧ _ from ⟨by omega, by omega⟩)] | rw [if_pos (show _ ∧ _ from by simp only [List.length_append, List.length_cons, List.length_nil]; exact ⟨by omega, by omega⟩)]); refine sM ?_) | refine gT ?_ | (clear hN N))
  all_goals (apply And.right; refine hQ _ _ _ Desc.refl ?_ (Wk.tupC (Wk.own (k := 1) (t := 0) Wk.refl) Wk.nil))
  · (first | (simp only [go_sem, reduceCtorEq, Nat.reduceAdd, Nat.reduceSub, Nat.reduceMul, Nat.reduceLT, Nat.reduceLeDiff, Int.reduceLT, Int.reduceLE, Int.reduceEq, Int.reduceNe, Int.reduceAdd, Int.reduceSub, Int.reduceMul, Int.reduceToNat, Int.reduceNeg, Int.reducePow, Nat.reducePow, Nat.reduceEqDiff, Nat.reduceBEq, Int.reduceBEq, Int.reduceBNe, Int.reduceNegSucc, Tryd.results44]; done) | (simp only [go_sem, reduceCtorEq, Nat.reduceAdd, Nat.reduceSub, Nat.reduceMul, Nat.reduceLT, Nat.reduceLeDiff, Int.reduceLT, Int.reduceLE, Int.reduceEq, Int.reduceNe, Int.reduceAdd, Int.reduceSub, Int.reduceMul, Int.reduceToNat, Int.reduceNeg, Int.reducePow, Nat.reducePow, Nat.reduceEqDiff, Nat.reduceBEq, Int.reduceBEq, Int.reduceBNe, Int.reduceNegSucc, Tryd.results44]; rfl) | rfl)
end
end Go.Proofs.YtgfnpcmehnjopaaDoor
end
section
namespace Go.Proofs.YtgfnpcmehnjopaaDoor
open Go Go.RowKit
set_option linter.unusedVariables false
set_option linter.unusedSimpArgs false
variable {K : Nat → Obj → Prop}
set_option maxRecDepth 100000 in
set_option maxHeartbeats 2000000 in
theorem stake_s (hT : TT K) (hK : KT K) (b : List UInt8) (hl : b.length ≤ 100000000) : Sp Tryd.prog K 15 [.sl 1 (bs b)] [] fun u hh => u = itsV (takeI b) ∧ hh = [] := by
  have cs := fun h => scan_s hK b (by omega) h
  obtain ⟨rows, used, e, hs⟩ : ∃ r u e, scanF b = (r, u, e) := ⟨_, _, _, rfl⟩
  have hrec := (scanF_back b).1
  have e0 : takeI b = if e ≠ 0 then ([], e) else if 300 < rows.length then ([], 4) else readsI rows := by unfold takeI; rw [hs]
  rw [hs] at cs hrec
  dsimp only [Fits] at hrec
  dsimp only [scV] at cs
  clear hs
  have hget := True.intro
  by_cases he : e ≠ 0
  · rw [if_pos he] at e0
    rw [e0]
    refine Sp.of_bodyE Tryd.func15 rfl ?_
    intro Q hQ
    simp only [List.replicate, List.length_cons, List.length_nil, Tryd.ntmps15, Nat.reduceAdd, Nat.reduceSub, List.cons_append, List.nil_append, go_sem]
    have hz : True := trivial
    have hy := yieldedV_eq
    have hL := @hget
    repeat' (first | (refine WPV.seqK ?_; intro N hN) | refine gA ?_ | (refine gR (M := noM) ?_; intro N hN ops hy) | (refine gD (M := noM) ?_; intro N hN; have hy := yieldedV_eq) | (refine WPV.condK ?_; intro A hA B hB) | (refine here ?_; refine sS ?_) | refine Both.mk ?_ ?_ | ((with_reducible refine CallO.gd 42 ?_); refine CallO.toB Tryd.call42 (cs _) ?_) | ((with_reducible refine CallP.gd 42 ?_); refine CallP.toB Tryd.call42 (cs _) ?_) | (refine hN _ ?_; try clear hN N; try clear hy ops) | (refine hA ?_; clear hA A hB B; try simp only [hz]) | (refine hB ?_; clear hA A hB B; try simp only [hz]) | (refine gG ?_ ?_ <;> (intro hz; have h := nm hz; try (exfalso; omega)) <;> (have hz := nz hz; try subst hz)) | (rw [if_pos (show _ ∧ _ from ⟨by omega, by omega⟩)]; refine sS ?_) | refine gT ?_ | (clear hN N))
    (try unfold itsV at hQ)
    all_goals (first | exact retZ hQ Tryd.results15 (Desc.re [] rfl) | exact retZN hQ Tryd.results15 (Desc.re [] rfl))
  rw [if_neg he] at e0
  have he := Decidable.not_not.1 he
  subst he
  by_cases h3 : 300 < rows.length
  · rw [if_pos h3] at e0
    rw [e0]
    refine Sp.of_bodyE Tryd.func15 rfl ?_
    intro Q hQ
    simp only [List.replicate, List.length_cons, List.length_nil, Tryd.ntmps15, Nat.reduceAdd, Nat.reduceSub, List.cons_append, List.nil_append, go_sem]
    have hz : True := trivial
    have hy := yieldedV_eq
    have hL := @hget
    repeat' (first | (refine WPV.seqK ?_; intro N hN) | refine gA ?_ | (refine gR (M := noM) ?_; intro N hN ops hy) | (refine gD (M := noM) ?_; intro N hN; have hy := yieldedV_eq) | (refine WPV.condK ?_; intro A hA B hB) | (refine here ?_; refine sS ?_) | refine Both.mk ?_ ?_ | ((with_reducible refine CallO.gd 42 ?_); refine CallO.toB Tryd.call42 (cs _) ?_) | ((with_reducible refine CallP.gd 42 ?_); refine CallP.toB Tryd.call42 (cs _) ?_) | (refine hN _ ?_; try clear hN N; try clear hy ops) | (refine hA ?_; clear hA A hB B; try simp only [hz]) | (refine hB ?_; clear hA A hB B; try simp only [hz]) | (refine gG ?_ ?_ <;> (intro hz; have h := nm hz; try (exfalso; omega)) <;> (have hz := nz hz; try subst hz)) | (rw [if_pos (show _ ∧ _ from ⟨by omega, by omega⟩)]; refine sS ?_) | refine gT ?_ | (clear hN N))
    (try unfold itsV at hQ)
    all_goals (first | exact retZ hQ Tryd.results15 (Desc.re [] rfl) | exact retZN hQ Tryd.results15 (Desc.re [] rfl))
  rw [if_neg h3] at e0
  rw [e0]
  clear e0
  refine Sp.of_bodyE Tryd.func15 rfl ?_
  intro Q hQ
  simp only [List.replicate, List.length_cons, List.length_nil, Tryd.ntmps15, Nat.reduceAdd, Nat.reduceSub, List.cons_append, List.nil_append, go_sem]
  have hz : True := trivial
  have hy := yieldedV_eq
  have hL := @hget
  repeat' (first | (refine WPV.seqK ?_; intro N hN) | refine gA ?_ | (refine gR (M := noM) ?_; intro N hN ops hy) | (refine gD (M := noM) ?_; intro N hN; have hy := yieldedV_eq) | (refine WPV.condK ?_; intro A hA B hB) | (refine here ?_; refine sS ?_) | refine Both.mk ?_ ?_ | ((with_reducible refine CallO.gd 42 ?_); refine CallO.toB Tryd.call42 (cs _) ?_) | ((with_reducible refine CallP.gd 42 ?_); refine CallP.toB Tryd.call42 (cs _) ?_) | (refine hN _ ?_; try clear hN N; try clear hy ops) | (refine hA ?_; clear hA A hB B; try simp only [hz]) | (refine hB ?_; clear hA A hB B; try simp only [hz]) | (refine gG ?_ ?_ <;> (intro hz; have h := nm hz; try (exfalso; omega)) <;> (have hz := nz hz; try subst hz)) | (rw [if_pos (show _ ∧ _ from ⟨by omega, by omega⟩)]; refine sS ?_) | refine gT ?_ | (clear hN N))
  clear hget cs
  refine WPV.loopW (α := Nat × List It) (fun q => rows.length - q.1) (fun q => ⟨[.any, .any, .any, .any, .any, .any, .any, .own 10 (its q.2) 0, .any, .any, .any, .any, .any, .any, .any, .any, .any, .any, .any, .any, .any, .any, .any, .any, .any, .any, .sl 1 (rs rows), .sc (.int .i64 (rows.length : Int)), .sc (.int .i64 ((q.1 : Nat) : Int)), .any, .any, .any, .any, .any, .any, .any, .any, .any, .any, .any, .any, .any, .any, .any, .any, .any], [.tail]⟩) (fun q => q.1 ≤ rows.length ∧ q.2.length = q.1 ∧ readsI rows = joinI q.2 (readsI (rows.drop q.1))) (0, []) ((Desc.own0 (es := []) 7 10 rfl (.inr ⟨rfl, rfl⟩)).trans Desc.weakA) ⟨Nat.zero_le _, rfl, (joinI_nil _).symm⟩ (fun q hJ H => ?_)
  obtain ⟨i, acc⟩ := q
  dsimp only at hJ H ⊢
  obtain ⟨j1, j2, j4⟩ := hJ
  by_cases h : i < rows.length
  · obtain ⟨y, hg⟩ : ∃ y, rows[i] = y := ⟨_, rfl⟩
    have hget : rows[i]? = some y := by rw [← hg]; exact List.getElem?_eq_getElem h
    have hyl := hrec y (hg ▸ List.getElem_mem h)
    have cr := fun h => Sp.lift (sread_s hT y (by omega)) (fun _ => rfl) (fun _ => rfl) h
    rw [List.drop_eq_getElem_cons h, hg, joinI_cons] at j4
    obtain ⟨x, e, hx⟩ : ∃ x e, readI y = (x, e) := ⟨_, _, rfl⟩
    rw [hx] at cr j4
    dsimp only at cr j4
    by_cases hc : e = 0
    · subst hc
      rw [if_neg (by simp)] at j4
      have H' := H (i + 1, acc ++ [x]) ⟨h, by simp [j2], j4⟩ (by dsimp only; omega)
      clear H hg j4 hx
      dsimp only at H'
      obtain ⟨d, o, n, a, m, ⟨cx, cy, cz⟩, w, k⟩ := x
      refine loopV ?_
      have hz : True := trivial
      have hy := yieldedV_eq
      have hL := @hget
      repeat' (first | (refine WPV.seqK ?_; intro N hN) | refine gA ?_ | (refine gR (M := noM) ?_; intro N hN ops hy) | (refine gD (M := noM) ?_; intro N hN; have hy := yieldedV_eq) | (refine WPV.condK ?_; intro A hA B hB) | (refine here ?_; refine sS ?_) | refine Both.mk ?_ ?_ | ((with_reducible refine CallO.gd 47 ?_); refine CallO.toB Tryd.call47 (cr _) ?_) | ((with_reducible refine CallP.gd 47 ?_); refine CallP.toB Tryd.call47 (cr _) ?_) | (refine hN _ ?_; try clear hN N; try clear hy ops) | (refine hA ?_; clear hA A hB B; try simp only [hz]) | (refine hB ?_; clear hA A hB B; try simp only [hz]) | (refine gG ?_ ?_ <;> (intro hz; have h := nm hz; try (exfalso; omega)) <;> (have hz := nz hz; try subst hz)) | (rw [if_pos (show _ ∧ _ from ⟨by omega, by omega⟩)]; refine sS ?_) | refine gT ?_ | (clear hN N))
      have hL := And.intro @its_ap (@its_on)
      all_goals (exact rndZ (Desc.re [some 2] rfl) (H'))
    · rw [if_pos hc] at j4
      rw [j4] at hQ
      clear H hg j4 hx
      obtain ⟨d, o, n, a, m, ⟨cx, cy, cz⟩, w, k⟩ := x
      refine loopV ?_
      have hz : True := trivial
      have hy := yieldedV_eq
      have hL := @hget
      repeat' (first | (refine WPV.seqK ?_; intro N hN) | refine gA ?_ | (refine gR (M := noM) ?_; intro N hN ops hy) | (refine gD (M := noM) ?_; intro N hN; have hy := yieldedV_eq) | (refine WPV.condK ?_; intro A hA B hB) | (refine here ?_; refine sS ?_) | refine Both.mk ?_ ?_ | ((with_reducible refine CallO.gd 47 ?_); refine CallO.toB Tryd.call47 (cr _) ?_) | ((with_reducible refine CallP.gd 47 ?_); refine CallP.toB Tryd.call47 (cr _) ?_) | (refine hN _ ?_; try clear hN N; try clear hy ops) | (refine hA ?_; clear hA A hB B; try simp only [hz]) | (refine hB ?_; clear hA A hB B; try simp only [hz]) | (refine gG ?_ ?_ <;> (intro hz; have h := nm hz; try (exfalso; omega)) <;> (have hz := nz hz; try subst hz)) | (rw [if_pos (show _ ∧ _ from ⟨by omega, by omega⟩)]; refine sS ?_) | refine gT ?_ | (clear hN N))
      (try unfold itsV at hQ)
      all_goals (first | exact retZ hQ Tryd.results15 (Desc.re [] rfl) | exact retZN hQ Tryd.results15 (Desc.re [] rfl))
  obtain rfl : i = rows.length := by omega
  rw [List.drop_length] at j4
  have e1 : readsI rows = (acc, 0) := by rw [j4]; simp [joinI, readsI]
  rw [e1] at hQ
  clear H j4 e1
  refine loopV ?_
  have hz : True := trivial
  have hy := yieldedV_eq
  have hL := True.intro
  repeat' (first | (refine WPV.seqK ?_; intro N hN) | refine gA ?_ | (refine gR (M := noM) ?_; intro N hN ops hy) | (refine gD (M := noM) ?_; intro N hN; have hy := yieldedV_eq) | (refine WPV.condK ?_; intro A hA B hB) | (refine here ?_; refine sS ?_) | refine Both.mk ?_ ?_ | (refine hN _ ?_; try clear hN N; try clear hy ops) | (refine hA ?_; clear hA A hB B; try simp only [hz]) | (refine hB ?_; clear hA A hB B; try simp only [hz]) | (refine gG ?_ ?_ <;> (intro hz; have h := nm hz; try (exfalso; omega)) <;> (have hz := nz hz; try subst hz)) | (rw [if_pos (show _ ∧ _ from ⟨by omega, by omega⟩)]; refine sS ?_) | refine gT ?_ | (clear hN N))
  (try unfold itsV at hQ)
  all_goals (first | exact retZ hQ Tryd.results15 (Desc.re [] rfl) | exact retZN hQ Tryd.results15 (Desc.re [] rfl))
end Go.Proofs.YtgfnpcmehnjopaaDoor
end
