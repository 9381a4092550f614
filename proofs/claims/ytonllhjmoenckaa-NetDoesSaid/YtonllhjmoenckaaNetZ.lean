/- Walks: NetDoes. -/
import Derived.Test.YtonllhjmoenckaaNetY
namespace Go.Proofs.Ytonllhjmoenckaa
open Go Go.RowKit
set_option linter.unusedVariables false
set_option linter.unusedSimpArgs false
variable {K : Nat → Obj → Prop}

def rOf (d : List Snt) : Rnt := ⟨nls d, d.map (·.sp)⟩
theorem rOf_len (d : List Snt) : (rOf d).L.length = d.length := nls_len d
theorem rOf_len2 (d : List Snt) : (rOf d).S.length = (rOf d).L.length := by simp [rOf, nls]
theorem rOf_L (d : List Snt) : (rOf d).L = nls d := rfl
theorem nls_getD (d : List Snt) (j : Nat) : (nls d).getD j ⟨0, []⟩ = (d.getD j ⟨0, [], false⟩).l := by
  rw [List.getD_eq_getElem?_getD, List.getD_eq_getElem?_getD, nls, List.getElem?_map]
  cases d[j]? <;> rfl
theorem sps_getD (d : List Snt) (j : Nat) : (d.map (·.sp)).getD j false = (d.getD j ⟨0, [], false⟩).sp := by
  rw [List.getD_eq_getElem?_getD, List.getD_eq_getElem?_getD, List.getElem?_map]
  cases d[j]? <;> rfl
theorem nput_r {d d' : List Snt} {x : Snt} {r : Bool} (h : nput d x = (r, d')) (hx : x.sp = false) (h64 : d.length ≤ 64) : rput (rOf d) x.l = (r, rOf d') := by
  unfold nput at h
  unfold rput
  rw [rOf_len]
  split at h
  · rename_i hc
    rw [if_pos (show x.l.to < 0 ∨ 3 < x.l.to ∨ 64 ≤ d.length from by simp only [Snt.l]; omega)]
    cases h; rfl
  · rename_i hc
    rw [if_neg (show ¬ (x.l.to < 0 ∨ 3 < x.l.to ∨ 64 ≤ d.length) from by simp only [Snt.l]; omega)]
    cases h
    simp [rOf, nls, hx]
theorem nat_r {d : List Snt} {i : Int} : (nat_ d i = none ↔ (i < 0 ∨ (rOf d).L.length = 0)) ∧ ∀ j, nat_ d i = some j → i.toNat % (rOf d).L.length = j := by
  rw [rOf_len]
  unfold nat_
  refine ⟨?_, fun j h => ?_⟩
  · split
    · rename_i h; exact ⟨fun _ => h, fun _ => rfl⟩
    · rename_i h; exact ⟨fun e => by simp at e, fun e => absurd e h⟩
  · split at h
    · simp at h
    · simpa using h
theorem ntake_r {d d' : List Snt} {i : Int} {x : Ltr × Bool} (h : ntake d i = (x, d')) : rtake (rOf d) i = (x, rOf d') := by
  unfold ntake at h
  unfold rtake
  cases hj : nat_ d i with
  | none =>
    rw [hj] at h
    rw [if_pos (nat_r.1.1 hj)]
    cases h; rfl
  | some j =>
    rw [hj] at h
    rw [if_neg (fun e => by rw [nat_r.1.2 e] at hj; cases hj), nat_r.2 j hj]
    cases h
    simp only [rOf, nls_getD]
    simp [nls, List.eraseIdx_eq_take_drop_succ, List.map_take, List.map_drop]
theorem ndouble_r {d d' : List Snt} {i : Int} {r : Bool} (h : ndouble d i = (r, d')) (h64 : d.length ≤ 64) : rdouble (rOf d) i = (r, rOf d') := by
  unfold ndouble at h
  unfold rdouble
  cases hj : nat_ d i with
  | none =>
    rw [hj] at h
    rw [if_pos (nat_r.1.1 hj)]
    cases h; rfl
  | some j =>
    rw [hj] at h
    rw [if_neg (fun e => by rw [nat_r.1.2 e] at hj; cases hj), nat_r.2 j hj]
    dsimp only at h
    rw [show (rOf d).L.getD j ⟨0, []⟩ = (d.getD j ⟨0, [], false⟩).l from nls_getD d j, show (rOf d).S.getD j false = (d.getD j ⟨0, [], false⟩).sp from sps_getD d j]
    generalize d.getD j ⟨0, [], false⟩ = x at h ⊢
    unfold nput at h
    unfold rput
    rw [rOf_len]
    split at h
    · rename_i hc
      rw [if_pos (show x.l.to < 0 ∨ 3 < x.l.to ∨ 64 ≤ d.length from by simp only [Snt.l]; omega)]
      cases h; rfl
    · rename_i hc
      rw [if_neg (show ¬ (x.l.to < 0 ∨ 3 < x.l.to ∨ 64 ≤ d.length) from by simp only [Snt.l]; omega)]
      cases h
      simp [rOf, nls]
theorem nturn_r {d d' : List Snt} {i a : Int} {m : UInt32} {r : Bool} (h : nturn d i a m = (r, d')) : rturn (rOf d) i a m = (r, rOf d') := by
  unfold nturn at h
  unfold rturn
  cases hj : nat_ d i with
  | none =>
    rw [hj] at h
    rw [if_pos (nat_r.1.1 hj)]
    cases h; rfl
  | some j =>
    rw [hj] at h
    rw [if_neg (fun e => by rw [nat_r.1.2 e] at hj; cases hj), nat_r.2 j hj]
    dsimp only at h
    rw [show (rOf d).L.getD j ⟨0, []⟩ = (d.getD j ⟨0, [], false⟩).l from nls_getD d j, show (rOf d).S.getD j false = (d.getD j ⟨0, [], false⟩).sp from sps_getD d j]
    generalize d.getD j ⟨0, [], false⟩ = x at h ⊢
    split at h
    · rename_i hc
      rw [if_pos hc]; cases h; rfl
    · rename_i hc
      rw [if_neg hc]; cases h
      have e1 : (d.map (·.sp)).set j (!decide (turnF a m x.b = x.b)) = (d.set j ⟨x.to, turnF a m x.b, !decide (turnF a m x.b = x.b)⟩).map (·.sp) := by rw [List.map_set]
      have e2 : (nls d).set j ⟨x.to, turnF a m x.b⟩ = nls (d.set j ⟨x.to, turnF a m x.b, !decide (turnF a m x.b = x.b)⟩) := by simp [nls, List.map_set, Snt.l]
      show (true, (⟨(nls d).set j ⟨x.to, turnF a m x.b⟩, (d.map (·.sp)).set j (!decide (turnF a m x.b = x.b))⟩ : Rnt)) = (true, ⟨_, _⟩)
      rw [e1, e2]
theorem rsend_e {r r' : Rnt} {a : Int} {b : List UInt8} {x : Bool} (h : rput r ⟨a, b⟩ = (x, r')) (hs : r.S.length = r.L.length) : Sp Try.prog K 20 [.ptr 0 0, .agg [.sc (.int .i64 a), .sl 1 (bs b)]] [r.ob] fun u hh => u = .sc (.bool x) ∧ hh = [r'.ob] := by
  have := rsend_s (K := K) r a b hs
  rwa [h] at this
theorem rtake_e {r r' : Rnt} {i : Int} {x : Ltr × Bool} (h : rtake r i = (x, r')) (hl : r.L.length ≤ 64) (hs : r.S.length = r.L.length) : Sp Try.prog K 22 [.ptr 0 0, .sc (.int .i64 i)] [r.ob] fun u hh => u = tkLV x ∧ hh = [r'.ob] := by
  have := rtake_s (K := K) r i hl hs
  rwa [h] at this
theorem rdouble_e {r r' : Rnt} {i : Int} {x : Bool} (h : rdouble r i = (x, r')) (hs : r.S.length = r.L.length) : Sp Try.prog K 26 [.ptr 0 0, .sc (.int .i64 i)] [r.ob] fun u hh => u = .sc (.bool x) ∧ hh = [r'.ob] := by
  have := rdouble_s (K := K) r i hs
  rwa [h] at this
theorem rturn_e {r r' : Rnt} {i a : Int} {m : UInt32} {x : Bool} (h : rturn r i a m = (x, r')) (hl : r.L.length ≤ 64) (hs : r.S.length = r.L.length) (hxb : ∀ x ∈ r.L, x.b.length ≤ 1000000000) (ha1 : -9223372036854775808 ≤ a) (ha2 : a ≤ 9223372036854775807) : Sp Try.prog K 28 [.ptr 0 0, .sc (.int .i64 i), .sc (.int .i64 a), .sc (.int .u32 (U m))] [r.ob] fun u hh => u = .sc (.bool x) ∧ hh = [r'.ob] := by
  have := rturn_s21 (K := K) r i a m hl hs hxb ha1 ha2
  rwa [h] at this
theorem rOf_bd {d : List Snt} (h : NOk d) : ∀ x ∈ (rOf d).L, x.b.length ≤ 1000000000 := fun x hx => by
  obtain ⟨s, hs, rfl⟩ := List.mem_map.1 hx
  exact h.bd s hs

set_option maxRecDepth 100000 in
set_option maxHeartbeats 4000000 in
theorem netdoes_s (l : List Nact) (hl : l.length ≤ 9223372036854775807) (hw : ∀ a ∈ l, a.wf) : Sp Try.prog K 3 [.sl 6 (nacts l)] [] fun u hh => u = .sc (.bool true) ∧ hh = [] := by
  by_cases hg : nlarge l = true
  · skip
    refine Sp.of_bodyD Try.func3 rfl ?_
    intro Q hQ
    simp only [List.replicate, List.length_cons, List.length_nil, Try.ntmps3, Nat.reduceAdd, Nat.reduceSub, List.cons_append, List.nil_append, go_sem]
    have h0 : True := trivial
    have hy := yieldedV_eq
    repeat' (first
        | (refine WPV.seqK ?_; intro N hN)
        | refine WPV.block ?_
        | refine WPV.scope ?_
        | refine WPV.skip ?_
        | refine WPV.label ?_
        | refine WPV.exit ?_
        | refine WPV.ret ?_
        | (refine WPV.regionG (M := noM) ?_; intro N hN ops hy; (try simp only [List.append] at hy ⊢); (try simp only [List.map_cons, List.map_nil] at hy))
        | (refine WPV.drawK (M := noM) (by kernel_rfl) (by kernel_rfl) ?_; intro N hN; have hy := yieldedV_eq)
        | (refine WPV.condK ?_; intro A hA B hB)
        | ((with_reducible first | refine opsV.here ?_ | refine guardO.here ?_ | refine resO.here ?_ | refine drawV.here ?_ | refine guardD.here ?_ | refine stepO.here ?_ | refine brO.here ?_ | refine condV.here ?_); simp (config := {contextual := true, maxSteps := 1000000}) only [hy, h0, go_sem, reduceCtorEq, Nat.reduceAdd, Nat.reduceSub, Nat.reduceMul, Nat.reduceLT, Nat.reduceLeDiff, Int.reduceLT, Int.reduceLE, Int.reduceEq, Int.reduceNe, Int.reduceAdd, Int.reduceSub, Int.reduceMul, Int.reduceToNat, Int.reduceNeg, Int.reducePow, Nat.reducePow, Nat.reduceEqDiff, Nat.reduceBEq, Int.reduceBEq, Int.reduceBNe, Int.reduceNegSucc, hg])
        | (refine And.intro (by kernel_rfl : okOrd _ _ = true) ?_)
        | refine Both.mk ?_ ?_
        | ((with_reducible refine CallO.gd 16 ?_); refine CallO.frA [] Try.call16 (awake21_s) ?_)
        | ((with_reducible refine CallO.gd 17 ?_); refine CallO.frA [] Try.call17 (nlarge_s l hl) ?_)
        | ((with_reducible refine CallO.gd 18 ?_); refine CallO.frA [] Try.call18 (nnew_s) ?_)
        | (first | refine hN _ ?_ | (clear hN N; refine hN _ ?_) | (iterate 2 clear hN N); refine hN _ ?_ | (iterate 3 clear hN N); refine hN _ ?_ | (iterate 4 clear hN N); refine hN _ ?_ | (iterate 5 clear hN N); refine hN _ ?_); try clear hN N; try clear hy ops
        | (refine hA ?_; clear hA A hB B; try simp only [h0])
        | (refine hB ?_; clear hA A hB B; try simp only [h0])
        | ((first | refine guardO.mk (fun h0 => ?_) (fun h0 => ?_) | refine guardD.mk (fun h0 => ?_) (fun h0 => ?_) | refine Br.mk (fun h0 => ?_) (fun h0 => ?_)) <;> (have h := h0; try simp only [decide_eq_true_eq, decide_eq_false_iff_not, Int.not_lt, Int.not_le, beq_iff_eq, beq_eq_false_iff_ne, bne_iff_ne, bne_eq_false_iff_eq, ne_eq, Bool.not_eq_true', Bool.not_eq_false', Decidable.not_not] at h) <;> (try (exfalso; omega)) <;> (try simp only [Bool.not_eq_true', Bool.not_eq_false', beq_true, beq_false] at h0))
        | ((first | rw [if_pos (show _ ∧ _ from ⟨by omega, by omega⟩)] | rw [if_pos (show _ ∧ _ from by simp only [List.length_append, List.length_cons, List.length_nil]; exact ⟨by omega, by omega⟩)]); simp (config := {contextual := true, maxSteps := 1000000}) only [hy, h0, go_sem, reduceCtorEq, Nat.reduceAdd, Nat.reduceSub, Nat.reduceMul, Nat.reduceLT, Nat.reduceLeDiff, Int.reduceLT, Int.reduceLE, Int.reduceEq, Int.reduceNe, Int.reduceAdd, Int.reduceSub, Int.reduceMul, Int.reduceToNat, Int.reduceNeg, Int.reducePow, Nat.reducePow, Nat.reduceEqDiff, Nat.reduceBEq, Int.reduceBEq, Int.reduceBNe, Int.reduceNegSucc, hg])
        | (simp only [thenV, blockV, if_true, if_false, Nat.reduceEqDiff, reduceCtorEq, imp_self]))
    all_goals (first | exact retA hQ Try.results3 (Desc.re [] rfl) | exact retN hQ Try.results3 (Desc.re [] rfl))
  have hg : nlarge l = false := by simpa using hg
  refine Sp.of_bodyD Try.func3 rfl ?_
  intro Q hQ
  simp only [List.replicate, List.length_cons, List.length_nil, Try.ntmps3, Nat.reduceAdd, Nat.reduceSub, List.cons_append, List.nil_append, go_sem]
  have h0 : True := trivial
  have hy := yieldedV_eq
  repeat' (first
      | (refine WPV.seqK ?_; intro N hN)
      | refine WPV.block ?_
      | refine WPV.scope ?_
      | refine WPV.skip ?_
      | refine WPV.label ?_
      | refine WPV.exit ?_
      | refine WPV.ret ?_
      | (refine WPV.regionG (M := noM) ?_; intro N hN ops hy; (try simp only [List.append] at hy ⊢); (try simp only [List.map_cons, List.map_nil] at hy))
      | (refine WPV.drawK (M := noM) (by kernel_rfl) (by kernel_rfl) ?_; intro N hN; have hy := yieldedV_eq)
      | (refine WPV.condK ?_; intro A hA B hB)
      | ((with_reducible first | refine opsV.here ?_ | refine guardO.here ?_ | refine resO.here ?_ | refine drawV.here ?_ | refine guardD.here ?_ | refine stepO.here ?_ | refine brO.here ?_ | refine condV.here ?_); simp (config := {contextual := true, maxSteps := 1000000}) only [hy, h0, go_sem, reduceCtorEq, Nat.reduceAdd, Nat.reduceSub, Nat.reduceMul, Nat.reduceLT, Nat.reduceLeDiff, Int.reduceLT, Int.reduceLE, Int.reduceEq, Int.reduceNe, Int.reduceAdd, Int.reduceSub, Int.reduceMul, Int.reduceToNat, Int.reduceNeg, Int.reducePow, Nat.reducePow, Nat.reduceEqDiff, Nat.reduceBEq, Int.reduceBEq, Int.reduceBNe, Int.reduceNegSucc, hg])
      | (refine And.intro (by kernel_rfl : okOrd _ _ = true) ?_)
      | refine Both.mk ?_ ?_
      | ((with_reducible refine CallO.gd 16 ?_); refine CallO.frA [] Try.call16 (awake21_s) ?_)
      | ((with_reducible refine CallO.gd 17 ?_); refine CallO.frA [] Try.call17 (nlarge_s l hl) ?_)
      | ((with_reducible refine CallO.gd 18 ?_); refine CallO.frA [] Try.call18 (nnew_s) ?_)
      | (first | refine hN _ ?_ | (clear hN N; refine hN _ ?_) | (iterate 2 clear hN N); refine hN _ ?_ | (iterate 3 clear hN N); refine hN _ ?_ | (iterate 4 clear hN N); refine hN _ ?_ | (iterate 5 clear hN N); refine hN _ ?_); try clear hN N; try clear hy ops
      | (refine hA ?_; clear hA A hB B; try simp only [h0])
      | (refine hB ?_; clear hA A hB B; try simp only [h0])
      | ((first | refine guardO.mk (fun h0 => ?_) (fun h0 => ?_) | refine guardD.mk (fun h0 => ?_) (fun h0 => ?_) | refine Br.mk (fun h0 => ?_) (fun h0 => ?_)) <;> (have h := h0; try simp only [decide_eq_true_eq, decide_eq_false_iff_not, Int.not_lt, Int.not_le, beq_iff_eq, beq_eq_false_iff_ne, bne_iff_ne, bne_eq_false_iff_eq, ne_eq, Bool.not_eq_true', Bool.not_eq_false', Decidable.not_not] at h) <;> (try (exfalso; omega)) <;> (try simp only [Bool.not_eq_true', Bool.not_eq_false', beq_true, beq_false] at h0))
      | ((first | rw [if_pos (show _ ∧ _ from ⟨by omega, by omega⟩)] | rw [if_pos (show _ ∧ _ from by simp only [List.length_append, List.length_cons, List.length_nil]; exact ⟨by omega, by omega⟩)]); simp (config := {contextual := true, maxSteps := 1000000}) only [hy, h0, go_sem, reduceCtorEq, Nat.reduceAdd, Nat.reduceSub, Nat.reduceMul, Nat.reduceLT, Nat.reduceLeDiff, Int.reduceLT, Int.reduceLE, Int.reduceEq, Int.reduceNe, Int.reduceAdd, Int.reduceSub, Int.reduceMul, Int.reduceToNat, Int.reduceNeg, Int.reducePow, Nat.reducePow, Nat.reduceEqDiff, Nat.reduceBEq, Int.reduceBEq, Int.reduceBNe, Int.reduceNegSucc, hg])
      | (simp only [thenV, blockV, if_true, if_false, Nat.reduceEqDiff, reduceCtorEq, imp_self]))
  refine WPV.desc (Desc.weakA (tm' := [.any, .any, .sc (.bool false), .ptr 0 0, .ptr 1 0, .any, .any, .any, .any, .any, .any, .any, .any, .any, .any, .any, .any, .any, .any, .any, .sl 6 (nacts l), .sc (.int .i64 (l.length : Int)), .sc (.int .i64 ((0 : Nat) : Int)), .any, .any, .any, .any, .any, .any, .any, .any, .any, .any, .any, .any, .any, .any, .any, .any, .any, .any, .any, .any, .any, .any, .any, .any, .any, .any, .any, .any, .any, .any, .any, .any, .any, .any, .any, .any, .any, .any, .any, .any, .any, .any, .any, .any, .any, .any, .any, .any, .any, .any, .any, .any, .any, .any, .any, .any, .any, .any, .any, .any, .any, .any, .any, .any, .any, .any, .any, .any, .any, .any, .any, .any, .any, .any, .any, .any, .any, .any, .any, .any, .any, .any, .any, .any, .any, .any, .any, .any, .any, .any, .any, .any, .any]) (h' := [.cells (nce []), .cells [.sl 2 [], .sl 1 []]])) ?_
  refine WPV.loopA (α := Nat × List Snt) (fun s => l.length - s.1) (fun s => ⟨[.any, .any, .sc (.bool false), .ptr 0 0, .ptr 1 0, .any, .any, .any, .any, .any, .any, .any, .any, .any, .any, .any, .any, .any, .any, .any, .sl 6 (nacts l), .sc (.int .i64 (l.length : Int)), .sc (.int .i64 ((s.1 : Nat) : Int)), .any, .any, .any, .any, .any, .any, .any, .any, .any, .any, .any, .any, .any, .any, .any, .any, .any, .any, .any, .any, .any, .any, .any, .any, .any, .any, .any, .any, .any, .any, .any, .any, .any, .any, .any, .any, .any, .any, .any, .any, .any, .any, .any, .any, .any, .any, .any, .any, .any, .any, .any, .any, .any, .any, .any, .any, .any, .any, .any, .any, .any, .any, .any, .any, .any, .any, .any, .any, .any, .any, .any, .any, .any, .any, .any, .any, .any, .any, .any, .any, .any, .any, .any, .any, .any, .any, .any, .any, .any, .any, .any, .any, .any], [.cells (nce s.2), (rOf s.2).ob]⟩) (fun s => s.1 ≤ l.length ∧ NOk s.2) (fun s hJ H => ?_) (0, []) ⟨Nat.zero_le _, .nil⟩
  obtain ⟨k, d⟩ := s
  obtain ⟨hk0, ok⟩ := hJ
  dsimp only at hk0 ok H ⊢
  by_cases h : k < l.length
  · have hlt : ((k : Int) < (l.length : Int)) = True := eq_true (by omega)
    have hget : l[k]? = some l[k] := List.getElem?_eq_getElem h
    have hwa := hw l[k] (List.getElem_mem h)
    generalize l[k] = a at hget hwa
    obtain ⟨w1, w2, w3⟩ := hwa
    obtain ⟨b1, b2⟩ := nact_bd hg hget
    have hwr : IntKind.i64.wrap ((k : Int) + 1) = ((k + 1 : Nat) : Int) := by rw [wr_i64 (by omega) (by omega)]; rfl
    have d64 := ok.len
    by_cases h0 : a.o = 0
    · skip
      have o0 : (a.o == 0) = true := by simpa using h0
      have o1 : (a.o == 1) = false := by simp; omega
      have o2 : (a.o == 2) = false := by simp; omega
      have o3 : (a.o == 3) = false := by simp; omega
      obtain ⟨r, d', hp⟩ : ∃ r d', nput d ⟨a.l.to, a.l.b, false⟩ = (r, d') := ⟨_, _, rfl⟩
      have ok' := ok.of_put hp (by dsimp only; omega)
      have hr := nput_r hp rfl ok.len
      have c1 := nlen_s (K := K) d' ok'.len
      have c2 := nall_s (K := K) d' ok'
      have c3 := own_s (K := K) (nls d') (by rw [nls_len]; have := ok'.len; omega) []
      have c4 := same21_s (K := K) (nls d') (rOf d').L (by rw [nls_len]; have := ok'.len; omega) (by rw [rOf_len]; have := ok'.len; omega) []
      have hdd : (nls d' = (rOf d').L) = True := eq_true rfl
      have hll : ((d'.length : Int) != ((rOf d').L.length : Int)) = false := by rw [rOf_len]; simp
      have H' := H (k + 1, d') ⟨by dsimp only; omega, ok'⟩ (by dsimp only; omega)
      clear H
      dsimp only at H'
      refine loopV ?_
      have h0 : True := trivial
      have hy := yieldedV_eq
      repeat' (first
          | (refine WPV.seqK ?_; intro N hN)
          | refine WPV.block ?_
          | refine WPV.scope ?_
          | refine WPV.skip ?_
          | refine WPV.label ?_
          | refine WPV.exit ?_
          | refine WPV.ret ?_
          | (refine WPV.regionG (M := noM) ?_; intro N hN ops hy; (try simp only [List.append] at hy ⊢); (try simp only [List.map_cons, List.map_nil] at hy))
          | (refine WPV.drawK (M := noM) (by kernel_rfl) (by kernel_rfl) ?_; intro N hN; have hy := yieldedV_eq)
          | (refine WPV.condK ?_; intro A hA B hB)
          | ((with_reducible first | refine opsV.here ?_ | refine guardO.here ?_ | refine resO.here ?_ | refine drawV.here ?_ | refine guardD.here ?_ | refine stepO.here ?_ | refine brO.here ?_ | refine condV.here ?_); simp (config := {contextual := true, maxSteps := 1000000}) only [hy, h0, go_sem, reduceCtorEq, Nat.reduceAdd, Nat.reduceSub, Nat.reduceMul, Nat.reduceLT, Nat.reduceLeDiff, Int.reduceLT, Int.reduceLE, Int.reduceEq, Int.reduceNe, Int.reduceAdd, Int.reduceSub, Int.reduceMul, Int.reduceToNat, Int.reduceNeg, Int.reducePow, Nat.reducePow, Nat.reduceEqDiff, Nat.reduceBEq, Int.reduceBEq, Int.reduceBNe, Int.reduceNegSucc, hlt, hget, hwr, o0, o1, o2, o3, hdd, hll])
          | (refine And.intro (by kernel_rfl : okOrd _ _ = true) ?_)
          | refine Both.mk ?_ ?_
          | ((with_reducible refine CallO.gd 24 ?_); refine CallO.toA Try.call24 (c3) ?_)
          | ((with_reducible refine CallO.gd 23 ?_); refine CallO.toA Try.call23 (c4) ?_)
          | ((with_reducible refine CallP.gd 19 ?_); refine CallP.frA [0] 0 Try.call19 (nsend_e hp (by omega) ok.len) ?_)
          | ((with_reducible refine CallP.gd 20 ?_); refine CallP.frA [1] 0 Try.call20 (rsend_e hr (rOf_len2 d)) ?_)
          | ((with_reducible refine CallP.gd 29 ?_); refine CallP.frA [0] 0 Try.call29 (c1) ?_)
          | ((with_reducible refine CallP.gd 30 ?_); refine CallP.frA [0] 0 Try.call30 (c2) ?_)
          | ((with_reducible refine CallP.gd 24 ?_); refine CallP.toA Try.call24 (c3) ?_)
          | ((with_reducible refine CallP.gd 23 ?_); refine CallP.toA Try.call23 (c4) ?_)
          | (first | refine hN _ ?_ | (clear hN N; refine hN _ ?_) | (iterate 2 clear hN N); refine hN _ ?_ | (iterate 3 clear hN N); refine hN _ ?_ | (iterate 4 clear hN N); refine hN _ ?_ | (iterate 5 clear hN N); refine hN _ ?_); try clear hN N; try clear hy ops
          | (refine hA ?_; clear hA A hB B; try simp only [h0])
          | (refine hB ?_; clear hA A hB B; try simp only [h0])
          | ((first | refine guardO.mk (fun h0 => ?_) (fun h0 => ?_) | refine guardD.mk (fun h0 => ?_) (fun h0 => ?_) | refine Br.mk (fun h0 => ?_) (fun h0 => ?_)) <;> (have h := h0; try simp only [decide_eq_true_eq, decide_eq_false_iff_not, Int.not_lt, Int.not_le, beq_iff_eq, beq_eq_false_iff_ne, bne_iff_ne, bne_eq_false_iff_eq, ne_eq, Bool.not_eq_true', Bool.not_eq_false', Decidable.not_not] at h) <;> (try (exfalso; omega)) <;> (try simp only [Bool.not_eq_true', Bool.not_eq_false', beq_true, beq_false] at h0))
          | ((first | rw [if_pos (show _ ∧ _ from ⟨by omega, by omega⟩)] | rw [if_pos (show _ ∧ _ from by simp only [List.length_append, List.length_cons, List.length_nil]; exact ⟨by omega, by omega⟩)]); simp (config := {contextual := true, maxSteps := 1000000}) only [hy, h0, go_sem, reduceCtorEq, Nat.reduceAdd, Nat.reduceSub, Nat.reduceMul, Nat.reduceLT, Nat.reduceLeDiff, Int.reduceLT, Int.reduceLE, Int.reduceEq, Int.reduceNe, Int.reduceAdd, Int.reduceSub, Int.reduceMul, Int.reduceToNat, Int.reduceNeg, Int.reducePow, Nat.reducePow, Nat.reduceEqDiff, Nat.reduceBEq, Int.reduceBEq, Int.reduceBNe, Int.reduceNegSucc, hlt, hget, hwr, o0, o1, o2, o3, hdd, hll])
          | (simp only [thenV, blockV, if_true, if_false, Nat.reduceEqDiff, reduceCtorEq, imp_self]))
      exact WPV.desc ((Desc.re [some 0, some 1] rfl).trans Desc.weakA) H'
    have o0 : (a.o == 0) = false := by simp; omega
    by_cases h1 : a.o = 1
    · skip
      have o1 : (a.o == 1) = true := by simpa using h1
      have o2 : (a.o == 2) = false := by simp; omega
      have o3 : (a.o == 3) = false := by simp; omega
      obtain ⟨⟨x, b⟩, d', hp⟩ : ∃ r d', ntake d a.i = (r, d') := ⟨_, _, rfl⟩
      have ok' := ok.of_tke hp
      have hr := ntake_r hp
      have lx : lts [x] = [[.sc (.int .i64 x.to), .sl 1 (bs x.b)]] := rfl
      have so := own_s (K := K) [x] (by simp) []
      have ss := same21_s (K := K) [x] [x] (by simp) (by simp) []
      rw [lx] at so ss
      have c1 := nlen_s (K := K) d' ok'.len
      have c2 := nall_s (K := K) d' ok'
      have c3 := own_s (K := K) (nls d') (by rw [nls_len]; have := ok'.len; omega) []
      have c4 := same21_s (K := K) (nls d') (rOf d').L (by rw [nls_len]; have := ok'.len; omega) (by rw [rOf_len]; have := ok'.len; omega) []
      have hdd : (nls d' = (rOf d').L) = True := eq_true rfl
      have hll : ((d'.length : Int) != ((rOf d').L.length : Int)) = false := by rw [rOf_len]; simp
      have H' := H (k + 1, d') ⟨by dsimp only; omega, ok'⟩ (by dsimp only; omega)
      clear H
      dsimp only at H'
      refine loopV ?_
      have h0 : True := trivial
      have hy := yieldedV_eq
      repeat' (first
          | (refine WPV.seqK ?_; intro N hN)
          | refine WPV.block ?_
          | refine WPV.scope ?_
          | refine WPV.skip ?_
          | refine WPV.label ?_
          | refine WPV.exit ?_
          | refine WPV.ret ?_
          | (refine WPV.regionG (M := noM) ?_; intro N hN ops hy; (try simp only [List.append] at hy ⊢); (try simp only [List.map_cons, List.map_nil] at hy))
          | (refine WPV.drawK (M := noM) (by kernel_rfl) (by kernel_rfl) ?_; intro N hN; have hy := yieldedV_eq)
          | (refine WPV.condK ?_; intro A hA B hB)
          | ((with_reducible first | refine opsV.here ?_ | refine guardO.here ?_ | refine resO.here ?_ | refine drawV.here ?_ | refine guardD.here ?_ | refine stepO.here ?_ | refine brO.here ?_ | refine condV.here ?_); simp (config := {contextual := true, maxSteps := 1000000}) only [hy, h0, go_sem, reduceCtorEq, Nat.reduceAdd, Nat.reduceSub, Nat.reduceMul, Nat.reduceLT, Nat.reduceLeDiff, Int.reduceLT, Int.reduceLE, Int.reduceEq, Int.reduceNe, Int.reduceAdd, Int.reduceSub, Int.reduceMul, Int.reduceToNat, Int.reduceNeg, Int.reducePow, Nat.reducePow, Nat.reduceEqDiff, Nat.reduceBEq, Int.reduceBEq, Int.reduceBNe, Int.reduceNegSucc, hlt, hget, hwr, o0, o1, o2, o3, hdd, hll])
          | (refine And.intro (by kernel_rfl : okOrd _ _ = true) ?_)
          | refine Both.mk ?_ ?_
          | ((with_reducible refine CallO.gd 21 ?_); refine CallO.frA [0] Try.call21 (ntake_e hp ok w1) ?_)
          | ((with_reducible refine CallO.gd 22 ?_); refine CallO.frA [1] Try.call22 (rtake_e hr (by rw [rOf_len]; omega) (rOf_len2 d)) ?_)
          | ((with_reducible refine CallO.gd 24 ?_); first
            | refine CallO.toA Try.call24 (c3) ?_
            | refine CallO.toA Try.call24 (so) ?_)
          | ((with_reducible refine CallO.gd 23 ?_); first
            | refine CallO.toA Try.call23 (c4) ?_
            | refine CallO.toA Try.call23 (ss) ?_)
          | ((with_reducible refine CallP.gd 29 ?_); refine CallP.frA [0] 0 Try.call29 (c1) ?_)
          | ((with_reducible refine CallP.gd 30 ?_); refine CallP.frA [0] 0 Try.call30 (c2) ?_)
          | ((with_reducible refine CallP.gd 24 ?_); first
            | refine CallP.toA Try.call24 (c3) ?_
            | refine CallP.toA Try.call24 (so) ?_)
          | ((with_reducible refine CallP.gd 23 ?_); first
            | refine CallP.toA Try.call23 (c4) ?_
            | refine CallP.toA Try.call23 (ss) ?_)
          | (first | refine hN _ ?_ | (clear hN N; refine hN _ ?_) | (iterate 2 clear hN N); refine hN _ ?_ | (iterate 3 clear hN N); refine hN _ ?_ | (iterate 4 clear hN N); refine hN _ ?_ | (iterate 5 clear hN N); refine hN _ ?_); try clear hN N; try clear hy ops
          | (refine hA ?_; clear hA A hB B; try simp only [h0])
          | (refine hB ?_; clear hA A hB B; try simp only [h0])
          | ((first | refine guardO.mk (fun h0 => ?_) (fun h0 => ?_) | refine guardD.mk (fun h0 => ?_) (fun h0 => ?_) | refine Br.mk (fun h0 => ?_) (fun h0 => ?_)) <;> (have h := h0; try simp only [decide_eq_true_eq, decide_eq_false_iff_not, Int.not_lt, Int.not_le, beq_iff_eq, beq_eq_false_iff_ne, bne_iff_ne, bne_eq_false_iff_eq, ne_eq, Bool.not_eq_true', Bool.not_eq_false', Decidable.not_not] at h) <;> (try (exfalso; omega)) <;> (try simp only [Bool.not_eq_true', Bool.not_eq_false', beq_true, beq_false] at h0))
          | ((first | rw [if_pos (show _ ∧ _ from ⟨by omega, by omega⟩)] | rw [if_pos (show _ ∧ _ from by simp only [List.length_append, List.length_cons, List.length_nil]; exact ⟨by omega, by omega⟩)]); simp (config := {contextual := true, maxSteps := 1000000}) only [hy, h0, go_sem, reduceCtorEq, Nat.reduceAdd, Nat.reduceSub, Nat.reduceMul, Nat.reduceLT, Nat.reduceLeDiff, Int.reduceLT, Int.reduceLE, Int.reduceEq, Int.reduceNe, Int.reduceAdd, Int.reduceSub, Int.reduceMul, Int.reduceToNat, Int.reduceNeg, Int.reducePow, Nat.reducePow, Nat.reduceEqDiff, Nat.reduceBEq, Int.reduceBEq, Int.reduceBNe, Int.reduceNegSucc, hlt, hget, hwr, o0, o1, o2, o3, hdd, hll])
          | (simp only [thenV, blockV, if_true, if_false, Nat.reduceEqDiff, reduceCtorEq, imp_self]))
      exact WPV.desc ((Desc.re [some 0, some 1] rfl).trans Desc.weakA) H'
    have o1 : (a.o == 1) = false := by simp; omega
    by_cases h2 : a.o = 2
    · skip
      have o2 : (a.o == 2) = true := by simpa using h2
      have o3 : (a.o == 3) = false := by simp; omega
      obtain ⟨r, d', hp⟩ : ∃ r d', ndouble d a.i = (r, d') := ⟨_, _, rfl⟩
      have ok' := ok.of_dbl hp
      have hr := ndouble_r hp ok.len
      have c1 := nlen_s (K := K) d' ok'.len
      have c2 := nall_s (K := K) d' ok'
      have c3 := own_s (K := K) (nls d') (by rw [nls_len]; have := ok'.len; omega) []
      have c4 := same21_s (K := K) (nls d') (rOf d').L (by rw [nls_len]; have := ok'.len; omega) (by rw [rOf_len]; have := ok'.len; omega) []
      have hdd : (nls d' = (rOf d').L) = True := eq_true rfl
      have hll : ((d'.length : Int) != ((rOf d').L.length : Int)) = false := by rw [rOf_len]; simp
      have H' := H (k + 1, d') ⟨by dsimp only; omega, ok'⟩ (by dsimp only; omega)
      clear H
      dsimp only at H'
      refine loopV ?_
      have h0 : True := trivial
      have hy := yieldedV_eq
      repeat' (first
          | (refine WPV.seqK ?_; intro N hN)
          | refine WPV.block ?_
          | refine WPV.scope ?_
          | refine WPV.skip ?_
          | refine WPV.label ?_
          | refine WPV.exit ?_
          | refine WPV.ret ?_
          | (refine WPV.regionG (M := noM) ?_; intro N hN ops hy; (try simp only [List.append] at hy ⊢); (try simp only [List.map_cons, List.map_nil] at hy))
          | (refine WPV.drawK (M := noM) (by kernel_rfl) (by kernel_rfl) ?_; intro N hN; have hy := yieldedV_eq)
          | (refine WPV.condK ?_; intro A hA B hB)
          | ((with_reducible first | refine opsV.here ?_ | refine guardO.here ?_ | refine resO.here ?_ | refine drawV.here ?_ | refine guardD.here ?_ | refine stepO.here ?_ | refine brO.here ?_ | refine condV.here ?_); simp (config := {contextual := true, maxSteps := 1000000}) only [hy, h0, go_sem, reduceCtorEq, Nat.reduceAdd, Nat.reduceSub, Nat.reduceMul, Nat.reduceLT, Nat.reduceLeDiff, Int.reduceLT, Int.reduceLE, Int.reduceEq, Int.reduceNe, Int.reduceAdd, Int.reduceSub, Int.reduceMul, Int.reduceToNat, Int.reduceNeg, Int.reducePow, Nat.reducePow, Nat.reduceEqDiff, Nat.reduceBEq, Int.reduceBEq, Int.reduceBNe, Int.reduceNegSucc, hlt, hget, hwr, o0, o1, o2, o3, hdd, hll])
          | (refine And.intro (by kernel_rfl : okOrd _ _ = true) ?_)
          | refine Both.mk ?_ ?_
          | ((with_reducible refine CallO.gd 24 ?_); refine CallO.toA Try.call24 (c3) ?_)
          | ((with_reducible refine CallO.gd 23 ?_); refine CallO.toA Try.call23 (c4) ?_)
          | ((with_reducible refine CallP.gd 25 ?_); refine CallP.frA [0] 0 Try.call25 (ndouble_e hp ok w1) ?_)
          | ((with_reducible refine CallP.gd 26 ?_); refine CallP.frA [1] 0 Try.call26 (rdouble_e hr (rOf_len2 d)) ?_)
          | ((with_reducible refine CallP.gd 29 ?_); refine CallP.frA [0] 0 Try.call29 (c1) ?_)
          | ((with_reducible refine CallP.gd 30 ?_); refine CallP.frA [0] 0 Try.call30 (c2) ?_)
          | ((with_reducible refine CallP.gd 24 ?_); refine CallP.toA Try.call24 (c3) ?_)
          | ((with_reducible refine CallP.gd 23 ?_); refine CallP.toA Try.call23 (c4) ?_)
          | (first | refine hN _ ?_ | (clear hN N; refine hN _ ?_) | (iterate 2 clear hN N); refine hN _ ?_ | (iterate 3 clear hN N); refine hN _ ?_ | (iterate 4 clear hN N); refine hN _ ?_ | (iterate 5 clear hN N); refine hN _ ?_); try clear hN N; try clear hy ops
          | (refine hA ?_; clear hA A hB B; try simp only [h0])
          | (refine hB ?_; clear hA A hB B; try simp only [h0])
          | ((first | refine guardO.mk (fun h0 => ?_) (fun h0 => ?_) | refine guardD.mk (fun h0 => ?_) (fun h0 => ?_) | refine Br.mk (fun h0 => ?_) (fun h0 => ?_)) <;> (have h := h0; try simp only [decide_eq_true_eq, decide_eq_false_iff_not, Int.not_lt, Int.not_le, beq_iff_eq, beq_eq_false_iff_ne, bne_iff_ne, bne_eq_false_iff_eq, ne_eq, Bool.not_eq_true', Bool.not_eq_false', Decidable.not_not] at h) <;> (try (exfalso; omega)) <;> (try simp only [Bool.not_eq_true', Bool.not_eq_false', beq_true, beq_false] at h0))
          | ((first | rw [if_pos (show _ ∧ _ from ⟨by omega, by omega⟩)] | rw [if_pos (show _ ∧ _ from by simp only [List.length_append, List.length_cons, List.length_nil]; exact ⟨by omega, by omega⟩)]); simp (config := {contextual := true, maxSteps := 1000000}) only [hy, h0, go_sem, reduceCtorEq, Nat.reduceAdd, Nat.reduceSub, Nat.reduceMul, Nat.reduceLT, Nat.reduceLeDiff, Int.reduceLT, Int.reduceLE, Int.reduceEq, Int.reduceNe, Int.reduceAdd, Int.reduceSub, Int.reduceMul, Int.reduceToNat, Int.reduceNeg, Int.reducePow, Nat.reducePow, Nat.reduceEqDiff, Nat.reduceBEq, Int.reduceBEq, Int.reduceBNe, Int.reduceNegSucc, hlt, hget, hwr, o0, o1, o2, o3, hdd, hll])
          | (simp only [thenV, blockV, if_true, if_false, Nat.reduceEqDiff, reduceCtorEq, imp_self]))
      exact WPV.desc ((Desc.re [some 0, some 1] rfl).trans Desc.weakA) H'
    have o2 : (a.o == 2) = false := by simp; omega
    by_cases h3 : a.o = 3
    · skip
      have o3 : (a.o == 3) = true := by simpa using h3
      obtain ⟨r, d', hp⟩ : ∃ r d', nturn d a.i a.a a.m = (r, d') := ⟨_, _, rfl⟩
      have ok' := ok.of_trn hp
      have hr := nturn_r hp
      have c1 := nlen_s (K := K) d' ok'.len
      have c2 := nall_s (K := K) d' ok'
      have c3 := own_s (K := K) (nls d') (by rw [nls_len]; have := ok'.len; omega) []
      have c4 := same21_s (K := K) (nls d') (rOf d').L (by rw [nls_len]; have := ok'.len; omega) (by rw [rOf_len]; have := ok'.len; omega) []
      have hdd : (nls d' = (rOf d').L) = True := eq_true rfl
      have hll : ((d'.length : Int) != ((rOf d').L.length : Int)) = false := by rw [rOf_len]; simp
      have H' := H (k + 1, d') ⟨by dsimp only; omega, ok'⟩ (by dsimp only; omega)
      clear H
      dsimp only at H'
      refine loopV ?_
      have h0 : True := trivial
      have hy := yieldedV_eq
      repeat' (first
          | (refine WPV.seqK ?_; intro N hN)
          | refine WPV.block ?_
          | refine WPV.scope ?_
          | refine WPV.skip ?_
          | refine WPV.label ?_
          | refine WPV.exit ?_
          | refine WPV.ret ?_
          | (refine WPV.regionG (M := noM) ?_; intro N hN ops hy; (try simp only [List.append] at hy ⊢); (try simp only [List.map_cons, List.map_nil] at hy))
          | (refine WPV.drawK (M := noM) (by kernel_rfl) (by kernel_rfl) ?_; intro N hN; have hy := yieldedV_eq)
          | (refine WPV.condK ?_; intro A hA B hB)
          | ((with_reducible first | refine opsV.here ?_ | refine guardO.here ?_ | refine resO.here ?_ | refine drawV.here ?_ | refine guardD.here ?_ | refine stepO.here ?_ | refine brO.here ?_ | refine condV.here ?_); simp (config := {contextual := true, maxSteps := 1000000}) only [hy, h0, go_sem, reduceCtorEq, Nat.reduceAdd, Nat.reduceSub, Nat.reduceMul, Nat.reduceLT, Nat.reduceLeDiff, Int.reduceLT, Int.reduceLE, Int.reduceEq, Int.reduceNe, Int.reduceAdd, Int.reduceSub, Int.reduceMul, Int.reduceToNat, Int.reduceNeg, Int.reducePow, Nat.reducePow, Nat.reduceEqDiff, Nat.reduceBEq, Int.reduceBEq, Int.reduceBNe, Int.reduceNegSucc, hlt, hget, hwr, o0, o1, o2, o3, hdd, hll])
          | (refine And.intro (by kernel_rfl : okOrd _ _ = true) ?_)
          | refine Both.mk ?_ ?_
          | ((with_reducible refine CallO.gd 24 ?_); refine CallO.toA Try.call24 (c3) ?_)
          | ((with_reducible refine CallO.gd 23 ?_); refine CallO.toA Try.call23 (c4) ?_)
          | ((with_reducible refine CallP.gd 27 ?_); refine CallP.frA [0] 0 Try.call27 (nturn_e hp ok w1 w2 w3) ?_)
          | ((with_reducible refine CallP.gd 28 ?_); refine CallP.frA [1] 0 Try.call28 (rturn_e hr (by rw [rOf_len]; omega) (rOf_len2 d) (rOf_bd ok) w2 w3) ?_)
          | ((with_reducible refine CallP.gd 29 ?_); refine CallP.frA [0] 0 Try.call29 (c1) ?_)
          | ((with_reducible refine CallP.gd 30 ?_); refine CallP.frA [0] 0 Try.call30 (c2) ?_)
          | ((with_reducible refine CallP.gd 24 ?_); refine CallP.toA Try.call24 (c3) ?_)
          | ((with_reducible refine CallP.gd 23 ?_); refine CallP.toA Try.call23 (c4) ?_)
          | (first | refine hN _ ?_ | (clear hN N; refine hN _ ?_) | (iterate 2 clear hN N); refine hN _ ?_ | (iterate 3 clear hN N); refine hN _ ?_ | (iterate 4 clear hN N); refine hN _ ?_ | (iterate 5 clear hN N); refine hN _ ?_); try clear hN N; try clear hy ops
          | (refine hA ?_; clear hA A hB B; try simp only [h0])
          | (refine hB ?_; clear hA A hB B; try simp only [h0])
          | ((first | refine guardO.mk (fun h0 => ?_) (fun h0 => ?_) | refine guardD.mk (fun h0 => ?_) (fun h0 => ?_) | refine Br.mk (fun h0 => ?_) (fun h0 => ?_)) <;> (have h := h0; try simp only [decide_eq_true_eq, decide_eq_false_iff_not, Int.not_lt, Int.not_le, beq_iff_eq, beq_eq_false_iff_ne, bne_iff_ne, bne_eq_false_iff_eq, ne_eq, Bool.not_eq_true', Bool.not_eq_false', Decidable.not_not] at h) <;> (try (exfalso; omega)) <;> (try simp only [Bool.not_eq_true', Bool.not_eq_false', beq_true, beq_false] at h0))
          | ((first | rw [if_pos (show _ ∧ _ from ⟨by omega, by omega⟩)] | rw [if_pos (show _ ∧ _ from by simp only [List.length_append, List.length_cons, List.length_nil]; exact ⟨by omega, by omega⟩)]); simp (config := {contextual := true, maxSteps := 1000000}) only [hy, h0, go_sem, reduceCtorEq, Nat.reduceAdd, Nat.reduceSub, Nat.reduceMul, Nat.reduceLT, Nat.reduceLeDiff, Int.reduceLT, Int.reduceLE, Int.reduceEq, Int.reduceNe, Int.reduceAdd, Int.reduceSub, Int.reduceMul, Int.reduceToNat, Int.reduceNeg, Int.reducePow, Nat.reducePow, Nat.reduceEqDiff, Nat.reduceBEq, Int.reduceBEq, Int.reduceBNe, Int.reduceNegSucc, hlt, hget, hwr, o0, o1, o2, o3, hdd, hll])
          | (simp only [thenV, blockV, if_true, if_false, Nat.reduceEqDiff, reduceCtorEq, imp_self]))
      exact WPV.desc ((Desc.re [some 0, some 1] rfl).trans Desc.weakA) H'
    have o3 : (a.o == 3) = false := by simp; omega
    obtain ⟨d', hd'⟩ : ∃ d', d' = d := ⟨_, rfl⟩
    rw [← hd'] at ok ⊢
    have ok' := ok
    have c1 := nlen_s (K := K) d' ok'.len
    have c2 := nall_s (K := K) d' ok'
    have c3 := own_s (K := K) (nls d') (by rw [nls_len]; have := ok'.len; omega) []
    have c4 := same21_s (K := K) (nls d') (rOf d').L (by rw [nls_len]; have := ok'.len; omega) (by rw [rOf_len]; have := ok'.len; omega) []
    have hdd : (nls d' = (rOf d').L) = True := eq_true rfl
    have hll : ((d'.length : Int) != ((rOf d').L.length : Int)) = false := by rw [rOf_len]; simp
    have H' := H (k + 1, d') ⟨by dsimp only; omega, ok'⟩ (by dsimp only; omega)
    clear H
    dsimp only at H'
    refine loopV ?_
    have h0 : True := trivial
    have hy := yieldedV_eq
    repeat' (first
        | (refine WPV.seqK ?_; intro N hN)
        | refine WPV.block ?_
        | refine WPV.scope ?_
        | refine WPV.skip ?_
        | refine WPV.label ?_
        | refine WPV.exit ?_
        | refine WPV.ret ?_
        | (refine WPV.regionG (M := noM) ?_; intro N hN ops hy; (try simp only [List.append] at hy ⊢); (try simp only [List.map_cons, List.map_nil] at hy))
        | (refine WPV.drawK (M := noM) (by kernel_rfl) (by kernel_rfl) ?_; intro N hN; have hy := yieldedV_eq)
        | (refine WPV.condK ?_; intro A hA B hB)
        | ((with_reducible first | refine opsV.here ?_ | refine guardO.here ?_ | refine resO.here ?_ | refine drawV.here ?_ | refine guardD.here ?_ | refine stepO.here ?_ | refine brO.here ?_ | refine condV.here ?_); simp (config := {contextual := true, maxSteps := 1000000}) only [hy, h0, go_sem, reduceCtorEq, Nat.reduceAdd, Nat.reduceSub, Nat.reduceMul, Nat.reduceLT, Nat.reduceLeDiff, Int.reduceLT, Int.reduceLE, Int.reduceEq, Int.reduceNe, Int.reduceAdd, Int.reduceSub, Int.reduceMul, Int.reduceToNat, Int.reduceNeg, Int.reducePow, Nat.reducePow, Nat.reduceEqDiff, Nat.reduceBEq, Int.reduceBEq, Int.reduceBNe, Int.reduceNegSucc, hlt, hget, hwr, o0, o1, o2, o3, hdd, hll])
        | (refine And.intro (by kernel_rfl : okOrd _ _ = true) ?_)
        | refine Both.mk ?_ ?_
        | ((with_reducible refine CallO.gd 24 ?_); refine CallO.toA Try.call24 (c3) ?_)
        | ((with_reducible refine CallO.gd 23 ?_); refine CallO.toA Try.call23 (c4) ?_)
        | ((with_reducible refine CallP.gd 29 ?_); refine CallP.frA [0] 0 Try.call29 (c1) ?_)
        | ((with_reducible refine CallP.gd 30 ?_); refine CallP.frA [0] 0 Try.call30 (c2) ?_)
        | ((with_reducible refine CallP.gd 24 ?_); refine CallP.toA Try.call24 (c3) ?_)
        | ((with_reducible refine CallP.gd 23 ?_); refine CallP.toA Try.call23 (c4) ?_)
        | (first | refine hN _ ?_ | (clear hN N; refine hN _ ?_) | (iterate 2 clear hN N); refine hN _ ?_ | (iterate 3 clear hN N); refine hN _ ?_ | (iterate 4 clear hN N); refine hN _ ?_ | (iterate 5 clear hN N); refine hN _ ?_); try clear hN N; try clear hy ops
        | (refine hA ?_; clear hA A hB B; try simp only [h0])
        | (refine hB ?_; clear hA A hB B; try simp only [h0])
        | ((first | refine guardO.mk (fun h0 => ?_) (fun h0 => ?_) | refine guardD.mk (fun h0 => ?_) (fun h0 => ?_) | refine Br.mk (fun h0 => ?_) (fun h0 => ?_)) <;> (have h := h0; try simp only [decide_eq_true_eq, decide_eq_false_iff_not, Int.not_lt, Int.not_le, beq_iff_eq, beq_eq_false_iff_ne, bne_iff_ne, bne_eq_false_iff_eq, ne_eq, Bool.not_eq_true', Bool.not_eq_false', Decidable.not_not] at h) <;> (try (exfalso; omega)) <;> (try simp only [Bool.not_eq_true', Bool.not_eq_false', beq_true, beq_false] at h0))
        | ((first | rw [if_pos (show _ ∧ _ from ⟨by omega, by omega⟩)] | rw [if_pos (show _ ∧ _ from by simp only [List.length_append, List.length_cons, List.length_nil]; exact ⟨by omega, by omega⟩)]); simp (config := {contextual := true, maxSteps := 1000000}) only [hy, h0, go_sem, reduceCtorEq, Nat.reduceAdd, Nat.reduceSub, Nat.reduceMul, Nat.reduceLT, Nat.reduceLeDiff, Int.reduceLT, Int.reduceLE, Int.reduceEq, Int.reduceNe, Int.reduceAdd, Int.reduceSub, Int.reduceMul, Int.reduceToNat, Int.reduceNeg, Int.reducePow, Nat.reducePow, Nat.reduceEqDiff, Nat.reduceBEq, Int.reduceBEq, Int.reduceBNe, Int.reduceNegSucc, hlt, hget, hwr, o0, o1, o2, o3, hdd, hll])
        | (simp only [thenV, blockV, if_true, if_false, Nat.reduceEqDiff, reduceCtorEq, imp_self]))
    exact WPV.desc ((Desc.re [some 0, some 1] rfl).trans Desc.weakA) H'
  obtain rfl : k = l.length := by omega
  clear H
  have hlt : ((l.length : Int) < (l.length : Int)) = False := by simp
  refine loopV ?_
  have h0 : True := trivial
  have hy := yieldedV_eq
  repeat' (first
      | (refine WPV.seqK ?_; intro N hN)
      | refine WPV.block ?_
      | refine WPV.scope ?_
      | refine WPV.skip ?_
      | refine WPV.label ?_
      | refine WPV.exit ?_
      | refine WPV.ret ?_
      | (refine WPV.regionG (M := noM) ?_; intro N hN ops hy; (try simp only [List.append] at hy ⊢); (try simp only [List.map_cons, List.map_nil] at hy))
      | (refine WPV.drawK (M := noM) (by kernel_rfl) (by kernel_rfl) ?_; intro N hN; have hy := yieldedV_eq)
      | (refine WPV.condK ?_; intro A hA B hB)
      | ((with_reducible first | refine opsV.here ?_ | refine guardO.here ?_ | refine resO.here ?_ | refine drawV.here ?_ | refine guardD.here ?_ | refine stepO.here ?_ | refine brO.here ?_ | refine condV.here ?_); simp (config := {contextual := true, maxSteps := 1000000}) only [hy, h0, go_sem, reduceCtorEq, Nat.reduceAdd, Nat.reduceSub, Nat.reduceMul, Nat.reduceLT, Nat.reduceLeDiff, Int.reduceLT, Int.reduceLE, Int.reduceEq, Int.reduceNe, Int.reduceAdd, Int.reduceSub, Int.reduceMul, Int.reduceToNat, Int.reduceNeg, Int.reducePow, Nat.reducePow, Nat.reduceEqDiff, Nat.reduceBEq, Int.reduceBEq, Int.reduceBNe, Int.reduceNegSucc, hlt])
      | (refine And.intro (by kernel_rfl : okOrd _ _ = true) ?_)
      | refine Both.mk ?_ ?_
      | (first | refine hN _ ?_ | (clear hN N; refine hN _ ?_) | (iterate 2 clear hN N); refine hN _ ?_ | (iterate 3 clear hN N); refine hN _ ?_ | (iterate 4 clear hN N); refine hN _ ?_ | (iterate 5 clear hN N); refine hN _ ?_); try clear hN N; try clear hy ops
      | (refine hA ?_; clear hA A hB B; try simp only [h0])
      | (refine hB ?_; clear hA A hB B; try simp only [h0])
      | ((first | refine guardO.mk (fun h0 => ?_) (fun h0 => ?_) | refine guardD.mk (fun h0 => ?_) (fun h0 => ?_) | refine Br.mk (fun h0 => ?_) (fun h0 => ?_)) <;> (have h := h0; try simp only [decide_eq_true_eq, decide_eq_false_iff_not, Int.not_lt, Int.not_le, beq_iff_eq, beq_eq_false_iff_ne, bne_iff_ne, bne_eq_false_iff_eq, ne_eq, Bool.not_eq_true', Bool.not_eq_false', Decidable.not_not] at h) <;> (try (exfalso; omega)) <;> (try simp only [Bool.not_eq_true', Bool.not_eq_false', beq_true, beq_false] at h0))
      | ((first | rw [if_pos (show _ ∧ _ from ⟨by omega, by omega⟩)] | rw [if_pos (show _ ∧ _ from by simp only [List.length_append, List.length_cons, List.length_nil]; exact ⟨by omega, by omega⟩)]); simp (config := {contextual := true, maxSteps := 1000000}) only [hy, h0, go_sem, reduceCtorEq, Nat.reduceAdd, Nat.reduceSub, Nat.reduceMul, Nat.reduceLT, Nat.reduceLeDiff, Int.reduceLT, Int.reduceLE, Int.reduceEq, Int.reduceNe, Int.reduceAdd, Int.reduceSub, Int.reduceMul, Int.reduceToNat, Int.reduceNeg, Int.reducePow, Nat.reducePow, Nat.reduceEqDiff, Nat.reduceBEq, Int.reduceBEq, Int.reduceBNe, Int.reduceNegSucc, hlt])
      | (simp only [thenV, blockV, if_true, if_false, Nat.reduceEqDiff, reduceCtorEq, imp_self]))
  all_goals (first | exact retA hQ Try.results3 (Desc.re [] rfl) | exact retN hQ Try.results3 (Desc.re [] rfl))
end Go.Proofs.Ytonllhjmoenckaa
