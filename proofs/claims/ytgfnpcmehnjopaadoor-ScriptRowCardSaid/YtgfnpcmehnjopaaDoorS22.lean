/- Parts of the proofs, joined: ScrRe, ScrR, FrmR, ScrY, ScrH, ScrB. -/
import Derived.Test.YtgfnpcmehnjopaaDoorS9
import Derived.Test.YtgfnpcmehnjopaaDoorS11
import Derived.Test.YtgfnpcmehnjopaaDoorS13
import Derived.Test.YtgfnpcmehnjopaaDoorS15
import Derived.Test.YtgfnpcmehnjopaaDoorS19
import Derived.Test.YtgfnpcmehnjopaaDoorS20
import Derived.Test.YtgfnpcmehnjopaaDoorS21
section
namespace Go.Proofs.YtgfnpcmehnjopaaDoor
open Go Go.RowKit
set_option linter.unusedVariables false
set_option linter.unusedSimpArgs false
variable {K : Nat → Obj → Prop}
set_option maxRecDepth 100000 in
set_option maxHeartbeats 4000000 in
theorem dread_7 (b : List UInt8) (hl : b.length ≤ 1000000) {s0 : Rst} (h0 : numR (b, 0) 8 3 = (7, s0)) (he : s0.2 = 0) : dreadP K b := by
  unfold dreadP
  obtain ⟨u0, D0, c0⟩ := dnum_s (K := K) (DR0 b) h0 hl (by omega) (by decide)
  obtain ⟨o, s1, h1⟩ : ∃ o s, numR s0 4611686018427387903 1 = (o, s) := ⟨_, _, rfl⟩
  obtain ⟨q, s6, h6⟩ : ∃ o s, numR s1 4 1 = (o, s) := ⟨_, _, rfl⟩
  obtain ⟨w, s7, h7⟩ : ∃ w s, keptR q s6 = (w, s) := ⟨_, _, rfl⟩
  rw [readI_of (o := o) (s1 := s1) (n := 0) (s2 := s1) (a := 0) (s3 := s1) (m := 0) (s4 := s1) (c := ⟨0, 0, 0⟩) (s5 := s1) (q := 0) (s6 := s1) (w := []) (s7 := s1) (j := q) (s8 := s6) (k := w) (s9 := s7) h0 he (by rw [numIf_t (by omega)]; exact h1) (numIf_f (by omega) _ _) (numIf_f (by omega) _ _) (numIf_f (by omega) _ _) (clockIf_f (by omega) _) (numIf_f (by omega) _ _) rfl (by rw [numIf_t rfl]; exact h6) h7]
  obtain ⟨u1, D1, c1⟩ := dnum_s (K := K) D0 h1 hl (by omega) (by decide)
  obtain ⟨u6, D6, c6⟩ := dnum_s (K := K) D1 h6 hl (by omega) (by decide)
  have q16 := (numR_ok h6).1
  have cw := fun h => whoN (K := K) ⟨(7 : Nat), 0, 0, 0, 0, ⟨0, 0, 0⟩, [], []⟩ (by dsimp only; omega) h
  have cn := fun h => numberN (K := K) ⟨(7 : Nat), o, 0, 0, 0, ⟨0, 0, 0⟩, [], []⟩ (by dsimp only; omega) h
  clear h0 h1 h6 D0 D1
  obtain ⟨b0, e0⟩ := s0
  obtain ⟨b1, e1⟩ := s1
  obtain ⟨b6, e6⟩ := s6
  dsimp only at *
  simp only [Int.cast_ofNat_Int] at *
  subst he
  refine Sp.of_bodyE Tryd.func49 rfl ?_
  intro Q hQ
  simp only [List.replicate, List.length_cons, List.length_nil, Tryd.ntmps49, Nat.reduceAdd, Nat.reduceSub, List.cons_append, List.nil_append, go_sem]
  have hz : True := trivial
  have hy := yieldedV_eq
  have hL := True.intro
  repeat' (first | (refine WPV.seqK ?_; intro N hN) | refine gA ?_ | (refine gR (M := noM) ?_; intro N hN ops hy) | (refine gD (M := noM) ?_; intro N hN; have hy := yieldedV_eq) | (refine WPV.condK ?_; intro A hA B hB) | (refine here ?_; refine sS ?_) | refine Both.mk ?_ ?_ | ((with_reducible refine CallO.gd 91 ?_); first | refine CallO.frB [1] Tryd.call91 (c0) ?_ | refine CallO.frB [1] Tryd.call91 (c1) ?_ | refine CallO.frB [1] Tryd.call91 (c6) ?_) | ((with_reducible refine CallO.gd 57 ?_); refine CallO.toB Tryd.call57 (cw _) ?_) | ((with_reducible refine CallO.gd 58 ?_); refine CallO.toB Tryd.call58 (cn _) ?_) | ((with_reducible refine CallP.gd 57 ?_); refine CallP.toB Tryd.call57 (cw _) ?_) | ((with_reducible refine CallP.gd 58 ?_); refine CallP.toB Tryd.call58 (cn _) ?_) | (refine hN _ ?_; try clear hN N; try clear hy ops) | (refine hA ?_; clear hA A hB B; try simp only [hz]) | (refine hB ?_; clear hA A hB B; try simp only [hz]) | (refine gG ?_ ?_ <;> (intro hz; have h := nm hz; try (exfalso; omega)) <;> (have hz := nz hz; try subst hz)) | (rw [if_pos (show _ ∧ _ from ⟨by omega, by omega⟩)]; refine sS ?_) | refine gT ?_ | (clear hN N))
  clear c0 c1 c6 cw cn
  refine WPV.loopW (α := Nat × List Int × Rst × Nat) (fun y => q - y.1) (fun y => ⟨[.sl 1 (bs b), .any, .ptr 0 0, .sc (.int .i64 0), .ptr 1 0, .ptr 2 0, .any, .any, .any, .any, .any, .any, .any, .sc (.int .i64 (q : Int)), .sc (.int .i64 ((y.1 : Nat) : Int)), .any, .any, .any, .any, .any, .any, .any, .any, .any, .any, .any, .any, .any, .any, .any, .any, .any, .any, .any, .any, .any, .any, .any, .any, .any, .any, .any, .any, .any, .any, .any, .any, .any, .any, .any, .any, .any, .any, .any, .any, .any, .any, .any, .any, .any, .any, .any, .any, .any, .any, .any, .any, .any, .any, .any, .any, .any, .any, .any, .any, .any, .any, .any, .any, .any, .any, .any, .any, .any, .any, .any, .any, .any, .any, .any, .any, .any, .any, .any, .any, .any, .any, .any, .any, .any, .any, .any, .any, .any, .any, .any, .any, .any, .any, .any, .any, .any, .any, .any, .any, .any, .any, .any, .any, .any, .any, .any, .any, .any, .any, .any, .any, .any, .any, .any, .any, .any, .any, .any, .any, .any, .any, .any, .any, .any, .any, .any, .any, .any, .any, .any, .any, .any, .any, .any, .any, .any, .any, .any, .any, .any, .any, .any], [.cells (itD It.zero nilD nilD), rdD b y.2.2.2 y.2.2.1.2, .cells (itD ⟨7, o, 0, 0, 0, ⟨0, 0, 0⟩, [], []⟩ nilD (.own 1 (il y.2.1) 3)), .tail]⟩) (fun y => KJ q (b6, e6) y.1 y.2.1 y.2.2.1 ∧ DR b y.2.2.2 y.2.2.1) (0, [], (b6, e6), u6) ((Desc.own0H 2 9 1 rfl rfl).trans Desc.weakA) ⟨⟨Nat.zero_le _, rfl, by rw [D6.1, List.length_drop]; omega, by simp⟩, D6⟩ (fun y hJ H => ?_)
  obtain ⟨i, ws, ⟨br, er2⟩, ur⟩ := y
  obtain ⟨hJ, DJ⟩ := hJ
  dsimp only at hJ DJ H ⊢
  by_cases h : i < q
  · obtain ⟨k, s2, g1⟩ : ∃ k s1, numR (br, er2) 4611686018427387903 1 = (k, s1) := ⟨_, _, rfl⟩
    obtain ⟨v2, D2, c2⟩ := dnum_s (K := K) DJ g1 hl (by omega) (by decide)
    have hlen := hJ.len
    have H' := H (i + 1, ws ++ [(k : Int)], s2, v2) ⟨hJ.nxt h g1, D2⟩ (by dsimp only; omega)
    clear H hJ DJ g1 D2
    obtain ⟨b2, e2⟩ := s2
    dsimp only at H' c2
    simp only [Int.cast_ofNat_Int] at c2
    refine loopV ?_
    have hz : True := trivial
    have hy := yieldedV_eq
    have hL := True.intro
    repeat' (first | (refine WPV.seqK ?_; intro N hN) | refine gA ?_ | (refine gR (M := noM) ?_; intro N hN ops hy) | (refine gD (M := noM) ?_; intro N hN; have hy := yieldedV_eq) | (refine WPV.condK ?_; intro A hA B hB) | (refine here ?_; refine sS ?_) | refine Both.mk ?_ ?_ | ((with_reducible refine CallO.gd 91 ?_); refine CallO.frB [1] Tryd.call91 (c2) ?_) | ((with_reducible refine CallP.gd 91 ?_); refine CallP.frB [1] 0 Tryd.call91 (c2) ?_) | (refine hN _ ?_; try clear hN N; try clear hy ops) | (refine hA ?_; clear hA A hB B; try simp only [hz]) | (refine hB ?_; clear hA A hB B; try simp only [hz]) | (refine gG ?_ ?_ <;> (intro hz; have h := nm hz; try (exfalso; omega)) <;> (have hz := nz hz; try subst hz)) | (rw [if_pos (show _ ∧ _ from ⟨by omega, by omega⟩)]; refine sS ?_) | refine gT ?_ | (clear hN N))
    all_goals (exact rndZ (Desc.re [some 0, some 1, some 2, some 4] rfl) (H'))
  have hw := hJ.fin h
  rw [h7] at hw
  simp only [Prod.mk.injEq] at hw
  obtain ⟨rfl, rfl⟩ := hw
  have hwlen := hJ.len
  have hwle := hJ.le
  clear H hJ h7 D6
  obtain ⟨EJ, UJ⟩ := DJ
  dsimp only at EJ
  subst EJ
  have csc := rscheck_s (K := K) ⟨(7 : Nat), o, (0 : Nat), (0 : Nat), (0 : Nat), ⟨0, 0, 0⟩, [], w⟩ (by dsimp only; omega) (by simp) (by dsimp only; omega)
  have csc := fun h => Sp.wk (Sp.lift csc (fun _ => rfl) (fun _ => rfl) h) (Wk.agg (.same (.same (.same (.same (.same (.same (.same (.same (.null (k := 3) (.same .nil)))))))))) Wk.refl)
  unfold endI at hQ
  generalize checkI ⟨(7 : Nat), o, (0 : Nat), (0 : Nat), (0 : Nat), ⟨0, 0, 0⟩, [], w⟩ = ck at *
  dsimp only at csc hQ
  rw [List.length_drop] at hQ
  refine WPV.desc ((Desc.weakA (tm' := [.sl 1 (bs b), .any, .ptr 0 0, .sc (.int .i64 0), .ptr 1 0, .ptr 2 0, .any, .any, .any, .any, .any, .any, .any, .sc (.int .i64 (q : Int)), .sc (.int .i64 (i : Int)), .any, .any, .any, .any, .any, .any, .any, .any, .any, .any, .any, .any, .any, .any, .any, .any, .any, .any, .any, .any, .any, .any, .any, .any, .any, .any, .any, .any, .any, .any, .any, .any, .any, .any, .any, .any, .any, .any, .any, .any, .any, .any, .any, .any, .any, .any, .any, .any, .any, .any, .any, .any, .any, .any, .any, .any, .any, .any, .any, .any, .any, .any, .any, .any, .any, .any, .any, .any, .any, .any, .any, .any, .any, .any, .any, .any, .any, .any, .any, .any, .any, .any, .any, .any, .any, .any, .any, .any, .any, .any, .any, .any, .any, .any, .any, .any, .any, .any, .any, .any, .any, .any, .any, .any, .any, .any, .any, .any, .any, .any, .any, .any, .any, .any, .any, .any, .any, .any, .any, .any, .any, .any, .any, .any, .any, .any, .any, .any, .any, .any, .any, .any, .any, .any, .any, .any, .any, .any, .any, .any, .any, .any, .any]) (h' := [.cells (itD It.zero nilD nilD), rdD b ur er2, .cells (itD ⟨7, o, 0, 0, 0, ⟨0, 0, 0⟩, [], []⟩ nilD (.sl 1 (il w))), .tail])).trans (Desc.re [some 0, some 1, some 2] rfl)) ?_
  refine loopV ?_
  have hz : True := trivial
  have hy := yieldedV_eq
  have hL := True.intro
  repeat' (first | (refine WPV.seqK ?_; intro N hN) | refine gA ?_ | (refine gR (M := noM) ?_; intro N hN ops hy) | (refine gD (M := noM) ?_; intro N hN; have hy := yieldedV_eq) | (refine WPV.condK ?_; intro A hA B hB) | (refine here ?_; refine sS ?_) | refine Both.mk ?_ ?_ | ((with_reducible refine CallO.gd 18 ?_); refine CallO.toB Tryd.call18 (csc _) ?_) | ((with_reducible refine CallP.gd 18 ?_); refine CallP.toB Tryd.call18 (csc _) ?_) | (refine hN _ ?_; try clear hN N; try clear hy ops) | (refine hA ?_; clear hA A hB B; try simp only [hz]) | (refine hB ?_; clear hA A hB B; try simp only [hz]) | (refine gG ?_ ?_ <;> (intro hz; have h := nm hz; try (exfalso; omega)) <;> (have hz := nz hz; try subst hz)) | (rw [if_pos (show _ ∧ _ from ⟨by omega, by omega⟩)]; refine sS ?_) | refine gT ?_ | (clear hN N))
  all_goals (first | exact retZ hQ Tryd.results49 (Desc.re [] rfl) | exact retZN hQ Tryd.results49 (Desc.re [] rfl))
end Go.Proofs.YtgfnpcmehnjopaaDoor
end
section
namespace Go.Proofs.YtgfnpcmehnjopaaDoor
open Go Go.RowKit
set_option linter.unusedVariables false
set_option linter.unusedSimpArgs false
variable {K : Nat → Obj → Prop}
theorem dread_s (b : List UInt8) (hl : b.length ≤ 1000000) : Sp Tryd.prog K 49 [.sl 1 (bs b)] [] fun u hh => u = .tup [itV (readI b).1, .sc (.int .i64 (readI b).2)] ∧ hh = [] := by
  obtain ⟨d, s0, h0⟩ : ∃ d s, numR (b, 0) 8 3 = (d, s) := ⟨_, _, rfl⟩
  by_cases he : s0.2 = 0
  · by_cases h : d = 0
    · subst h; exact dread_0 b hl h0 he
    by_cases h7 : d = 7
    · subst h7; exact dread_7 b hl h0 he
    by_cases h6 : d = 6
    · exact dread_6 b hl h0 he h6
    exact dread_o b hl h0 he h h7 h6
  · exact dread_e b hl h0 he
end Go.Proofs.YtgfnpcmehnjopaaDoor
end
section
namespace Go.Proofs.YtgfnpcmehnjopaaDoor
open Go Go.RowKit
set_option linter.unusedVariables false
set_option linter.unusedSimpArgs false
variable {K : Nat → Obj → Prop}
set_option maxRecDepth 100000 in
theorem rwrap_s (p : List UInt8) (hl : p.length ≤ 100000000) (h : List Ho) : Sp Tryd.prog K 85 [.sl 1 (bs p)] h fun u hh => u = byV (wrapF p) ∧ hh = h := by
  refine Sp.pure_ (R := fun u hh => Wk [u] [byV (wrapF p)]) ?_ (fun _ => rfl) (fun _ => rfl) (fun v h e => e) h
  have z0 : (0 : Int) ≤ (p.length : Int) := by omega
  have z1 : (p.length : Int) < 18446744073709551616 := by omega
  have hv := vput_len (n := p.length) (by omega)
  have q0 : IntKind.u64.wrap (p.length : Int) = (p.length : Int) := wr_u64 (by omega) (by omega)
  have hs : (vput p.length ++ p).length ≤ 1000000000 := by simp; omega
  unfold wrapF
  by_cases h8 : 8192 < p.length
  · have q1 : ((8192 : Int) < (p.length : Int)) = True := eq_true (by omega)
    rw [if_pos h8]
    refine Sp.of_bodyD Tryd.func85 rfl ?_
    intro Q hQ
    simp only [List.replicate, List.length_cons, List.length_nil, Tryd.ntmps85, Nat.reduceAdd, Nat.reduceSub, List.cons_append, List.nil_append, go_sem]
    have hz : True := trivial
    have hy := yieldedV_eq
    have hL := And.intro @q0 (And.intro @q1 (@bs_nil))
    repeat' (first | (refine WPV.seqK ?_; intro N hN) | refine gA ?_ | (refine gR (M := noM) ?_; intro N hN ops hy) | (refine gD (M := noM) ?_; intro N hN; have hy := yieldedV_eq) | (refine WPV.condK ?_; intro A hA B hB) | (refine here ?_; refine sM ?_) | refine Both.mk ?_ ?_ | ((with_reducible refine CallO.gd 126 ?_); refine CallO.frA [] Tryd.call126 (vrputO_s z0 z1) ?_) | ((with_reducible refine CallO.gd 128 ?_); refine CallO.toA Tryd.call128 (rseal_s (vput p.length ++ p) hs _) ?_) | ((with_reducible refine CallP.gd 128 ?_); refine CallP.toA Tryd.call128 (rseal_s (vput p.length ++ p) hs _) ?_) | (refine hN _ ?_; try clear hN N; try clear hy ops) | (refine hA ?_; clear hA A hB B; try simp only [hz]) | (refine hB ?_; clear hA A hB B; try simp only [hz]) | (refine gG ?_ ?_ <;> (intro hz; have h := nm hz; try (exfalso; omega)) <;> (have hz := nz hz)) | ((first | rw [if_pos (show _ ∧ _ from ⟨by omega, by omega⟩)] | rw [if_pos (show _ ∧ _ from by simp only [List.length_append, List.length_cons, List.length_nil]; exact ⟨by omega, by omega⟩)]); refine sM ?_) | refine gT ?_ | (clear hN N))
    all_goals (apply And.right; refine hQ _ _ _ Desc.refl ?_ (Wk.tupC (Wk.null Wk.refl) Wk.nil))
    · (first | (simp only [go_sem, reduceCtorEq, Nat.reduceAdd, Nat.reduceSub, Nat.reduceMul, Nat.reduceLT, Nat.reduceLeDiff, Int.reduceLT, Int.reduceLE, Int.reduceEq, Int.reduceNe, Int.reduceAdd, Int.reduceSub, Int.reduceMul, Int.reduceToNat, Int.reduceNeg, Int.reducePow, Nat.reducePow, Nat.reduceEqDiff, Nat.reduceBEq, Int.reduceBEq, Int.reduceBNe, Int.reduceNegSucc, Tryd.results85]; done) | (simp only [go_sem, reduceCtorEq, Nat.reduceAdd, Nat.reduceSub, Nat.reduceMul, Nat.reduceLT, Nat.reduceLeDiff, Int.reduceLT, Int.reduceLE, Int.reduceEq, Int.reduceNe, Int.reduceAdd, Int.reduceSub, Int.reduceMul, Int.reduceToNat, Int.reduceNeg, Int.reducePow, Nat.reducePow, Nat.reduceEqDiff, Nat.reduceBEq, Int.reduceBEq, Int.reduceBNe, Int.reduceNegSucc, Tryd.results85]; rfl) | rfl)
  · have q1 : ((8192 : Int) < (p.length : Int)) = False := eq_false (by omega)
    rw [if_neg h8]
    refine Sp.of_bodyD Tryd.func85 rfl ?_
    intro Q hQ
    simp only [List.replicate, List.length_cons, List.length_nil, Tryd.ntmps85, Nat.reduceAdd, Nat.reduceSub, List.cons_append, List.nil_append, go_sem]
    have hz : True := trivial
    have hy := yieldedV_eq
    have hL := And.intro @q0 (And.intro @q1 (@bs_nil))
    repeat' (first | (refine WPV.seqK ?_; intro N hN) | refine gA ?_ | (refine gR (M := noM) ?_; intro N hN ops hy) | (refine gD (M := noM) ?_; intro N hN; have hy := yieldedV_eq) | (refine WPV.condK ?_; intro A hA B hB) | (refine here ?_; refine sM ?_) | refine Both.mk ?_ ?_ | ((with_reducible refine CallO.gd 126 ?_); refine CallO.frA [] Tryd.call126 (vrputO_s z0 z1) ?_) | ((with_reducible refine CallO.gd 128 ?_); refine CallO.toA Tryd.call128 (rseal_s (vput p.length ++ p) hs _) ?_) | ((with_reducible refine CallP.gd 128 ?_); refine CallP.toA Tryd.call128 (rseal_s (vput p.length ++ p) hs _) ?_) | (refine hN _ ?_; try clear hN N; try clear hy ops) | (refine hA ?_; clear hA A hB B; try simp only [hz]) | (refine hB ?_; clear hA A hB B; try simp only [hz]) | (refine gG ?_ ?_ <;> (intro hz; have h := nm hz; try (exfalso; omega)) <;> (have hz := nz hz)) | ((first | rw [if_pos (show _ ∧ _ from ⟨by omega, by omega⟩)] | rw [if_pos (show _ ∧ _ from by simp only [List.length_append, List.length_cons, List.length_nil]; exact ⟨by omega, by omega⟩)]); refine sM ?_) | refine gT ?_ | (clear hN N))
    all_goals (apply And.right; refine hQ _ _ _ Desc.refl ?_ (Wk.refl))
    · (first | (simp only [go_sem, reduceCtorEq, Nat.reduceAdd, Nat.reduceSub, Nat.reduceMul, Nat.reduceLT, Nat.reduceLeDiff, Int.reduceLT, Int.reduceLE, Int.reduceEq, Int.reduceNe, Int.reduceAdd, Int.reduceSub, Int.reduceMul, Int.reduceToNat, Int.reduceNeg, Int.reducePow, Nat.reducePow, Nat.reduceEqDiff, Nat.reduceBEq, Int.reduceBEq, Int.reduceBNe, Int.reduceNegSucc, Tryd.results85]; done) | (simp only [go_sem, reduceCtorEq, Nat.reduceAdd, Nat.reduceSub, Nat.reduceMul, Nat.reduceLT, Nat.reduceLeDiff, Int.reduceLT, Int.reduceLE, Int.reduceEq, Int.reduceNe, Int.reduceAdd, Int.reduceSub, Int.reduceMul, Int.reduceToNat, Int.reduceNeg, Int.reducePow, Nat.reducePow, Nat.reduceEqDiff, Nat.reduceBEq, Int.reduceBEq, Int.reduceBNe, Int.reduceNegSucc, Tryd.results85]; rfl) | rfl)
theorem rwrap_e {p f : List UInt8} {e : Int} (hl : p.length ≤ 100000000) (h : wrapF p = (f, e)) : Sp Tryd.prog K 85 [.sl 1 (bs p)] [] fun u hh => u = .tup [.sl 1 (bs f), .sc (.int .i64 e)] ∧ hh = [] := by
  have := rwrap_s (K := K) p hl []
  rwa [h] at this
def rnextF (b : List UInt8) : List UInt8 × Nat × Int :=
  if (tk b).2.2 ≠ 0 then ([], 0, (tk b).2.2) else if 8192 < (tk b).1.toNat then ([], 0, 4)
  else if b.length < (tk b).2.1 + (tk b).1.toNat + 4 then ([], 0, 2)
  else if (wrapF ((b.take ((tk b).2.1 + (tk b).1.toNat)).drop (tk b).2.1)).1 = b.take ((tk b).2.1 + (tk b).1.toNat + 4) then ((b.take ((tk b).2.1 + (tk b).1.toNat)).drop (tk b).2.1, (tk b).2.1 + (tk b).1.toNat + 4, 0) else ([], 0, 5)
theorem rnextF_eq (b : List UInt8) : rnextF b = nextF b := by
  unfold rnextF nextF
  split
  · rfl
  rename_i h1
  have ht := tk_ok (Decidable.not_not.1 h1)
  split
  · rfl
  rename_i h2
  split
  · rfl
  rename_i h3
  generalize (tk b).2.1 = u at *
  generalize (tk b).1.toNat = n at *
  obtain ⟨t1, t2, t3⟩ := ht
  have hrl : ((b.take (u + n)).drop u).length = n := by simp; omega
  have hsp : vput n ++ (b.take (u + n)).drop u = b.take (u + n) := by
    rw [t3]
    have := List.take_append_drop u (b.take (u + n))
    rw [List.take_take, Nat.min_eq_left (by omega)] at this
    exact this
  have hw : wrapF ((b.take (u + n)).drop u) = (sealF (b.take (u + n)), 0) := by
    unfold wrapF
    rw [hrl, if_neg (by omega), hsp]
  have hbl : (b.take (u + n + 4)).length = u + n + 4 := by simp; omega
  have htk : (b.take (u + n + 4)).take (u + n + 4 - 4) = b.take (u + n) := by rw [List.take_take]; congr 1; omega
  have ho : openF (b.take (u + n + 4)) = if sealF (b.take (u + n)) = b.take (u + n + 4) then (b.take (u + n), 0) else ([], 5) := by
    unfold openF
    rw [hbl, if_neg (by omega), htk]
  rw [hw, ho]
  dsimp only
  split
  · simp
  · simp
set_option maxRecDepth 100000 in
set_option maxHeartbeats 1000000 in
theorem rnext_s (b : List UInt8) (hl8 : b.length ≤ 100000000) (h : List Ho) : Sp Tryd.prog K 90 [.sl 1 (bs b)] h fun u hh => u = nxV (nextF b) ∧ hh = h := by
  refine Sp.pure_ (R := fun u hh => Wk [u] [nxV (nextF b)]) ?_ (fun _ => rfl) (fun _ => rfl) (fun v h e => e) h
  rw [← rnextF_eq]
  have hl : b.length ≤ 1000000000 := by omega
  obtain ⟨n, u, e, ht⟩ : ∃ n u e, tk b = (n, u, e) := ⟨_, _, _, rfl⟩
  have q1 : True := trivial
  have q2 : True := trivial
  have q3 : True := trivial
  have q4 : True := trivial
  have q5 : True := trivial
  have q6 : True := trivial
  have q7 : True := trivial
  have q8 : True := trivial
  have q9 : True := trivial
  have ho : Sp Tryd.prog K 85 [.sl 1 (bs [])] [] fun u hh => u = byV (wrapF []) ∧ hh = [] := rwrap_s [] (by simp) []
  have m : Nat := 0
  have f : List UInt8 := []
  have hr : True := trivial
  unfold rnextF
  rw [ht]
  dsimp only
  by_cases he : e ≠ 0
  · have q0 : (e != 0) = true := by simpa using he
    rw [if_pos he]
    refine Sp.of_bodyD Tryd.func90 rfl ?_
    intro Q hQ
    simp only [List.replicate, List.length_cons, List.length_nil, Tryd.ntmps90, Nat.reduceAdd, Nat.reduceSub, List.cons_append, List.nil_append, go_sem]
    have hz : True := trivial
    have hy := yieldedV_eq
    have hL := And.intro @q0 (And.intro @q1 (And.intro @q2 (And.intro @q3 (And.intro @q4 (And.intro @q5 (And.intro @q6 (And.intro @q7 (And.intro @q8 (And.intro @q9 (@hr))))))))))
    repeat' (first | (refine WPV.seqK ?_; intro N hN) | refine gA ?_ | (refine gR (M := noM) ?_; intro N hN ops hy) | (refine gD (M := noM) ?_; intro N hN; have hy := yieldedV_eq) | (refine WPV.condK ?_; intro A hA B hB) | (refine here ?_; refine sM ?_) | refine Both.mk ?_ ?_ | ((with_reducible refine CallO.gd 130 ?_); refine CallO.toA Tryd.call130 (vrtake_s ht hl _) ?_) | ((with_reducible refine CallO.gd 85 ?_); refine CallO.toA Tryd.call85 (ho) ?_) | ((with_reducible refine CallO.gd 21 ?_); refine CallO.toA Tryd.call21 (vsame_s f (b.take m) _) ?_) | ((with_reducible refine CallP.gd 130 ?_); refine CallP.toA Tryd.call130 (vrtake_s ht hl _) ?_) | ((with_reducible refine CallP.gd 85 ?_); refine CallP.toA Tryd.call85 (ho) ?_) | ((with_reducible refine CallP.gd 21 ?_); refine CallP.toA Tryd.call21 (vsame_s f (b.take m) _) ?_) | (refine hN _ ?_; try clear hN N; try clear hy ops) | (refine hA ?_; clear hA A hB B; try simp only [hz]) | (refine hB ?_; clear hA A hB B; try simp only [hz]) | (refine gG ?_ ?_ <;> (intro hz; have h := nm hz; try (exfalso; omega)) <;> (have hz := nz hz)) | ((first | rw [if_pos (show _ ∧ _ from ⟨by omega, by omega⟩)] | rw [if_pos (show _ ∧ _ from by simp only [List.length_append, List.length_cons, List.length_nil]; exact ⟨by omega, by omega⟩)]); refine sM ?_) | refine gT ?_ | (clear hN N))
    all_goals (apply And.right; refine hQ _ _ _ Desc.refl ?_ (nx0_wk _))
    · (first | (simp only [go_sem, reduceCtorEq, Nat.reduceAdd, Nat.reduceSub, Nat.reduceMul, Nat.reduceLT, Nat.reduceLeDiff, Int.reduceLT, Int.reduceLE, Int.reduceEq, Int.reduceNe, Int.reduceAdd, Int.reduceSub, Int.reduceMul, Int.reduceToNat, Int.reduceNeg, Int.reducePow, Nat.reducePow, Nat.reduceEqDiff, Nat.reduceBEq, Int.reduceBEq, Int.reduceBNe, Int.reduceNegSucc, Tryd.results90]; done) | (simp only [go_sem, reduceCtorEq, Nat.reduceAdd, Nat.reduceSub, Nat.reduceMul, Nat.reduceLT, Nat.reduceLeDiff, Int.reduceLT, Int.reduceLE, Int.reduceEq, Int.reduceNe, Int.reduceAdd, Int.reduceSub, Int.reduceMul, Int.reduceToNat, Int.reduceNeg, Int.reducePow, Nat.reducePow, Nat.reduceEqDiff, Nat.reduceBEq, Int.reduceBEq, Int.reduceBNe, Int.reduceNegSucc, Tryd.results90]; rfl) | rfl)
  rw [if_neg he]
  have he0 : e = 0 := Decidable.not_not.1 he
  subst he0
  have hok := tk_ok (l := b) (by rw [ht])
  rw [ht] at hok
  dsimp only at hok
  have q0 : ((0 : Int) != 0) = false := rfl
  by_cases hn : 8192 < n.toNat
  · have q1 : ((8192 : Int) < (n.toNat : Int)) = True := eq_true (by omega)
    rw [if_pos hn]
    refine Sp.of_bodyD Tryd.func90 rfl ?_
    intro Q hQ
    simp only [List.replicate, List.length_cons, List.length_nil, Tryd.ntmps90, Nat.reduceAdd, Nat.reduceSub, List.cons_append, List.nil_append, go_sem]
    have hz : True := trivial
    have hy := yieldedV_eq
    have hL := And.intro @q0 (And.intro @q1 (And.intro @q2 (And.intro @q3 (And.intro @q4 (And.intro @q5 (And.intro @q6 (And.intro @q7 (And.intro @q8 (And.intro @q9 (@hr))))))))))
    repeat' (first | (refine WPV.seqK ?_; intro N hN) | refine gA ?_ | (refine gR (M := noM) ?_; intro N hN ops hy) | (refine gD (M := noM) ?_; intro N hN; have hy := yieldedV_eq) | (refine WPV.condK ?_; intro A hA B hB) | (refine here ?_; refine sM ?_) | refine Both.mk ?_ ?_ | ((with_reducible refine CallO.gd 130 ?_); refine CallO.toA Tryd.call130 (vrtake_s ht hl _) ?_) | ((with_reducible refine CallO.gd 85 ?_); refine CallO.toA Tryd.call85 (ho) ?_) | ((with_reducible refine CallO.gd 21 ?_); refine CallO.toA Tryd.call21 (vsame_s f (b.take m) _) ?_) | ((with_reducible refine CallP.gd 130 ?_); refine CallP.toA Tryd.call130 (vrtake_s ht hl _) ?_) | ((with_reducible refine CallP.gd 85 ?_); refine CallP.toA Tryd.call85 (ho) ?_) | ((with_reducible refine CallP.gd 21 ?_); refine CallP.toA Tryd.call21 (vsame_s f (b.take m) _) ?_) | (refine hN _ ?_; try clear hN N; try clear hy ops) | (refine hA ?_; clear hA A hB B; try simp only [hz]) | (refine hB ?_; clear hA A hB B; try simp only [hz]) | (refine gG ?_ ?_ <;> (intro hz; have h := nm hz; try (exfalso; omega)) <;> (have hz := nz hz)) | ((first | rw [if_pos (show _ ∧ _ from ⟨by omega, by omega⟩)] | rw [if_pos (show _ ∧ _ from by simp only [List.length_append, List.length_cons, List.length_nil]; exact ⟨by omega, by omega⟩)]); refine sM ?_) | refine gT ?_ | (clear hN N))
    all_goals (apply And.right; refine hQ _ _ _ Desc.refl ?_ (nx0_wk _))
    · (first | (simp only [go_sem, reduceCtorEq, Nat.reduceAdd, Nat.reduceSub, Nat.reduceMul, Nat.reduceLT, Nat.reduceLeDiff, Int.reduceLT, Int.reduceLE, Int.reduceEq, Int.reduceNe, Int.reduceAdd, Int.reduceSub, Int.reduceMul, Int.reduceToNat, Int.reduceNeg, Int.reducePow, Nat.reducePow, Nat.reduceEqDiff, Nat.reduceBEq, Int.reduceBEq, Int.reduceBNe, Int.reduceNegSucc, Tryd.results90]; done) | (simp only [go_sem, reduceCtorEq, Nat.reduceAdd, Nat.reduceSub, Nat.reduceMul, Nat.reduceLT, Nat.reduceLeDiff, Int.reduceLT, Int.reduceLE, Int.reduceEq, Int.reduceNe, Int.reduceAdd, Int.reduceSub, Int.reduceMul, Int.reduceToNat, Int.reduceNeg, Int.reducePow, Nat.reducePow, Nat.reduceEqDiff, Nat.reduceBEq, Int.reduceBEq, Int.reduceBNe, Int.reduceNegSucc, Tryd.results90]; rfl) | rfl)
  rw [if_neg hn]
  have q1 : ((8192 : Int) < (n.toNat : Int)) = False := eq_false (by omega)
  have q2 : IntKind.i64.wrap (n.toNat : Int) = (n.toNat : Int) := wr_i64 (by omega) (by omega)
  have q3 : IntKind.i64.wrap ((u : Int) + (n.toNat : Int)) = ((u + n.toNat : Nat) : Int) := by rw [wr_i64 (by omega) (by omega)]; rfl
  have q4 : IntKind.i64.wrap (((u + n.toNat : Nat) : Int) + 4) = ((u + n.toNat + 4 : Nat) : Int) := by rw [wr_i64 (by omega) (by omega)]; rfl
  clear m
  generalize hm : u + n.toNat + 4 = m at q4 ⊢
  by_cases hb : b.length < m
  · have q5 : ((b.length : Int) < (m : Int)) = True := eq_true (by omega)
    rw [if_pos hb]
    refine Sp.of_bodyD Tryd.func90 rfl ?_
    intro Q hQ
    simp only [List.replicate, List.length_cons, List.length_nil, Tryd.ntmps90, Nat.reduceAdd, Nat.reduceSub, List.cons_append, List.nil_append, go_sem]
    have hz : True := trivial
    have hy := yieldedV_eq
    have hL := And.intro @q0 (And.intro @q1 (And.intro @q2 (And.intro @q3 (And.intro @q4 (And.intro @q5 (And.intro @q6 (And.intro @q7 (And.intro @q8 (And.intro @q9 (@hr))))))))))
    repeat' (first | (refine WPV.seqK ?_; intro N hN) | refine gA ?_ | (refine gR (M := noM) ?_; intro N hN ops hy) | (refine gD (M := noM) ?_; intro N hN; have hy := yieldedV_eq) | (refine WPV.condK ?_; intro A hA B hB) | (refine here ?_; refine sM ?_) | refine Both.mk ?_ ?_ | ((with_reducible refine CallO.gd 130 ?_); refine CallO.toA Tryd.call130 (vrtake_s ht hl _) ?_) | ((with_reducible refine CallO.gd 85 ?_); refine CallO.toA Tryd.call85 (ho) ?_) | ((with_reducible refine CallO.gd 21 ?_); refine CallO.toA Tryd.call21 (vsame_s f (b.take m) _) ?_) | ((with_reducible refine CallP.gd 130 ?_); refine CallP.toA Tryd.call130 (vrtake_s ht hl _) ?_) | ((with_reducible refine CallP.gd 85 ?_); refine CallP.toA Tryd.call85 (ho) ?_) | ((with_reducible refine CallP.gd 21 ?_); refine CallP.toA Tryd.call21 (vsame_s f (b.take m) _) ?_) | (refine hN _ ?_; try clear hN N; try clear hy ops) | (refine hA ?_; clear hA A hB B; try simp only [hz]) | (refine hB ?_; clear hA A hB B; try simp only [hz]) | (refine gG ?_ ?_ <;> (intro hz; have h := nm hz; try (exfalso; omega)) <;> (have hz := nz hz)) | ((first | rw [if_pos (show _ ∧ _ from ⟨by omega, by omega⟩)] | rw [if_pos (show _ ∧ _ from by simp only [List.length_append, List.length_cons, List.length_nil]; exact ⟨by omega, by omega⟩)]); refine sM ?_) | refine gT ?_ | (clear hN N))
    all_goals (apply And.right; refine hQ _ _ _ Desc.refl ?_ (nx0_wk _))
    · (first | (simp only [go_sem, reduceCtorEq, Nat.reduceAdd, Nat.reduceSub, Nat.reduceMul, Nat.reduceLT, Nat.reduceLeDiff, Int.reduceLT, Int.reduceLE, Int.reduceEq, Int.reduceNe, Int.reduceAdd, Int.reduceSub, Int.reduceMul, Int.reduceToNat, Int.reduceNeg, Int.reducePow, Nat.reducePow, Nat.reduceEqDiff, Nat.reduceBEq, Int.reduceBEq, Int.reduceBNe, Int.reduceNegSucc, Tryd.results90]; done) | (simp only [go_sem, reduceCtorEq, Nat.reduceAdd, Nat.reduceSub, Nat.reduceMul, Nat.reduceLT, Nat.reduceLeDiff, Int.reduceLT, Int.reduceLE, Int.reduceEq, Int.reduceNe, Int.reduceAdd, Int.reduceSub, Int.reduceMul, Int.reduceToNat, Int.reduceNeg, Int.reducePow, Nat.reducePow, Nat.reduceEqDiff, Nat.reduceBEq, Int.reduceBEq, Int.reduceBNe, Int.reduceNegSucc, Tryd.results90]; rfl) | rfl)
  rw [if_neg hb]
  have q5 : ((b.length : Int) < (m : Int)) = False := eq_false (by omega)
  have q6 : ((m : Int) ≤ (b.length : Int)) = True := eq_true (by omega)
  have q7 : ((u : Int) ≤ ((u + n.toNat : Nat) : Int)) = True := eq_true (by omega)
  have q8 : (((u + n.toNat : Nat) : Int) ≤ (b.length : Int)) = True := eq_true (by omega)
  have hrl : ((b.take (u + n.toNat)).drop u).length = n.toNat := by simp; omega
  generalize hr : (b.take (u + n.toNat)).drop u = r at hrl ⊢
  have hwr : wrapF r = ((wrapF r).1, 0) := by unfold wrapF; rw [if_neg (by omega)]
  clear f
  generalize hf : (wrapF r).1 = f at hwr ⊢
  clear ho
  have ho := rwrap_e (K := K) (by omega) hwr
  have hbl : r.length ≤ 70368744177664 := by omega
  by_cases hs : f = b.take m
  · have q9 : decide (f = b.take m) = true := by simpa using hs
    rw [if_pos hs]
    refine Sp.of_bodyD Tryd.func90 rfl ?_
    intro Q hQ
    simp only [List.replicate, List.length_cons, List.length_nil, Tryd.ntmps90, Nat.reduceAdd, Nat.reduceSub, List.cons_append, List.nil_append, go_sem]
    have hz : True := trivial
    have hy := yieldedV_eq
    have hL := And.intro @q0 (And.intro @q1 (And.intro @q2 (And.intro @q3 (And.intro @q4 (And.intro @q5 (And.intro @q6 (And.intro @q7 (And.intro @q8 (And.intro @q9 (@hr))))))))))
    repeat' (first | (refine WPV.seqK ?_; intro N hN) | refine gA ?_ | (refine gR (M := noM) ?_; intro N hN ops hy) | (refine gD (M := noM) ?_; intro N hN; have hy := yieldedV_eq) | (refine WPV.condK ?_; intro A hA B hB) | (refine here ?_; refine sM ?_) | refine Both.mk ?_ ?_ | ((with_reducible refine CallO.gd 130 ?_); refine CallO.toA Tryd.call130 (vrtake_s ht hl _) ?_) | ((with_reducible refine CallO.gd 85 ?_); refine CallO.toA Tryd.call85 (ho) ?_) | ((with_reducible refine CallO.gd 21 ?_); refine CallO.toA Tryd.call21 (vsame_s f (b.take m) _) ?_) | ((with_reducible refine CallP.gd 130 ?_); refine CallP.toA Tryd.call130 (vrtake_s ht hl _) ?_) | ((with_reducible refine CallP.gd 85 ?_); refine CallP.toA Tryd.call85 (ho) ?_) | ((with_reducible refine CallP.gd 21 ?_); refine CallP.toA Tryd.call21 (vsame_s f (b.take m) _) ?_) | (refine hN _ ?_; try clear hN N; try clear hy ops) | (refine hA ?_; clear hA A hB B; try simp only [hz]) | (refine hB ?_; clear hA A hB B; try simp only [hz]) | (refine gG ?_ ?_ <;> (intro hz; have h := nm hz; try (exfalso; omega)) <;> (have hz := nz hz)) | ((first | rw [if_pos (show _ ∧ _ from ⟨by omega, by omega⟩)] | rw [if_pos (show _ ∧ _ from by simp only [List.length_append, List.length_cons, List.length_nil]; exact ⟨by omega, by omega⟩)]); refine sM ?_) | refine gT ?_ | (clear hN N))
    all_goals (apply And.right; refine hQ _ _ _ Desc.refl ?_ (Wk.tupC (Wk.own (k := 1) (t := 0) Wk.refl) Wk.nil))
    · (first | (simp only [go_sem, reduceCtorEq, Nat.reduceAdd, Nat.reduceSub, Nat.reduceMul, Nat.reduceLT, Nat.reduceLeDiff, Int.reduceLT, Int.reduceLE, Int.reduceEq, Int.reduceNe, Int.reduceAdd, Int.reduceSub, Int.reduceMul, Int.reduceToNat, Int.reduceNeg, Int.reducePow, Nat.reducePow, Nat.reduceEqDiff, Nat.reduceBEq, Int.reduceBEq, Int.reduceBNe, Int.reduceNegSucc, Tryd.results90]; done) | (simp only [go_sem, reduceCtorEq, Nat.reduceAdd, Nat.reduceSub, Nat.reduceMul, Nat.reduceLT, Nat.reduceLeDiff, Int.reduceLT, Int.reduceLE, Int.reduceEq, Int.reduceNe, Int.reduceAdd, Int.reduceSub, Int.reduceMul, Int.reduceToNat, Int.reduceNeg, Int.reducePow, Nat.reducePow, Nat.reduceEqDiff, Nat.reduceBEq, Int.reduceBEq, Int.reduceBNe, Int.reduceNegSucc, Tryd.results90]; rfl) | rfl)
  · have q9 : decide (f = b.take m) = false := by simpa using hs
    rw [if_neg hs]
    refine Sp.of_bodyD Tryd.func90 rfl ?_
    intro Q hQ
    simp only [List.replicate, List.length_cons, List.length_nil, Tryd.ntmps90, Nat.reduceAdd, Nat.reduceSub, List.cons_append, List.nil_append, go_sem]
    have hz : True := trivial
    have hy := yieldedV_eq
    have hL := And.intro @q0 (And.intro @q1 (And.intro @q2 (And.intro @q3 (And.intro @q4 (And.intro @q5 (And.intro @q6 (And.intro @q7 (And.intro @q8 (And.intro @q9 (@hr))))))))))
    repeat' (first | (refine WPV.seqK ?_; intro N hN) | refine gA ?_ | (refine gR (M := noM) ?_; intro N hN ops hy) | (refine gD (M := noM) ?_; intro N hN; have hy := yieldedV_eq) | (refine WPV.condK ?_; intro A hA B hB) | (refine here ?_; refine sM ?_) | refine Both.mk ?_ ?_ | ((with_reducible refine CallO.gd 130 ?_); refine CallO.toA Tryd.call130 (vrtake_s ht hl _) ?_) | ((with_reducible refine CallO.gd 85 ?_); refine CallO.toA Tryd.call85 (ho) ?_) | ((with_reducible refine CallO.gd 21 ?_); refine CallO.toA Tryd.call21 (vsame_s f (b.take m) _) ?_) | ((with_reducible refine CallP.gd 130 ?_); refine CallP.toA Tryd.call130 (vrtake_s ht hl _) ?_) | ((with_reducible refine CallP.gd 85 ?_); refine CallP.toA Tryd.call85 (ho) ?_) | ((with_reducible refine CallP.gd 21 ?_); refine CallP.toA Tryd.call21 (vsame_s f (b.take m) _) ?_) | (refine hN _ ?_; try clear hN N; try clear hy ops) | (refine hA ?_; clear hA A hB B; try simp only [hz]) | (refine hB ?_; clear hA A hB B; try simp only [hz]) | (refine gG ?_ ?_ <;> (intro hz; have h := nm hz; try (exfalso; omega)) <;> (have hz := nz hz)) | ((first | rw [if_pos (show _ ∧ _ from ⟨by omega, by omega⟩)] | rw [if_pos (show _ ∧ _ from by simp only [List.length_append, List.length_cons, List.length_nil]; exact ⟨by omega, by omega⟩)]); refine sM ?_) | refine gT ?_ | (clear hN N))
    all_goals (apply And.right; refine hQ _ _ _ Desc.refl ?_ (nx0_wk _))
    · (first | (simp only [go_sem, reduceCtorEq, Nat.reduceAdd, Nat.reduceSub, Nat.reduceMul, Nat.reduceLT, Nat.reduceLeDiff, Int.reduceLT, Int.reduceLE, Int.reduceEq, Int.reduceNe, Int.reduceAdd, Int.reduceSub, Int.reduceMul, Int.reduceToNat, Int.reduceNeg, Int.reducePow, Nat.reducePow, Nat.reduceEqDiff, Nat.reduceBEq, Int.reduceBEq, Int.reduceBNe, Int.reduceNegSucc, Tryd.results90]; done) | (simp only [go_sem, reduceCtorEq, Nat.reduceAdd, Nat.reduceSub, Nat.reduceMul, Nat.reduceLT, Nat.reduceLeDiff, Int.reduceLT, Int.reduceLE, Int.reduceEq, Int.reduceNe, Int.reduceAdd, Int.reduceSub, Int.reduceMul, Int.reduceToNat, Int.reduceNeg, Int.reducePow, Nat.reducePow, Nat.reduceEqDiff, Nat.reduceBEq, Int.reduceBEq, Int.reduceBNe, Int.reduceNegSucc, Tryd.results90]; rfl) | rfl)
theorem rnext_e {b p : List UInt8} {n : Nat} {e : Int} (hl : b.length ≤ 100000000) (h : nextF b = (p, n, e)) : Sp Tryd.prog K 90 [.sl 1 (bs b)] [] fun u hh => u = .tup [.sl 1 (bs p), .sc (.int .i64 (n : Int)), .sc (.int .i64 e)] ∧ hh = [] := by
  have := rnext_s (K := K) b hl []
  rwa [h] at this
set_option maxRecDepth 100000 in
set_option maxHeartbeats 1000000 in
theorem rscan_s (b : List UInt8) (hl : b.length ≤ 100000000) (h : List Ho) : Sp Tryd.prog K 48 [.sl 1 (bs b)] h fun u hh => u = scV (scanF b) ∧ hh = h := by
  refine Sp.pure_ (R := fun u hh => u = scV (scanF b) ∧ hh = []) ?_ (fun _ => rfl) (fun _ => rfl) (fun v h ⟨e, _⟩ => by rw [e]; exact Wk.refl) h
  have q0 : True := trivial
  have q1 : True := trivial
  have q2 : True := trivial
  have q3 : True := trivial
  refine Sp.of_bodyD Tryd.func48 rfl ?_
  intro Q hQ
  simp only [List.replicate, List.length_cons, List.length_nil, Tryd.ntmps48, Nat.reduceAdd, Nat.reduceSub, List.cons_append, List.nil_append, go_sem]
  have hz : True := trivial
  have hy := yieldedV_eq
  have hL := And.intro @q0 (And.intro @q1 (And.intro @q2 (@q3)))
  repeat' (first | (refine WPV.seqK ?_; intro N hN) | refine gA ?_ | (refine gR (M := noM) ?_; intro N hN ops hy) | (refine gD (M := noM) ?_; intro N hN; have hy := yieldedV_eq) | (refine WPV.condK ?_; intro A hA B hB) | (refine here ?_; refine sM ?_) | refine Both.mk ?_ ?_ | (refine hN _ ?_; try clear hN N; try clear hy ops) | (refine hA ?_; clear hA A hB B; try simp only [hz]) | (refine hB ?_; clear hA A hB B; try simp only [hz]) | (refine gG ?_ ?_ <;> (intro hz; have h := nm hz; try (exfalso; omega)) <;> (have hz := nz hz)) | ((first | rw [if_pos (show _ ∧ _ from ⟨by omega, by omega⟩)] | rw [if_pos (show _ ∧ _ from by simp only [List.length_append, List.length_cons, List.length_nil]; exact ⟨by omega, by omega⟩)]); refine sM ?_) | refine gT ?_ | (clear hN N))
  refine WPV.desc ((Desc.own0 (es := []) 5 1 rfl (.inl rfl)).trans (Desc.weakA (tm' := [.sl 1 (bs b), .any, .any, .any, .any, .own 1 (rs []) 0, .sc (.int .i64 ((0 : Nat) : Int)), .any, .any, .any, .any, .any, .any, .any, .any, .any, .any, .any, .any, .any, .any, .any, .any, .any, .any, .any, .any, .any, .any, .any, .any, .any, .any, .any, .any, .any, .any]) (h' := [.tail]))) ?_
  refine WPV.loopA (α := List (List UInt8) × Nat) (fun s => b.length - s.2) (fun s => ⟨[.sl 1 (bs b), .any, .any, .any, .any, .own 1 (rs s.1) 0, .sc (.int .i64 (s.2 : Int)), .any, .any, .any, .any, .any, .any, .any, .any, .any, .any, .any, .any, .any, .any, .any, .any, .any, .any, .any, .any, .any, .any, .any, .any, .any, .any, .any, .any, .any, .any], [.tail]⟩) (fun s => ScJ b s.1 s.2) (fun s hJ H => ?_) ([], 0) ⟨Nat.zero_le _, Nat.le_refl _, b.length + 1, by omega, rfl⟩
  obtain ⟨out, used⟩ := s
  obtain ⟨h1, h2, k, h3, h4⟩ := hJ
  dsimp only at h1 h2 h3 h4 H ⊢
  obtain ⟨k, rfl⟩ : ∃ j, k = j + 1 := ⟨k - 1, by omega⟩
  unfold scanN at h4
  by_cases hu : used = b.length
  · rw [if_pos hu] at h4
    rw [h4] at hQ
    have q0 : ((used : Int) < (b.length : Int)) = False := eq_false (by omega)
    clear H
    refine loopV ?_
    have hz : True := trivial
    have hy := yieldedV_eq
    have hL := And.intro @q0 (And.intro @q1 (And.intro @q2 (@q3)))
    repeat' (first | (refine WPV.seqK ?_; intro N hN) | refine gA ?_ | (refine gR (M := noM) ?_; intro N hN ops hy) | (refine gD (M := noM) ?_; intro N hN; have hy := yieldedV_eq) | (refine WPV.condK ?_; intro A hA B hB) | (refine here ?_; refine sM ?_) | refine Both.mk ?_ ?_ | (refine hN _ ?_; try clear hN N; try clear hy ops) | (refine hA ?_; clear hA A hB B; try simp only [hz]) | (refine hB ?_; clear hA A hB B; try simp only [hz]) | (refine gG ?_ ?_ <;> (intro hz; have h := nm hz; try (exfalso; omega)) <;> (have hz := nz hz)) | ((first | rw [if_pos (show _ ∧ _ from ⟨by omega, by omega⟩)] | rw [if_pos (show _ ∧ _ from by simp only [List.length_append, List.length_cons, List.length_nil]; exact ⟨by omega, by omega⟩)]); refine sM ?_) | refine gT ?_ | (clear hN N))
    all_goals (first | exact retA hQ Tryd.results48 (Desc.re [] rfl) | exact retN hQ Tryd.results48 (Desc.re [] rfl))
  rw [if_neg hu] at h4
  have q0 : ((used : Int) < (b.length : Int)) = True := eq_true (by omega)
  have q1 : ((used : Int) ≤ (b.length : Int)) = True := eq_true (by omega)
  obtain ⟨p, n, e, hx⟩ : ∃ p n e, nextF (b.drop used) = (p, n, e) := ⟨_, _, _, rfl⟩
  have hnl := nextF_len (b.drop used)
  rw [hx] at h4 hnl
  dsimp only at h4 hnl
  rw [List.length_drop] at hnl
  have hn := (rnext_e (K := K) (by simp; omega) hx).lift (fun _ => rfl) (fun _ => rfl)
  by_cases he : e ≠ 0
  · rw [if_pos he] at h4
    rw [h4] at hQ
    have q2 : (e != 0) = true := by simpa using he
    clear H
    refine loopV ?_
    have hz : True := trivial
    have hy := yieldedV_eq
    have hL := And.intro @q0 (And.intro @q1 (And.intro @q2 (@q3)))
    repeat' (first | (refine WPV.seqK ?_; intro N hN) | refine gA ?_ | (refine gR (M := noM) ?_; intro N hN ops hy) | (refine gD (M := noM) ?_; intro N hN; have hy := yieldedV_eq) | (refine WPV.condK ?_; intro A hA B hB) | (refine here ?_; refine sM ?_) | refine Both.mk ?_ ?_ | ((with_reducible refine CallO.gd 90 ?_); refine CallO.toA Tryd.call90 (hn _) ?_) | ((with_reducible refine CallP.gd 90 ?_); refine CallP.toA Tryd.call90 (hn _) ?_) | (refine hN _ ?_; try clear hN N; try clear hy ops) | (refine hA ?_; clear hA A hB B; try simp only [hz]) | (refine hB ?_; clear hA A hB B; try simp only [hz]) | (refine gG ?_ ?_ <;> (intro hz; have h := nm hz; try (exfalso; omega)) <;> (have hz := nz hz)) | ((first | rw [if_pos (show _ ∧ _ from ⟨by omega, by omega⟩)] | rw [if_pos (show _ ∧ _ from by simp only [List.length_append, List.length_cons, List.length_nil]; exact ⟨by omega, by omega⟩)]); refine sM ?_) | refine gT ?_ | (clear hN N))
    all_goals (first | exact retA hQ Tryd.results48 (Desc.re [] rfl) | exact retN hQ Tryd.results48 (Desc.re [] rfl))
  rw [if_neg he] at h4
  have he0 : e = 0 := Decidable.not_not.1 he
  subst he0
  have q2 : ((0 : Int) != 0) = false := rfl
  have q3 : IntKind.i64.wrap ((used : Int) + (n : Int)) = ((used + n : Nat) : Int) := by rw [wr_i64 (by omega) (by omega)]; rfl
  have hn5 := hnl.2 rfl
  have H' := H (out ++ [p], used + n) ⟨by dsimp only; omega, by simp; omega, k, by dsimp only; omega, h4⟩ (by dsimp only; omega)
  clear H
  dsimp only at H'
  refine loopV ?_
  have hz : True := trivial
  have hy := yieldedV_eq
  have hL := And.intro @q0 (And.intro @q1 (And.intro @q2 (@q3)))
  repeat' (first | (refine WPV.seqK ?_; intro N hN) | refine gA ?_ | (refine gR (M := noM) ?_; intro N hN ops hy) | (refine gD (M := noM) ?_; intro N hN; have hy := yieldedV_eq) | (refine WPV.condK ?_; intro A hA B hB) | (refine here ?_; refine sM ?_) | refine Both.mk ?_ ?_ | ((with_reducible refine CallO.gd 90 ?_); refine CallO.toA Tryd.call90 (hn _) ?_) | ((with_reducible refine CallP.gd 90 ?_); refine CallP.toA Tryd.call90 (hn _) ?_) | (refine hN _ ?_; try clear hN N; try clear hy ops) | (refine hA ?_; clear hA A hB B; try simp only [hz]) | (refine hB ?_; clear hA A hB B; try simp only [hz]) | (refine gG ?_ ?_ <;> (intro hz; have h := nm hz; try (exfalso; omega)) <;> (have hz := nz hz)) | ((first | rw [if_pos (show _ ∧ _ from ⟨by omega, by omega⟩)] | rw [if_pos (show _ ∧ _ from by simp only [List.length_append, List.length_cons, List.length_nil]; exact ⟨by omega, by omega⟩)]); refine sM ?_) | refine gT ?_ | (clear hN N))
  exact WPV.desc ((Desc.re [some 1] rfl).trans Desc.weakA) H'
set_option maxRecDepth 100000 in
set_option maxHeartbeats 1000000 in
theorem rall_s (l : List (List UInt8)) (hl : l.length ≤ 1000000) (hp : ∀ p ∈ l, p.length ≤ 100000000) (h : List Ho) : Sp Tryd.prog K 46 [.sl 1 (rs l)] h fun u hh => u = byV (allF l) ∧ hh = h := by
  refine Sp.pure_ (R := fun u hh => Wk [u] [byV (allF l)]) ?_ (fun _ => rfl) (fun _ => rfl) (fun v h e => e) h
  have q0 : True := trivial
  have q1 : True := trivial
  have q2 : True := trivial
  have q3 : True := trivial
  refine Sp.of_bodyD Tryd.func46 rfl ?_
  intro Q hQ
  simp only [List.replicate, List.length_cons, List.length_nil, Tryd.ntmps46, Nat.reduceAdd, Nat.reduceSub, List.cons_append, List.nil_append, go_sem]
  have hz : True := trivial
  have hy := yieldedV_eq
  have hL := And.intro @q0 (And.intro @q1 (And.intro @q2 (@q3)))
  repeat' (first | (refine WPV.seqK ?_; intro N hN) | refine gA ?_ | (refine gR (M := noM) ?_; intro N hN ops hy) | (refine gD (M := noM) ?_; intro N hN; have hy := yieldedV_eq) | (refine WPV.condK ?_; intro A hA B hB) | (refine here ?_; refine sM ?_) | refine Both.mk ?_ ?_ | (refine hN _ ?_; try clear hN N; try clear hy ops) | (refine hA ?_; clear hA A hB B; try simp only [hz]) | (refine hB ?_; clear hA A hB B; try simp only [hz]) | (refine gG ?_ ?_ <;> (intro hz; have h := nm hz; try (exfalso; omega)) <;> (have hz := nz hz)) | ((first | rw [if_pos (show _ ∧ _ from ⟨by omega, by omega⟩)] | rw [if_pos (show _ ∧ _ from by simp only [List.length_append, List.length_cons, List.length_nil]; exact ⟨by omega, by omega⟩)]); refine sM ?_) | refine gT ?_ | (clear hN N))
  refine WPV.desc ((Desc.own0 (es := []) 4 1 rfl (.inl rfl)).trans (Desc.weakA (tm' := [.sl 1 (rs l), .any, .any, .any, .own 1 (bs []) 0, .sc (.int .i64 ((0 : Nat) : Int)), .any, .any, .any, .any, .any, .any, .any, .any, .any, .any, .any, .any, .any, .any, .any, .any, .any, .any, .any, .any, .any, .any, .any, .any]) (h' := [.tail]))) ?_
  refine WPV.loopA (α := Nat × List UInt8) (fun s => l.length - s.1) (fun s => ⟨[.sl 1 (rs l), .any, .any, .any, .own 1 (bs s.2) 0, .sc (.int .i64 ((s.1 : Nat) : Int)), .any, .any, .any, .any, .any, .any, .any, .any, .any, .any, .any, .any, .any, .any, .any, .any, .any, .any, .any, .any, .any, .any, .any, .any], [.tail]⟩) (fun s => s.1 ≤ l.length ∧ s.2.length ≤ 9000 * s.1 ∧ allF l = allN (l.drop s.1) s.2) (fun s hJ H => ?_) (0, []) ⟨Nat.zero_le _, Nat.zero_le _, rfl⟩
  obtain ⟨k, b⟩ := s
  obtain ⟨hk0, hb, hJ⟩ := hJ
  dsimp only at hk0 hb hJ H ⊢
  by_cases h : k < l.length
  · have q0 : ((k : Int) < (l.length : Int)) = True := eq_true (by omega)
    have q1 : l[k]? = some l[k] := List.getElem?_eq_getElem h
    have hpl := hp l[k] (List.getElem_mem h)
    rw [List.drop_eq_getElem_cons h] at hJ
    generalize l[k] = p at q1 hpl hJ
    have q2 : IntKind.i64.wrap ((k : Int) + 1) = ((k + 1 : Nat) : Int) := by rw [wr_i64 (by omega) (by omega)]; rfl
    obtain ⟨f, e, hf⟩ : ∃ f e, wrapF p = (f, e) := ⟨_, _, rfl⟩
    have hfl := wrapF_len p
    have hw := (rwrap_e (K := K) hpl hf).lift (fun _ => rfl) (fun _ => rfl)
    unfold allN at hJ
    rw [hf] at hJ hfl
    dsimp only at hJ hfl
    by_cases he : e ≠ 0
    · have q3 : (e != 0) = true := by simpa using he
      rw [if_pos he] at hJ
      rw [hJ] at hQ
      clear H
      refine loopV ?_
      have hz : True := trivial
      have hy := yieldedV_eq
      have hL := And.intro @q0 (And.intro @q1 (And.intro @q2 (@q3)))
      repeat' (first | (refine WPV.seqK ?_; intro N hN) | refine gA ?_ | (refine gR (M := noM) ?_; intro N hN ops hy) | (refine gD (M := noM) ?_; intro N hN; have hy := yieldedV_eq) | (refine WPV.condK ?_; intro A hA B hB) | (refine here ?_; refine sM ?_) | refine Both.mk ?_ ?_ | ((with_reducible refine CallO.gd 85 ?_); refine CallO.toA Tryd.call85 (hw _) ?_) | ((with_reducible refine CallP.gd 85 ?_); refine CallP.toA Tryd.call85 (hw _) ?_) | (refine hN _ ?_; try clear hN N; try clear hy ops) | (refine hA ?_; clear hA A hB B; try simp only [hz]) | (refine hB ?_; clear hA A hB B; try simp only [hz]) | (refine gG ?_ ?_ <;> (intro hz; have h := nm hz; try (exfalso; omega)) <;> (have hz := nz hz)) | ((first | rw [if_pos (show _ ∧ _ from ⟨by omega, by omega⟩)] | rw [if_pos (show _ ∧ _ from by simp only [List.length_append, List.length_cons, List.length_nil]; exact ⟨by omega, by omega⟩)]); refine sM ?_) | refine gT ?_ | (clear hN N))
      all_goals (apply And.right; refine hQ _ _ _ Desc.refl ?_ (Wk.tupC (Wk.null Wk.refl) Wk.nil))
      · (first | (simp only [go_sem, reduceCtorEq, Nat.reduceAdd, Nat.reduceSub, Nat.reduceMul, Nat.reduceLT, Nat.reduceLeDiff, Int.reduceLT, Int.reduceLE, Int.reduceEq, Int.reduceNe, Int.reduceAdd, Int.reduceSub, Int.reduceMul, Int.reduceToNat, Int.reduceNeg, Int.reducePow, Nat.reducePow, Nat.reduceEqDiff, Nat.reduceBEq, Int.reduceBEq, Int.reduceBNe, Int.reduceNegSucc, Tryd.results46]; done) | (simp only [go_sem, reduceCtorEq, Nat.reduceAdd, Nat.reduceSub, Nat.reduceMul, Nat.reduceLT, Nat.reduceLeDiff, Int.reduceLT, Int.reduceLE, Int.reduceEq, Int.reduceNe, Int.reduceAdd, Int.reduceSub, Int.reduceMul, Int.reduceToNat, Int.reduceNeg, Int.reducePow, Nat.reducePow, Nat.reduceEqDiff, Nat.reduceBEq, Int.reduceBEq, Int.reduceBNe, Int.reduceNegSucc, Tryd.results46]; rfl) | rfl)
    · have he0 : e = 0 := Decidable.not_not.1 he
      subst he0
      have q3 : ((0 : Int) != 0) = false := rfl
      rw [if_neg he] at hJ
      have H' := H (k + 1, b ++ f) ⟨by dsimp only; omega, by simp; omega, hJ⟩ (by dsimp only; omega)
      clear H
      dsimp only at H'
      refine loopV ?_
      have hz : True := trivial
      have hy := yieldedV_eq
      have hL := And.intro @q0 (And.intro @q1 (And.intro @q2 (@q3)))
      repeat' (first | (refine WPV.seqK ?_; intro N hN) | refine gA ?_ | (refine gR (M := noM) ?_; intro N hN ops hy) | (refine gD (M := noM) ?_; intro N hN; have hy := yieldedV_eq) | (refine WPV.condK ?_; intro A hA B hB) | (refine here ?_; refine sM ?_) | refine Both.mk ?_ ?_ | ((with_reducible refine CallO.gd 85 ?_); refine CallO.toA Tryd.call85 (hw _) ?_) | ((with_reducible refine CallP.gd 85 ?_); refine CallP.toA Tryd.call85 (hw _) ?_) | (refine hN _ ?_; try clear hN N; try clear hy ops) | (refine hA ?_; clear hA A hB B; try simp only [hz]) | (refine hB ?_; clear hA A hB B; try simp only [hz]) | (refine gG ?_ ?_ <;> (intro hz; have h := nm hz; try (exfalso; omega)) <;> (have hz := nz hz)) | ((first | rw [if_pos (show _ ∧ _ from ⟨by omega, by omega⟩)] | rw [if_pos (show _ ∧ _ from by simp only [List.length_append, List.length_cons, List.length_nil]; exact ⟨by omega, by omega⟩)]); refine sM ?_) | refine gT ?_ | (clear hN N))
      exact WPV.desc ((Desc.re [some 1] rfl).trans Desc.weakA) H'
  obtain rfl : k = l.length := by omega
  clear H
  rw [List.drop_length] at hJ
  unfold allN at hJ
  rw [hJ] at hQ
  have q0 : ((l.length : Int) < (l.length : Int)) = False := by simp
  refine loopV ?_
  have hz : True := trivial
  have hy := yieldedV_eq
  have hL := And.intro @q0 (And.intro @q1 (And.intro @q2 (@q3)))
  repeat' (first | (refine WPV.seqK ?_; intro N hN) | refine gA ?_ | (refine gR (M := noM) ?_; intro N hN ops hy) | (refine gD (M := noM) ?_; intro N hN; have hy := yieldedV_eq) | (refine WPV.condK ?_; intro A hA B hB) | (refine here ?_; refine sM ?_) | refine Both.mk ?_ ?_ | (refine hN _ ?_; try clear hN N; try clear hy ops) | (refine hA ?_; clear hA A hB B; try simp only [hz]) | (refine hB ?_; clear hA A hB B; try simp only [hz]) | (refine gG ?_ ?_ <;> (intro hz; have h := nm hz; try (exfalso; omega)) <;> (have hz := nz hz)) | ((first | rw [if_pos (show _ ∧ _ from ⟨by omega, by omega⟩)] | rw [if_pos (show _ ∧ _ from by simp only [List.length_append, List.length_cons, List.length_nil]; exact ⟨by omega, by omega⟩)]); refine sM ?_) | refine gT ?_ | (clear hN N))
  all_goals (apply And.right; refine hQ _ _ _ Desc.refl ?_ (Wk.tupC (Wk.own (k := 1) (t := 0) Wk.refl) Wk.nil))
  · (first | (simp only [go_sem, reduceCtorEq, Nat.reduceAdd, Nat.reduceSub, Nat.reduceMul, Nat.reduceLT, Nat.reduceLeDiff, Int.reduceLT, Int.reduceLE, Int.reduceEq, Int.reduceNe, Int.reduceAdd, Int.reduceSub, Int.reduceMul, Int.reduceToNat, Int.reduceNeg, Int.reducePow, Nat.reducePow, Nat.reduceEqDiff, Nat.reduceBEq, Int.reduceBEq, Int.reduceBNe, Int.reduceNegSucc, Tryd.results46]; done) | (simp only [go_sem, reduceCtorEq, Nat.reduceAdd, Nat.reduceSub, Nat.reduceMul, Nat.reduceLT, Nat.reduceLeDiff, Int.reduceLT, Int.reduceLE, Int.reduceEq, Int.reduceNe, Int.reduceAdd, Int.reduceSub, Int.reduceMul, Int.reduceToNat, Int.reduceNeg, Int.reducePow, Nat.reducePow, Nat.reduceEqDiff, Nat.reduceBEq, Int.reduceBEq, Int.reduceBNe, Int.reduceNegSucc, Tryd.results46]; rfl) | rfl)
end Go.Proofs.YtgfnpcmehnjopaaDoor
end
section
namespace Go.Proofs.YtgfnpcmehnjopaaDoor
open Go Go.RowKit
set_option linter.unusedVariables false
set_option linter.unusedSimpArgs false
variable {K : Nat → Obj → Prop}
set_option maxRecDepth 100000 in
set_option maxHeartbeats 2000000 in
theorem rtake22_s (b : List UInt8) (hl : b.length ≤ 100000000) : Sp Tryd.prog K 16 [.sl 1 (bs b)] [] fun u hh => u = itsV (takeI b) ∧ hh = [] := by
  have cs := fun h => rscan_s (K := K) b (by omega) h
  obtain ⟨rows, used, e, hs⟩ : ∃ r u e, scanF b = (r, u, e) := ⟨_, _, _, rfl⟩
  have hrec := (scanF_back b).1
  have e0 : takeI b = if e ≠ 0 then ([], e) else if 300 < rows.length then ([], 4) else readsI rows := by unfold takeI; rw [hs]
  rw [hs] at cs hrec
  dsimp only [Fits] at hrec
  dsimp only [scV] at cs
  clear hs
  have hget := True.intro
  by_cases he : e ≠ 0
  · rw [if_pos he] at e0
    rw [e0]
    refine Sp.of_bodyE Tryd.func16 rfl ?_
    intro Q hQ
    simp only [List.replicate, List.length_cons, List.length_nil, Tryd.ntmps16, Nat.reduceAdd, Nat.reduceSub, List.cons_append, List.nil_append, go_sem]
    have hz : True := trivial
    have hy := yieldedV_eq
    have hL := @hget
    repeat' (first | (refine WPV.seqK ?_; intro N hN) | refine gA ?_ | (refine gR (M := noM) ?_; intro N hN ops hy) | (refine gD (M := noM) ?_; intro N hN; have hy := yieldedV_eq) | (refine WPV.condK ?_; intro A hA B hB) | (refine here ?_; refine sS ?_) | refine Both.mk ?_ ?_ | ((with_reducible refine CallO.gd 48 ?_); refine CallO.toB Tryd.call48 (cs _) ?_) | ((with_reducible refine CallP.gd 48 ?_); refine CallP.toB Tryd.call48 (cs _) ?_) | (refine hN _ ?_; try clear hN N; try clear hy ops) | (refine hA ?_; clear hA A hB B; try simp only [hz]) | (refine hB ?_; clear hA A hB B; try simp only [hz]) | (refine gG ?_ ?_ <;> (intro hz; have h := nm hz; try (exfalso; omega)) <;> (have hz := nz hz; try subst hz)) | (rw [if_pos (show _ ∧ _ from ⟨by omega, by omega⟩)]; refine sS ?_) | refine gT ?_ | (clear hN N))
    (try unfold itsV at hQ)
    all_goals (first | exact retZ hQ Tryd.results16 (Desc.re [] rfl) | exact retZN hQ Tryd.results16 (Desc.re [] rfl))
  rw [if_neg he] at e0
  have he := Decidable.not_not.1 he
  subst he
  by_cases h3 : 300 < rows.length
  · rw [if_pos h3] at e0
    rw [e0]
    refine Sp.of_bodyE Tryd.func16 rfl ?_
    intro Q hQ
    simp only [List.replicate, List.length_cons, List.length_nil, Tryd.ntmps16, Nat.reduceAdd, Nat.reduceSub, List.cons_append, List.nil_append, go_sem]
    have hz : True := trivial
    have hy := yieldedV_eq
    have hL := @hget
    repeat' (first | (refine WPV.seqK ?_; intro N hN) | refine gA ?_ | (refine gR (M := noM) ?_; intro N hN ops hy) | (refine gD (M := noM) ?_; intro N hN; have hy := yieldedV_eq) | (refine WPV.condK ?_; intro A hA B hB) | (refine here ?_; refine sS ?_) | refine Both.mk ?_ ?_ | ((with_reducible refine CallO.gd 48 ?_); refine CallO.toB Tryd.call48 (cs _) ?_) | ((with_reducible refine CallP.gd 48 ?_); refine CallP.toB Tryd.call48 (cs _) ?_) | (refine hN _ ?_; try clear hN N; try clear hy ops) | (refine hA ?_; clear hA A hB B; try simp only [hz]) | (refine hB ?_; clear hA A hB B; try simp only [hz]) | (refine gG ?_ ?_ <;> (intro hz; have h := nm hz; try (exfalso; omega)) <;> (have hz := nz hz; try subst hz)) | (rw [if_pos (show _ ∧ _ from ⟨by omega, by omega⟩)]; refine sS ?_) | refine gT ?_ | (clear hN N))
    (try unfold itsV at hQ)
    all_goals (first | exact retZ hQ Tryd.results16 (Desc.re [] rfl) | exact retZN hQ Tryd.results16 (Desc.re [] rfl))
  rw [if_neg h3] at e0
  rw [e0]
  clear e0
  refine Sp.of_bodyE Tryd.func16 rfl ?_
  intro Q hQ
  simp only [List.replicate, List.length_cons, List.length_nil, Tryd.ntmps16, Nat.reduceAdd, Nat.reduceSub, List.cons_append, List.nil_append, go_sem]
  have hz : True := trivial
  have hy := yieldedV_eq
  have hL := @hget
  repeat' (first | (refine WPV.seqK ?_; intro N hN) | refine gA ?_ | (refine gR (M := noM) ?_; intro N hN ops hy) | (refine gD (M := noM) ?_; intro N hN; have hy := yieldedV_eq) | (refine WPV.condK ?_; intro A hA B hB) | (refine here ?_; refine sS ?_) | refine Both.mk ?_ ?_ | ((with_reducible refine CallO.gd 48 ?_); refine CallO.toB Tryd.call48 (cs _) ?_) | ((with_reducible refine CallP.gd 48 ?_); refine CallP.toB Tryd.call48 (cs _) ?_) | (refine hN _ ?_; try clear hN N; try clear hy ops) | (refine hA ?_; clear hA A hB B; try simp only [hz]) | (refine hB ?_; clear hA A hB B; try simp only [hz]) | (refine gG ?_ ?_ <;> (intro hz; have h := nm hz; try (exfalso; omega)) <;> (have hz := nz hz; try subst hz)) | (rw [if_pos (show _ ∧ _ from ⟨by omega, by omega⟩)]; refine sS ?_) | refine gT ?_ | (clear hN N))
  clear hget cs
  refine WPV.loopW (α := Nat × List It) (fun q => rows.length - q.1) (fun q => ⟨[.any, .any, .any, .any, .sl 1 (rs rows), .any, .any, .own 10 (its q.2) 0, .sc (.int .i64 ((q.1 : Nat) : Int)), .any, .any, .any, .any, .any, .any, .any, .any, .any, .any, .any, .any, .any, .any, .any, .any, .any, .any, .any, .any, .any, .any, .any, .any, .any, .any, .any, .any, .any, .any, .any, .any, .any, .any, .any, .any, .any], [.tail]⟩) (fun q => q.1 ≤ rows.length ∧ q.2.length = q.1 ∧ readsI rows = joinI q.2 (readsI (rows.drop q.1))) (0, []) ((Desc.own0 (es := []) 7 10 rfl (.inl rfl)).trans Desc.weakA) ⟨Nat.zero_le _, rfl, (joinI_nil _).symm⟩ (fun q hJ H => ?_)
  obtain ⟨i, acc⟩ := q
  dsimp only at hJ H ⊢
  obtain ⟨j1, j2, j4⟩ := hJ
  by_cases h : i < rows.length
  · obtain ⟨y, hg⟩ : ∃ y, rows[i] = y := ⟨_, rfl⟩
    have hget : rows[i]? = some y := by rw [← hg]; exact List.getElem?_eq_getElem h
    have hyl := hrec y (hg ▸ List.getElem_mem h)
    have cr := fun h => Sp.lift (dread_s (K := K) y (by omega)) (fun _ => rfl) (fun _ => rfl) h
    rw [List.drop_eq_getElem_cons h, hg, joinI_cons] at j4
    obtain ⟨x, e, hx⟩ : ∃ x e, readI y = (x, e) := ⟨_, _, rfl⟩
    rw [hx] at cr j4
    dsimp only at cr j4
    by_cases hc : e = 0
    · subst hc
      rw [if_neg (by simp)] at j4
      have H' := H (i + 1, acc ++ [x]) ⟨h, by simp [j2], j4⟩ (by dsimp only; omega)
      clear H hg j4 hx
      dsimp only at H'
      obtain ⟨d, o, n, a, m, ⟨cx, cy, cz⟩, w, k⟩ := x
      refine loopV ?_
      have hz : True := trivial
      have hy := yieldedV_eq
      have hL := @hget
      repeat' (first | (refine WPV.seqK ?_; intro N hN) | refine gA ?_ | (refine gR (M := noM) ?_; intro N hN ops hy) | (refine gD (M := noM) ?_; intro N hN; have hy := yieldedV_eq) | (refine WPV.condK ?_; intro A hA B hB) | (refine here ?_; refine sS ?_) | refine Both.mk ?_ ?_ | ((with_reducible refine CallO.gd 49 ?_); refine CallO.toB Tryd.call49 (cr _) ?_) | ((with_reducible refine CallP.gd 49 ?_); refine CallP.toB Tryd.call49 (cr _) ?_) | (refine hN _ ?_; try clear hN N; try clear hy ops) | (refine hA ?_; clear hA A hB B; try simp only [hz]) | (refine hB ?_; clear hA A hB B; try simp only [hz]) | (refine gG ?_ ?_ <;> (intro hz; have h := nm hz; try (exfalso; omega)) <;> (have hz := nz hz; try subst hz)) | (rw [if_pos (show _ ∧ _ from ⟨by omega, by omega⟩)]; refine sS ?_) | refine gT ?_ | (clear hN N))
      have hL := And.intro @its_ap (@its_on)
      all_goals (exact rndZ (Desc.re [some 2] rfl) (H'))
    · rw [if_pos hc] at j4
      rw [j4] at hQ
      clear H hg j4 hx
      obtain ⟨d, o, n, a, m, ⟨cx, cy, cz⟩, w, k⟩ := x
      refine loopV ?_
      have hz : True := trivial
      have hy := yieldedV_eq
      have hL := @hget
      repeat' (first | (refine WPV.seqK ?_; intro N hN) | refine gA ?_ | (refine gR (M := noM) ?_; intro N hN ops hy) | (refine gD (M := noM) ?_; intro N hN; have hy := yieldedV_eq) | (refine WPV.condK ?_; intro A hA B hB) | (refine here ?_; refine sS ?_) | refine Both.mk ?_ ?_ | ((with_reducible refine CallO.gd 49 ?_); refine CallO.toB Tryd.call49 (cr _) ?_) | ((with_reducible refine CallP.gd 49 ?_); refine CallP.toB Tryd.call49 (cr _) ?_) | (refine hN _ ?_; try clear hN N; try clear hy ops) | (refine hA ?_; clear hA A hB B; try simp only [hz]) | (refine hB ?_; clear hA A hB B; try simp only [hz]) | (refine gG ?_ ?_ <;> (intro hz; have h := nm hz; try (exfalso; omega)) <;> (have hz := nz hz; try subst hz)) | (rw [if_pos (show _ ∧ _ from ⟨by omega, by omega⟩)]; refine sS ?_) | refine gT ?_ | (clear hN N))
      (try unfold itsV at hQ)
      all_goals (first | exact retZ hQ Tryd.results16 (Desc.re [] rfl) | exact retZN hQ Tryd.results16 (Desc.re [] rfl))
  obtain rfl : i = rows.length := by omega
  rw [List.drop_length] at j4
  have e1 : readsI rows = (acc, 0) := by rw [j4]; simp [joinI, readsI]
  rw [e1] at hQ
  clear H j4 e1
  refine loopV ?_
  have hz : True := trivial
  have hy := yieldedV_eq
  have hL := True.intro
  repeat' (first | (refine WPV.seqK ?_; intro N hN) | refine gA ?_ | (refine gR (M := noM) ?_; intro N hN ops hy) | (refine gD (M := noM) ?_; intro N hN; have hy := yieldedV_eq) | (refine WPV.condK ?_; intro A hA B hB) | (refine here ?_; refine sS ?_) | refine Both.mk ?_ ?_ | (refine hN _ ?_; try clear hN N; try clear hy ops) | (refine hA ?_; clear hA A hB B; try simp only [hz]) | (refine hB ?_; clear hA A hB B; try simp only [hz]) | (refine gG ?_ ?_ <;> (intro hz; have h := nm hz; try (exfalso; omega)) <;> (have hz := nz hz; try subst hz)) | (rw [if_pos (show _ ∧ _ from ⟨by omega, by omega⟩)]; refine sS ?_) | refine gT ?_ | (clear hN N))
  (try unfold itsV at hQ)
  all_goals (first | exact retZ hQ Tryd.results16 (Desc.re [] rfl) | exact retZN hQ Tryd.results16 (Desc.re [] rfl))
end Go.Proofs.YtgfnpcmehnjopaaDoor
end
section
namespace Go.Proofs.YtgfnpcmehnjopaaDoor
open Go Go.RowKit
set_option linter.unusedVariables false
set_option linter.unusedSimpArgs false
variable {K : Nat → Obj → Prop}
theorem bflat_len {α : Type} (f : α → List UInt8) (c : Nat) : ∀ l : List α, (∀ a ∈ l, (f a).length ≤ c) → (l.flatMap f).length ≤ c * l.length
  | [], _ => by simp
  | a :: l, h => by
    have h1 := h a (by simp)
    have h2 := bflat_len f c l fun b hb => h b (by simp [hb])
    rw [List.flatMap_cons, List.length_append, List.length_cons, Nat.mul_add, Nat.mul_one]
    omega
theorem bite_len (p : Prop) [Decidable p] (l : List UInt8) (c : Nat) (h : l.length ≤ c) : (if p then l else []).length ≤ c := by
  split
  · exact h
  · simp
theorem textF_len2 {a : Wr} (h : WrOk a) : (textF a).length ≤ 340 := by
  obtain ⟨h1, h2, _⟩ := h
  have l1 := vput_len (n := a.k.size) (by omega)
  have l2 := vput_len (n := a.v.size + 1) (by omega)
  have l3 := bsz a.k
  have l4 := bsz a.v
  unfold textF
  split
  · simp only [List.length_append, List.length_cons, List.length_nil]; omega
  · simp only [List.length_append]; omega
theorem bytesI_len {x : It} (hc : checkI x = 0) (hm : ItM x) : (bytesI x).length ≤ 8000 := by
  obtain ⟨⟨d0, d1⟩, ⟨o0, o1, o2⟩, ⟨n0, n1, n2⟩, ⟨a0, a1, a2⟩, m2, hr, k2, hw, w2, kl, k3, k4⟩ := checkI_ok hc
  obtain ⟨w1, w3⟩ := wok_of hw
  have l1 := vput_len (n := x.d.toNat) (by omega)
  have l2 := bite_len (x.d < 3 ∨ x.d = 7 ∨ x.d = 8) _ 10 (vput_len (n := x.o.toNat) (by omega))
  have l3 := bite_len (3 ≤ x.d ∧ x.d ≤ 6 ∨ x.d = 8) _ 10 (vput_len (n := x.n.toNat) (by omega))
  have l4 := bite_len (x.d = 6) _ 10 (vput_len (n := x.a.toNat) (by omega))
  have l5 := bite_len (x.d = 6) _ 10 (vput_len (n := x.m.toNat) (by have := hm.2; omega))
  have l6 := bite_len (x.d = 0) (cputF ⟨0, 0, 0⟩ x.c).1 30 (by
    unfold cputF
    split
    · have z1 := zz_len (x.c.x - 0)
      have z2 := zz_len (x.c.y - 0)
      have z3 := zz_len (x.c.z - 0)
      simp only [List.length_append]; omega
    · simp)
  have l7 := bite_len (x.d = 0) _ 10 (vput_len (n := x.w.length) (by omega))
  have l8 := bite_len (x.d = 0) _ _ (bflat_len textF 340 x.w fun a ha => textF_len2 (w3 a ha))
  have l9 := bite_len (x.d = 7) _ 10 (vput_len (n := x.k.length) (by omega))
  have l10 := bite_len (x.d = 7) _ _ (bflat_len (fun n : Int => vput n.toNat) 10 x.k fun n hn => vput_len (by have := k4 n hn; omega))
  have l11 : 340 * x.w.length ≤ 340 * 16 := Nat.mul_le_mul_left _ w1
  rw [bytesI_eq]
  simp only [List.length_append, List.length_nil]
  omega
def joinR (acc : List (List UInt8)) (r : List (List UInt8) × Int) : List (List UInt8) × Int := if r.2 ≠ 0 then ([], r.2) else (acc ++ r.1, 0)
theorem rowsI_z {l : List It} (h : (rowsI l).2 ≠ 0) : (rowsI l).1 = [] := by
  cases l with
  | nil => exact absurd rfl h
  | cons x l =>
    unfold rowsI at h ⊢
    split
    · rfl
    rename_i h1
    rw [if_neg h1] at h
    split
    · rfl
    rename_i h2
    rw [if_neg h2] at h
    exact absurd rfl h
theorem joinR_nil (l : List It) : joinR [] (rowsI l) = rowsI l := by
  unfold joinR
  split
  · rename_i h
    rw [← rowsI_z h]
  · rename_i h
    have h := Decidable.not_not.1 h
    rw [List.nil_append, ← h]
theorem joinR_cons (acc : List (List UInt8)) (x : It) (l : List It) : joinR acc (rowsI (x :: l)) = if checkI x ≠ 0 then ([], checkI x) else joinR (acc ++ [bytesI x]) (rowsI l) := by
  rw [rowsI]
  by_cases h1 : checkI x ≠ 0
  · rw [if_pos h1, if_pos h1]; unfold joinR; rw [if_pos h1]
  · rw [if_neg h1, if_neg h1]
    by_cases h2 : (rowsI l).2 ≠ 0
    · rw [if_pos h2]; unfold joinR; rw [if_pos h2, if_pos h2]
    · rw [if_neg h2]; unfold joinR; rw [if_neg (by simp), if_neg h2]; simp
end Go.Proofs.YtgfnpcmehnjopaaDoor
end
section
namespace Go.Proofs.YtgfnpcmehnjopaaDoor
open Go Go.RowKit
set_option linter.unusedVariables false
set_option linter.unusedSimpArgs false
variable {K : Nat → Obj → Prop}
theorem bsz2 (k : ByteArray) : k.toList.length = k.size := by rw [ByteArray.toList_eq]; simp
set_option maxRecDepth 100000 in
set_option maxHeartbeats 1000000 in
theorem stext_s (a : Wr) (hk : a.k.size ≤ 64) (hv : a.v.size ≤ 256) (h : List Ho) : Sp Tryd.prog K 82 [wrV a] h fun u hh => u = .sl 1 (bs (textF a)) ∧ hh = h := by
  refine Sp.lift (vs := [wrV a]) ?_ (fun _ => rfl) (fun _ => rfl) h
  obtain ⟨ak, av, ag⟩ := a
  dsimp only at hk hv ⊢
  have l1 := vput_len (n := ak.size) (by omega)
  have l2 := vput_len (n := av.size + 1) (by omega)
  have l3 := bsz2 ak
  have l4 := bsz2 av
  have hv1 : ((av.size : Int) + 1).toNat = av.size + 1 := by omega
  cases ag with
  | true =>
    have e : textF ⟨ak, av, true⟩ = vput ak.size ++ ak.toList ++ [0] := rfl
    rw [e]
    refine Sp.of_bodyE Tryd.func82 rfl ?_
    intro Q hQ
    simp only [List.replicate, List.length_cons, List.length_nil, Tryd.ntmps82, Nat.reduceAdd, Nat.reduceSub, List.cons_append, List.nil_append, go_sem]
    have hz : True := trivial
    have hy := yieldedV_eq
    have hL := @hv1
    repeat' (first | (refine WPV.seqK ?_; intro N hN) | refine gA ?_ | (refine gR (M := noM) ?_; intro N hN ops hy) | (refine gD (M := noM) ?_; intro N hN; have hy := yieldedV_eq) | (refine WPV.condK ?_; intro A hA B hB) | (refine here ?_; refine sS ?_) | refine Both.mk ?_ ?_ | ((with_reducible refine CallO.gd 62 ?_); first | refine CallO.frB [] Tryd.call62 (vputO_s (m := (ak.size : Int)) (by omega) (by omega)) ?_ | refine CallO.toB Tryd.call62 (vput_s (m := (av.size : Int) + 1) (by omega) (by omega) _) ?_) | ((with_reducible refine CallP.gd 62 ?_); first | refine CallP.frB [] 1 Tryd.call62 (vputO_s (m := (ak.size : Int)) (by omega) (by omega)) ?_ | refine CallP.toB Tryd.call62 (vput_s (m := (av.size : Int) + 1) (by omega) (by omega) _) ?_) | (refine hN _ ?_; try clear hN N; try clear hy ops) | (refine hA ?_; clear hA A hB B; try simp only [hz]) | (refine hB ?_; clear hA A hB B; try simp only [hz]) | (refine gG ?_ ?_ <;> (intro hz; have h := nm hz; try (exfalso; omega)) <;> (have hz := nz hz; try subst hz)) | (rw [if_pos (show _ ∧ _ from ⟨by omega, by omega⟩)]; refine sS ?_) | refine gT ?_ | (clear hN N))
    all_goals (first | exact retZ hQ Tryd.results82 (Desc.re [] rfl) | exact retZN hQ Tryd.results82 (Desc.re [] rfl))
  | false =>
    have e : textF ⟨ak, av, false⟩ = vput ak.size ++ ak.toList ++ vput (av.size + 1) ++ av.toList := by simp [textF]
    rw [e]
    refine Sp.of_bodyE Tryd.func82 rfl ?_
    intro Q hQ
    simp only [List.replicate, List.length_cons, List.length_nil, Tryd.ntmps82, Nat.reduceAdd, Nat.reduceSub, List.cons_append, List.nil_append, go_sem]
    have hz : True := trivial
    have hy := yieldedV_eq
    have hL := @hv1
    repeat' (first | (refine WPV.seqK ?_; intro N hN) | refine gA ?_ | (refine gR (M := noM) ?_; intro N hN ops hy) | (refine gD (M := noM) ?_; intro N hN; have hy := yieldedV_eq) | (refine WPV.condK ?_; intro A hA B hB) | (refine here ?_; refine sS ?_) | refine Both.mk ?_ ?_ | ((with_reducible refine CallO.gd 62 ?_); first | refine CallO.frB [] Tryd.call62 (vputO_s (m := (ak.size : Int)) (by omega) (by omega)) ?_ | refine CallO.toB Tryd.call62 (vput_s (m := (av.size : Int) + 1) (by omega) (by omega) _) ?_) | ((with_reducible refine CallP.gd 62 ?_); first | refine CallP.frB [] 1 Tryd.call62 (vputO_s (m := (ak.size : Int)) (by omega) (by omega)) ?_ | refine CallP.toB Tryd.call62 (vput_s (m := (av.size : Int) + 1) (by omega) (by omega) _) ?_) | (refine hN _ ?_; try clear hN N; try clear hy ops) | (refine hA ?_; clear hA A hB B; try simp only [hz]) | (refine hB ?_; clear hA A hB B; try simp only [hz]) | (refine gG ?_ ?_ <;> (intro hz; have h := nm hz; try (exfalso; omega)) <;> (have hz := nz hz; try subst hz)) | (rw [if_pos (show _ ∧ _ from ⟨by omega, by omega⟩)]; refine sS ?_) | refine gT ?_ | (clear hN N))
    all_goals (first | exact retZ hQ Tryd.results82 (Desc.re [] rfl) | exact retZN hQ Tryd.results82 (Desc.re [] rfl))
def putP (p : Prop) [Decidable p] (b : List UInt8) (l : List Int) : List UInt8 := if p then b ++ l.flatMap fun n => vput n.toNat else b
set_option maxRecDepth 100000 in
set_option maxHeartbeats 1000000 in
theorem sput_s (hT : TT K) {part : Int} {p : Int → Prop} (ht : Tells part p) (x : It) (hd : 0 ≤ x.d ∧ x.d ≤ 8) [Decidable (p x.d)] (b : List UInt8) (n : Int) (hn : p x.d → 0 ≤ n ∧ n < 18446744073709551616) (hb : b.length ≤ 1000000) :
    Sp Tryd.prog K 80 [.sc (.int .i64 part), .sl 1 [[.sc (.int .u64 n)]], .ptr 0 0, .ptr 1 0] [.cells (itL x), .cells [.own 1 (bs b) 2], .tail] fun u hh =>
      u = .tup [] ∧ hh = [.cells (itL x), .cells [.own 1 (bs (putP (p x.d) b [n])) 3], .dead, .tail] := by
  have ch := fun h => hasP hT ht x hd h
  unfold putP
  by_cases hp : p x.d
  · rw [if_pos hp]
    rw [decide_eq_true hp] at ch
    have hl : ([n].flatMap fun n => vput n.toNat).length ≤ 10 := by
      have := vput_len (n := n.toNat) (by have := hn hp; omega)
      simpa using this
    have cv : ∀ h, Sp Tryd.prog K 64 [.sl 1 [[.sc (.int .u64 n)]]] h fun u hh => u = .sl 1 (bs ([n].flatMap fun n => vput n.toNat)) ∧ hh = h := fun h => vall_s (K := K) (l := [n]) (by simp) (by simpa using hn hp) h
    generalize ([n].flatMap fun n => vput n.toNat) = v at *
    clear ht hn
    generalize p x.d = pp at *
    obtain ⟨d, o, n', a, m, ⟨cx, cy, cz⟩, w, k⟩ := x
    dsimp only at ch hd ⊢
    refine Sp.of_bodyE Tryd.func80 rfl ?_
    intro Q hQ
    simp only [List.replicate, List.length_cons, List.length_nil, Tryd.ntmps80, Nat.reduceAdd, Nat.reduceSub, List.cons_append, List.nil_append, go_sem]
    have hz : True := trivial
    have hy := yieldedV_eq
    have hL := True.intro
    repeat' (first | (refine WPV.seqK ?_; intro N hN) | refine gA ?_ | (refine gR (M := noM) ?_; intro N hN ops hy) | (refine gD (M := noM) ?_; intro N hN; have hy := yieldedV_eq) | (refine WPV.condK ?_; intro A hA B hB) | (refine here ?_; refine sS ?_) | refine Both.mk ?_ ?_ | ((with_reducible refine CallO.gd 52 ?_); refine CallO.toB Tryd.call52 (ch _) ?_) | ((with_reducible refine CallO.gd 64 ?_); refine CallO.toB Tryd.call64 (cv _) ?_) | ((with_reducible refine CallP.gd 52 ?_); refine CallP.toB Tryd.call52 (ch _) ?_) | ((with_reducible refine CallP.gd 64 ?_); refine CallP.toB Tryd.call64 (cv _) ?_) | (refine hN _ ?_; try clear hN N; try clear hy ops) | (refine hA ?_; clear hA A hB B; try simp only [hz]) | (refine hB ?_; clear hA A hB B; try simp only [hz]) | (refine gG ?_ ?_ <;> (intro hz; have h := nm hz; try (exfalso; omega)) <;> (have hz := nz hz; try subst hz)) | (rw [if_pos (show _ ∧ _ from ⟨by omega, by omega⟩)]; refine sS ?_) | refine gT ?_ | (clear hN N))
    all_goals (first | exact retZ hQ Tryd.results80 (Desc.refl) | exact retZN hQ Tryd.results80 (Desc.refl))
  · rw [if_neg hp]
    rw [decide_eq_false hp] at ch
    have cv : True := trivial
    clear ht hn
    generalize p x.d = pp at *
    obtain ⟨d, o, n', a, m, ⟨cx, cy, cz⟩, w, k⟩ := x
    dsimp only at ch hd ⊢
    refine Sp.of_bodyE Tryd.func80 rfl ?_
    intro Q hQ
    simp only [List.replicate, List.length_cons, List.length_nil, Tryd.ntmps80, Nat.reduceAdd, Nat.reduceSub, List.cons_append, List.nil_append, go_sem]
    have hz : True := trivial
    have hy := yieldedV_eq
    have hL := True.intro
    repeat' (first | (refine WPV.seqK ?_; intro N hN) | refine gA ?_ | (refine gR (M := noM) ?_; intro N hN ops hy) | (refine gD (M := noM) ?_; intro N hN; have hy := yieldedV_eq) | (refine WPV.condK ?_; intro A hA B hB) | (refine here ?_; refine sS ?_) | refine Both.mk ?_ ?_ | ((with_reducible refine CallO.gd 52 ?_); refine CallO.toB Tryd.call52 (ch _) ?_) | ((with_reducible refine CallO.gd 64 ?_); refine CallO.toB Tryd.call64 (cv _) ?_) | ((with_reducible refine CallP.gd 52 ?_); refine CallP.toB Tryd.call52 (ch _) ?_) | ((with_reducible refine CallP.gd 64 ?_); refine CallP.toB Tryd.call64 (cv _) ?_) | (refine hN _ ?_; try clear hN N; try clear hy ops) | (refine hA ?_; clear hA A hB B; try simp only [hz]) | (refine hB ?_; clear hA A hB B; try simp only [hz]) | (refine gG ?_ ?_ <;> (intro hz; have h := nm hz; try (exfalso; omega)) <;> (have hz := nz hz; try subst hz)) | (rw [if_pos (show _ ∧ _ from ⟨by omega, by omega⟩)]; refine sS ?_) | refine gT ?_ | (clear hN N))
    all_goals (first | exact retZ hQ Tryd.results80 (Desc.re [some 0, some 1, none, some 2] rfl) | exact retZN hQ Tryd.results80 (Desc.re [some 0, some 1, none, some 2] rfl))
theorem textF_len {a : Wr} (h1 : a.k.size ≤ 64) (h2 : a.v.size ≤ 256) : (textF a).length ≤ 340 := by
  have l1 := vput_len (n := a.k.size) (by omega)
  have l2 := vput_len (n := a.v.size + 1) (by omega)
  have l3 := bsz2 a.k
  have l4 := bsz2 a.v
  unfold textF
  split
  · simp only [List.length_append, List.length_cons, List.length_nil]; omega
  · simp only [List.length_append]; omega
theorem putP_len (p : Prop) [Decidable p] (b : List UInt8) (n : Int) (hn : n < 18446744073709551616) : (putP p b [n]).length ≤ b.length + 10 := by
  have := vput_len (n := n.toNat) (by omega)
  unfold putP
  split
  · simp; omega
  · omega
def stepB (x : It) : List UInt8 :=
  putP (x.d = 6) (putP (x.d = 6) (putP (3 ≤ x.d ∧ x.d ≤ 6 ∨ x.d = 8) (putP (x.d < 3 ∨ x.d = 7 ∨ x.d = 8) (vput x.d.toNat) [x.o]) [x.n]) [x.a]) [x.m]
end Go.Proofs.YtgfnpcmehnjopaaDoor
end
