/- Parts of the proofs, joined: ScrN, ScrRa, ScrRb. -/
import Derived.Test.YtgfnpcmehnjopaaDoorS13
import Derived.Test.YtgfnpcmehnjopaaDoorS18
section
namespace Go.Proofs.YtgfnpcmehnjopaaDoor
open Go Go.RowKit
set_option linter.unusedVariables false
set_option linter.unusedSimpArgs false
variable {K : Nat → Obj → Prop}
abbrev rdD (b : List UInt8) (u : Nat) (e : Int) : Ho := .cells [.sl 1 (bs b), .sc (.int .i64 (u : Int)), .sc (.int .i64 e)]
set_option maxRecDepth 100000 in
set_option maxHeartbeats 1000000 in
theorem dnum_x (b : List UInt8) (u : Nat) (most : Nat) (above : Int) {p : UInt64} {m : Nat} {er : Int} (ht : tk (b.drop u) = (p, m, er)) (hm : m ≤ b.length - u) (hl : b.length ≤ 1000000) (hu : u ≤ b.length) (hb : most < 9223372036854775808) (ha : above ≠ 0) :
    Sp Tryd.prog K 91 [.ptr 0 0, .sc (.int .u64 (most : Int)), .sc (.int .i64 above)] [rdD b u 0] fun v hh =>
      v = .sc (.int .i64 (if er = 0 ∧ (p.toNat : Int) ≤ most then (p.toNat : Int) else 0)) ∧ hh = [rdD b (u + m) (if er = 0 ∧ (most : Int) < p.toNat then above else er)] := by
  have hp := p.toNat_lt
  refine Sp.of_bodyE Tryd.func91 rfl ?_
  intro Q hQ
  simp only [List.replicate, List.length_cons, List.length_nil, Tryd.ntmps91, Nat.reduceAdd, Nat.reduceSub, List.cons_append, List.nil_append, go_sem]
  have hz : True := trivial
  have hy := yieldedV_eq
  have hL := True.intro
  repeat' (first | (refine WPV.seqK ?_; intro N hN) | refine gA ?_ | (refine gR (M := noM) ?_; intro N hN ops hy) | (refine gD (M := noM) ?_; intro N hN; have hy := yieldedV_eq) | (refine WPV.condK ?_; intro A hA B hB) | (refine here ?_; refine sS ?_) | refine Both.mk ?_ ?_ | ((with_reducible refine CallO.gd 130 ?_); refine CallO.toB Tryd.call130 (vrtake_s ht (by simp only [List.length_drop]; omega) _) ?_) | ((with_reducible refine CallP.gd 130 ?_); refine CallP.toB Tryd.call130 (vrtake_s ht (by simp only [List.length_drop]; omega) _) ?_) | (refine hN _ ?_; try clear hN N; try clear hy ops) | (refine hA ?_; clear hA A hB B; try simp only [hz]) | (refine hB ?_; clear hA A hB B; try simp only [hz]) | (refine gG ?_ ?_ <;> (intro hz; have h := nm hz; try (exfalso; omega)) <;> (have hz := nz hz; try subst hz)) | (rw [if_pos (show _ ∧ _ from ⟨by omega, by omega⟩)]; refine sS ?_) | refine gT ?_ | (clear hN N))
  all_goals (first | exact retZ hQ Tryd.results91 (Desc.re [some 0] rfl) | exact retZN hQ Tryd.results91 (Desc.re [some 0] rfl))
set_option maxRecDepth 100000 in
theorem dnum_e (b : List UInt8) (u : Nat) (e : Int) (most : Nat) (above : Int) (he : e ≠ 0) :
    Sp Tryd.prog K 91 [.ptr 0 0, .sc (.int .u64 (most : Int)), .sc (.int .i64 above)] [rdD b u e] fun v hh => v = .sc (.int .i64 0) ∧ hh = [rdD b u e] := by
  refine Sp.of_bodyE Tryd.func91 rfl ?_
  intro Q hQ
  simp only [List.replicate, List.length_cons, List.length_nil, Tryd.ntmps91, Nat.reduceAdd, Nat.reduceSub, List.cons_append, List.nil_append, go_sem]
  have hz : True := trivial
  have hy := yieldedV_eq
  have hL := True.intro
  repeat' (first | (refine WPV.seqK ?_; intro N hN) | refine gA ?_ | (refine gR (M := noM) ?_; intro N hN ops hy) | (refine gD (M := noM) ?_; intro N hN; have hy := yieldedV_eq) | (refine WPV.condK ?_; intro A hA B hB) | (refine here ?_; refine sS ?_) | refine Both.mk ?_ ?_ | (refine hN _ ?_; try clear hN N; try clear hy ops) | (refine hA ?_; clear hA A hB B; try simp only [hz]) | (refine hB ?_; clear hA A hB B; try simp only [hz]) | (refine gG ?_ ?_ <;> (intro hz; have h := nm hz; try (exfalso; omega)) <;> (have hz := nz hz; try subst hz)) | (rw [if_pos (show _ ∧ _ from ⟨by omega, by omega⟩)]; refine sS ?_) | refine gT ?_ | (clear hN N))
  all_goals (first | exact retZ hQ Tryd.results91 (Desc.re [some 0] rfl) | exact retZN hQ Tryd.results91 (Desc.re [some 0] rfl))
def DR (b : List UInt8) (u : Nat) (s : Rst) : Prop := s.1 = b.drop u ∧ u ≤ b.length
theorem dnum_s {b : List UInt8} {u : Nat} {s s2 : Rst} {most n : Nat} {above : Int} (hd : DR b u s) (h : numR s most above = (n, s2)) (hl : b.length ≤ 1000000) (hb : most < 9223372036854775808) (ha : above ≠ 0) :
    ∃ u2, DR b u2 s2 ∧ Sp Tryd.prog K 91 [.ptr 0 0, .sc (.int .u64 (most : Int)), .sc (.int .i64 above)] [rdD b u s.2] fun v hh => v = .sc (.int .i64 (n : Int)) ∧ hh = [rdD b u2 s2.2] := by
  obtain ⟨r, e⟩ := s
  obtain ⟨rfl, hu⟩ := hd
  unfold numR at h
  dsimp only at h
  by_cases h0 : e = 0
  · subst h0
    rw [if_neg (by simp)] at h
    obtain ⟨p, m, er, ht⟩ : ∃ p m er, tk (b.drop u) = (p, m, er) := ⟨_, _, _, rfl⟩
    have hm := tk_le (b.drop u)
    rw [ht, List.length_drop] at hm
    rw [ht] at h
    have c := dnum_x (K := K) b u most above ht hm hl hu hb ha
    dsimp only at h hm
    refine ⟨u + m, ?_⟩
    split at h
    · rename_i h1
      simp only [Prod.mk.injEq] at h
      obtain ⟨rfl, rfl⟩ := h
      refine ⟨⟨by dsimp only; rw [List.drop_drop], by omega⟩, ?_⟩
      rwa [if_neg (by omega), if_pos (by omega)] at c
    · rename_i h1
      simp only [Prod.mk.injEq] at h
      obtain ⟨rfl, rfl⟩ := h
      refine ⟨⟨by dsimp only; rw [List.drop_drop], by omega⟩, ?_⟩
      rw [if_neg (show ¬ (er = 0 ∧ (most : Int) < p.toNat) by omega)] at c
      by_cases h2 : er = 0
      · rw [if_pos (by omega)] at c
        rw [if_neg (by omega)]
        exact c
      · rw [if_neg (by omega)] at c
        rw [if_pos h2]
        exact c
  · rw [if_pos h0] at h
    simp only [Prod.mk.injEq] at h
    obtain ⟨rfl, rfl⟩ := h
    exact ⟨u, ⟨rfl, hu⟩, dnum_e b u e most above h0⟩
theorem dsub_e (b : List UInt8) (u n : Nat) : (⟨((b.take (u + n)).drop u).toArray⟩ : ByteArray) = ⟨((b.drop u).take n).toArray⟩ := by
  rw [List.drop_take, show u + n - u = n by omega]
set_option maxRecDepth 100000 in
set_option maxHeartbeats 1000000 in
theorem dtxt_x (b : List UInt8) (u : Nat) (e : Int) (n : Nat) (hl : b.length ≤ 1000000) (hu : u ≤ b.length) (hn : n ≤ 1000) :
    Sp Tryd.prog K 93 [.ptr 0 0, .sc (.int .i64 (n : Int))] [rdD b u e] fun v hh =>
      v = .sc (.string (if e = 0 ∧ u + n ≤ b.length then ⟨((b.drop u).take n).toArray⟩ else ⟨#[]⟩)) ∧ hh = [.cells [.sl 1 (bs b), .sc (.int .i64 (if e = 0 ∧ u + n ≤ b.length then (u : Int) + n else u)), .sc (.int .i64 (if e = 0 ∧ b.length < u + n then 2 else e))]] := by
  have hs : (⟨(List.drop ((u : Int) + (n : Int) - (n : Int)).toNat (List.take ((u : Int) + (n : Int)).toNat b)).toArray⟩ : ByteArray) = ⟨((b.drop u).take n).toArray⟩ := by
    rw [show ((u : Int) + (n : Int) - (n : Int)).toNat = u by omega, show ((u : Int) + (n : Int)).toNat = u + n by omega, dsub_e]
  refine Sp.of_bodyE Tryd.func93 rfl ?_
  intro Q hQ
  simp only [List.replicate, List.length_cons, List.length_nil, Tryd.ntmps93, Nat.reduceAdd, Nat.reduceSub, List.cons_append, List.nil_append, go_sem]
  have hz : True := trivial
  have hy := yieldedV_eq
  have hL := And.intro @bs_unbs (@hs)
  repeat' (first | (refine WPV.seqK ?_; intro N hN) | refine gA ?_ | (refine gR (M := noM) ?_; intro N hN ops hy) | (refine gD (M := noM) ?_; intro N hN; have hy := yieldedV_eq) | (refine WPV.condK ?_; intro A hA B hB) | (refine here ?_; refine sS ?_) | refine Both.mk ?_ ?_ | (refine hN _ ?_; try clear hN N; try clear hy ops) | (refine hA ?_; clear hA A hB B; try simp only [hz]) | (refine hB ?_; clear hA A hB B; try simp only [hz]) | (refine gG ?_ ?_ <;> (intro hz; have h := nm hz; try (exfalso; omega)) <;> (have hz := nz hz; try subst hz)) | (rw [if_pos (show _ ∧ _ from ⟨by omega, by omega⟩)]; refine sS ?_) | refine gT ?_ | (clear hN N))
  all_goals (first | exact retZ hQ Tryd.results93 (Desc.re [some 0] rfl) | exact retZN hQ Tryd.results93 (Desc.re [some 0] rfl))
theorem dtxt_s {b : List UInt8} {u : Nat} {s s2 : Rst} {n : Nat} {t : ByteArray} (hd : DR b u s) (h : textR s n = (t, s2)) (hl : b.length ≤ 1000000) (hn : n ≤ 1000) (x : Int) (hx : x = (n : Int)) :
    ∃ u2, DR b u2 s2 ∧ Sp Tryd.prog K 93 [.ptr 0 0, .sc (.int .i64 x)] [rdD b u s.2] fun v hh => v = .sc (.string t) ∧ hh = [rdD b u2 s2.2] := by
  subst hx
  obtain ⟨r, e⟩ := s
  obtain ⟨rfl, hu⟩ := hd
  have c := dtxt_x (K := K) b u e n hl hu hn
  unfold textR at h
  dsimp only at h
  rw [List.length_drop] at h
  split at h
  · rename_i h0
    simp only [Prod.mk.injEq] at h
    obtain ⟨rfl, rfl⟩ := h
    refine ⟨u, ⟨rfl, hu⟩, ?_⟩
    rwa [if_neg (fun h => h0 h.1), if_neg (fun h => h0 h.1), if_neg (fun h => h0 h.1)] at c
  rename_i h0
  have h0 := Decidable.not_not.1 h0
  subst h0
  split at h
  · rename_i h1
    simp only [Prod.mk.injEq] at h
    obtain ⟨rfl, rfl⟩ := h
    refine ⟨u, ⟨rfl, hu⟩, ?_⟩
    rwa [if_neg (by omega), if_neg (by omega), if_pos (by omega)] at c
  · rename_i h1
    simp only [Prod.mk.injEq] at h
    obtain ⟨rfl, rfl⟩ := h
    refine ⟨u + n, ⟨by dsimp only; rw [List.drop_drop], by omega⟩, ?_⟩
    rwa [if_pos (by omega), if_pos (by omega), if_neg (by omega)] at c
end Go.Proofs.YtgfnpcmehnjopaaDoor
end
section
namespace Go.Proofs.YtgfnpcmehnjopaaDoor
open Go Go.RowKit
set_option linter.unusedVariables false
set_option linter.unusedSimpArgs false
variable {K : Nat → Obj → Prop}
abbrev itD (x : It) (u v : V) : List V := [.sc (.int .i64 x.d), .sc (.int .i64 x.o), .sc (.int .i64 x.n), .sc (.int .i64 x.a), .sc (.int .u32 x.m), .sc (.int .i64 x.c.x), .sc (.int .i64 x.c.y), .sc (.int .i64 x.c.z), u, v]
abbrev nilD : V := .sc (.slice none 0 0)
theorem whoN (x : It) (hd : 0 ≤ x.d ∧ x.d ≤ 8) (h : List Ho) : Sp Tryd.prog K 57 [.agg (itD x nilD nilD)] h fun u hh => u = .sc (.bool (decide (x.d < 3 ∨ x.d = 7 ∨ x.d = 8))) ∧ hh = h :=
  (rwho_s ⟨x.d, x.o, x.n, x.a, x.m, x.c, [], []⟩ hd h).wk (Wk.agg (.same (.same (.same (.same (.same (.same (.same (.same (.null (.null .nil)))))))))) Wk.refl)
theorem numberN (x : It) (hd : 0 ≤ x.d ∧ x.d ≤ 8) (h : List Ho) : Sp Tryd.prog K 58 [.agg (itD x nilD nilD)] h fun u hh => u = .sc (.bool (decide (3 ≤ x.d ∧ x.d ≤ 6 ∨ x.d = 8))) ∧ hh = h :=
  (rnumber_s ⟨x.d, x.o, x.n, x.a, x.m, x.c, [], []⟩ hd h).wk (Wk.agg (.same (.same (.same (.same (.same (.same (.same (.same (.null (.null .nil)))))))))) Wk.refl)
def dreadP (K : Nat → Obj → Prop) (b : List UInt8) : Prop := Sp Tryd.prog K 49 [.sl 1 (bs b)] [] fun u hh => u = .tup [itV (readI b).1, .sc (.int .i64 (readI b).2)] ∧ hh = []
theorem numIf_t {p : Prop} [Decidable p] (h : p) (s : Rst) (most : Nat) : numIf p s most = numR s most 1 := by unfold numIf; rw [if_pos h]
theorem numIf_f {p : Prop} [Decidable p] (h : ¬ p) (s : Rst) (most : Nat) : numIf p s most = (0, s) := by unfold numIf; rw [if_neg h]
theorem clockIf_f {p : Prop} [Decidable p] (h : ¬ p) (s : Rst) : clockIf p s = (⟨0, 0, 0⟩, s) := by unfold clockIf; rw [if_neg h]
theorem DR0 (b : List UInt8) : DR b 0 (b, 0) := ⟨rfl, Nat.zero_le _⟩
set_option maxRecDepth 100000 in
set_option maxHeartbeats 1000000 in
theorem dread_e (b : List UInt8) (hl : b.length ≤ 1000000) {d : Nat} {s0 : Rst} (h0 : numR (b, 0) 8 3 = (d, s0)) (he : s0.2 ≠ 0) : dreadP K b := by
  unfold dreadP
  obtain ⟨u0, D0, c0⟩ := dnum_s (K := K) (DR0 b) h0 hl (by omega) (by decide)
  have hd0 := numR_err (s := (b, 0)) (most := 8) (above := 3) (by decide) (by rw [h0]; exact he)
  rw [h0] at hd0
  dsimp only at hd0
  subst hd0
  rw [readI_err h0 he]
  obtain ⟨b0, e0⟩ := s0
  dsimp only at he c0 ⊢
  simp only [Int.cast_ofNat_Int] at c0
  unfold It.zero
  refine Sp.of_bodyE Tryd.func49 rfl ?_
  intro Q hQ
  simp only [List.replicate, List.length_cons, List.length_nil, Tryd.ntmps49, Nat.reduceAdd, Nat.reduceSub, List.cons_append, List.nil_append, go_sem]
  have hz : True := trivial
  have hy := yieldedV_eq
  have hL := True.intro
  repeat' (first | (refine WPV.seqK ?_; intro N hN) | refine gA ?_ | (refine gR (M := noM) ?_; intro N hN ops hy) | (refine gD (M := noM) ?_; intro N hN; have hy := yieldedV_eq) | (refine WPV.condK ?_; intro A hA B hB) | (refine here ?_; refine sS ?_) | refine Both.mk ?_ ?_ | ((with_reducible refine CallO.gd 91 ?_); refine CallO.frB [1] Tryd.call91 (c0) ?_) | (refine hN _ ?_; try clear hN N; try clear hy ops) | (refine hA ?_; clear hA A hB B; try simp only [hz]) | (refine hB ?_; clear hA A hB B; try simp only [hz]) | (refine gG ?_ ?_ <;> (intro hz; have h := nm hz; try (exfalso; omega)) <;> (have hz := nz hz; try subst hz)) | (rw [if_pos (show _ ∧ _ from ⟨by omega, by omega⟩)]; refine sS ?_) | refine gT ?_ | (clear hN N))
  all_goals (first | exact retZ hQ Tryd.results49 (Desc.re [] rfl) | exact retZN hQ Tryd.results49 (Desc.re [] rfl))
end Go.Proofs.YtgfnpcmehnjopaaDoor
end
section
namespace Go.Proofs.YtgfnpcmehnjopaaDoor
open Go Go.RowKit
set_option linter.unusedVariables false
set_option linter.unusedSimpArgs false
variable {K : Nat → Obj → Prop}
set_option maxRecDepth 100000 in
set_option maxHeartbeats 4000000 in
theorem dread_6 (b : List UInt8) (hl : b.length ≤ 1000000) {d : Nat} {s0 : Rst} (h0 : numR (b, 0) 8 3 = (d, s0)) (he : s0.2 = 0) (h6 : d = 6) : dreadP K b := by
  unfold dreadP
  obtain ⟨u0, D0, c0⟩ := dnum_s (K := K) (DR0 b) h0 hl (by omega) (by decide)
  have d8 := (numR_ok h0).1
  obtain ⟨o, s1, h1⟩ : ∃ o s, numIf (d < 3 ∨ d = 7 ∨ d = 8) s0 4611686018427387903 = (o, s) := ⟨_, _, rfl⟩
  obtain ⟨n, s2, h2⟩ : ∃ o s, numIf (3 ≤ d ∧ d ≤ 6 ∨ d = 8) s1 4611686018427387903 = (o, s) := ⟨_, _, rfl⟩
  obtain ⟨a, s3, h3⟩ : ∃ o s, numIf (d = 6) s2 4611686018427387903 = (o, s) := ⟨_, _, rfl⟩
  obtain ⟨m, s4, h4⟩ : ∃ o s, numIf (d = 6) s3 4294967295 = (o, s) := ⟨_, _, rfl⟩
  have m8 := (numIf_ok h4).1
  rw [readI_of h0 he h1 h2 h3 h4 (clockIf_f (by omega) _) (numIf_f (by omega) _ _) rfl (numIf_f (by omega) _ _) rfl]
  obtain ⟨u1, D1, c1, k1⟩ : ∃ u1, DR b u1 s1 ∧ ((d < 3 ∨ d = 7 ∨ d = 8) → Sp Tryd.prog K 91 [.ptr 0 0, .sc (.int .u64 4611686018427387903), .sc (.int .i64 1)] [rdD b u0 s0.2] fun v hh => v = .sc (.int .i64 (o : Int)) ∧ hh = [rdD b u1 s1.2]) ∧ (¬ (d < 3 ∨ d = 7 ∨ d = 8) → o = 0 ∧ u1 = u0 ∧ s1.2 = s0.2) := by
    by_cases p : d < 3 ∨ d = 7 ∨ d = 8
    · rw [numIf_t p] at h1
      obtain ⟨u1, D1, c⟩ := dnum_s (K := K) D0 h1 hl (by omega) (by decide)
      exact ⟨u1, D1, fun _ => c, fun h => absurd p h⟩
    · rw [numIf_f p] at h1
      simp only [Prod.mk.injEq] at h1
      obtain ⟨rfl, rfl⟩ := h1
      exact ⟨u0, D0, fun h => absurd h p, fun _ => ⟨rfl, rfl, rfl⟩⟩
  obtain ⟨u2, D2, c2, k2⟩ : ∃ u2, DR b u2 s2 ∧ ((3 ≤ d ∧ d ≤ 6 ∨ d = 8) → Sp Tryd.prog K 91 [.ptr 0 0, .sc (.int .u64 4611686018427387903), .sc (.int .i64 1)] [rdD b u1 s1.2] fun v hh => v = .sc (.int .i64 (n : Int)) ∧ hh = [rdD b u2 s2.2]) ∧ (¬ (3 ≤ d ∧ d ≤ 6 ∨ d = 8) → n = 0 ∧ u2 = u1 ∧ s2.2 = s1.2) := by
    by_cases p : 3 ≤ d ∧ d ≤ 6 ∨ d = 8
    · rw [numIf_t p] at h2
      obtain ⟨u2, D2, c⟩ := dnum_s (K := K) D1 h2 hl (by omega) (by decide)
      exact ⟨u2, D2, fun _ => c, fun h => absurd p h⟩
    · rw [numIf_f p] at h2
      simp only [Prod.mk.injEq] at h2
      obtain ⟨rfl, rfl⟩ := h2
      exact ⟨u1, D1, fun h => absurd h p, fun _ => ⟨rfl, rfl, rfl⟩⟩
  have cw := fun h => whoN (K := K) ⟨d, 0, 0, 0, 0, ⟨0, 0, 0⟩, [], []⟩ (by dsimp only; omega) h
  have cn := fun h => numberN (K := K) ⟨d, o, 0, 0, 0, ⟨0, 0, 0⟩, [], []⟩ (by dsimp only; omega) h
  subst h6
  rw [numIf_t rfl] at h3 h4
  obtain ⟨u3, D3, c3⟩ := dnum_s (K := K) D2 h3 hl (by omega) (by decide)
  obtain ⟨u4, D4, c4⟩ := dnum_s (K := K) D3 h4 hl (by omega) (by decide)
  have csc := rscheck_s (K := K) ⟨(6 : Nat), o, n, a, m, ⟨0, 0, 0⟩, [], []⟩ (by dsimp only; omega) (by simp) (by simp)
  have csc := fun h => Sp.wk (Sp.lift csc (fun _ => rfl) (fun _ => rfl) h) (Wk.agg (.same (.same (.same (.same (.same (.same (.same (.same (.null (k := 3) (.null (k := 1) .nil)))))))))) Wk.refl)
  obtain ⟨e4, D4u⟩ := D4
  unfold endI
  rw [e4, List.length_drop]
  generalize checkI ⟨(6 : Nat), o, n, a, m, ⟨0, 0, 0⟩, [], []⟩ = ck at *
  clear h0 h1 h2 h3 h4 D0 D1 D2 D3 e4
  obtain ⟨b0, e0⟩ := s0
  obtain ⟨b1, e1⟩ := s1
  obtain ⟨b2, e2⟩ := s2
  obtain ⟨b3, e3⟩ := s3
  obtain ⟨b4, e4⟩ := s4
  dsimp only at *
  simp only [Int.cast_ofNat_Int] at *
  have c1 := True.intro
  have c3' := c3
  subst he
  obtain ⟨rfl, rfl, rfl⟩ := k1 (by omega)
  have c1 := c2 (by omega)
  clear k1 k2 c2 c3'
  refine Sp.of_bodyE Tryd.func49 rfl ?_
  intro Q hQ
  simp only [List.replicate, List.length_cons, List.length_nil, Tryd.ntmps49, Nat.reduceAdd, Nat.reduceSub, List.cons_append, List.nil_append, go_sem]
  have hz : True := trivial
  have hy := yieldedV_eq
  have hL := True.intro
  repeat' (first | (refine WPV.seqK ?_; intro N hN) | refine gA ?_ | (refine gR (M := noM) ?_; intro N hN ops hy) | (refine gD (M := noM) ?_; intro N hN; have hy := yieldedV_eq) | (refine WPV.condK ?_; intro A hA B hB) | (refine here ?_; refine sS ?_) | refine Both.mk ?_ ?_ | ((with_reducible refine CallO.gd 91 ?_); first | refine CallO.frB [1] Tryd.call91 (c0) ?_ | refine CallO.frB [1] Tryd.call91 (c1) ?_ | refine CallO.frB [1] Tryd.call91 (c3) ?_ | refine CallO.frB [1] Tryd.call91 (c4) ?_) | ((with_reducible refine CallO.gd 57 ?_); refine CallO.toB Tryd.call57 (cw _) ?_) | ((with_reducible refine CallO.gd 58 ?_); refine CallO.toB Tryd.call58 (cn _) ?_) | ((with_reducible refine CallO.gd 18 ?_); refine CallO.toB Tryd.call18 (csc _) ?_) | ((with_reducible refine CallP.gd 57 ?_); refine CallP.toB Tryd.call57 (cw _) ?_) | ((with_reducible refine CallP.gd 58 ?_); refine CallP.toB Tryd.call58 (cn _) ?_) | ((with_reducible refine CallP.gd 18 ?_); refine CallP.toB Tryd.call18 (csc _) ?_) | (refine hN _ ?_; try clear hN N; try clear hy ops) | (refine hA ?_; clear hA A hB B; try simp only [hz]) | (refine hB ?_; clear hA A hB B; try simp only [hz]) | (refine gG ?_ ?_ <;> (intro hz; have h := nm hz; try (exfalso; omega)) <;> (have hz := nz hz; try subst hz)) | (rw [if_pos (show _ ∧ _ from ⟨by omega, by omega⟩)]; refine sS ?_) | refine gT ?_ | (clear hN N))
  all_goals (first | exact retZ hQ Tryd.results49 (Desc.re [] rfl) | exact retZN hQ Tryd.results49 (Desc.re [] rfl))
end Go.Proofs.YtgfnpcmehnjopaaDoor
end
